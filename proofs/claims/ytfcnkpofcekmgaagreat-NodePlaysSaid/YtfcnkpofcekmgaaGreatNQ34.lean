/- Texts joined. -/
import Derived.Test.YtfcnkpofcekmgaaGreatNQ31
set_option maxRecDepth 100000
set_option maxHeartbeats 64000000
namespace Go.Proofs.YtfcnkpofcekmgaaGreat
open Go.RowKit
theorem mL (p:Int) (hp: -9223372036854775808≤p∧p≤9223372036854775807) (w:World):Calls Tryz.prog 62 #[.int .i64 p] w fun e w'=>e= .returned (.bool (zT p))∧w=w':=by
 by_cases h1:p<512
 ·have HV:=Lib.hid (qI (.inl h1));go_enter Tryz.func62,Tryz.ntmps62;go_wp2_with fail;go_ret;rw [HV.out];exact ⟨rfl,rfl⟩
 by_cases h2:65536<p
 ·have HV:=Lib.hid (qI (.inr h2));go_enter Tryz.func62,Tryz.ntmps62;go_wp2_with fail;go_ret;rw [HV.out];exact ⟨rfl,rfl⟩
 have hq:=uY p (by omega) (by omega);go_enter Tryz.func62,Tryz.ntmps62;go_wp2_with fail;go_ret;exact ⟨rfl,rfl⟩
theorem iJ (P:Nat) (hp:zT (P:Int)=true) (w:World):Calls Tryz.prog 33 #[.int .i64 (P:Int)] w fun e w'=>e= .returned (.int .i64 ((P/8:Nat):Int))∧w=w':=by
 have hr:=zZ hp;have hi:=mL (P:Int) (by omega) w;rw [hp] at hi
 have e1:IntKind.i64.wrap ((P:Int)/8)=(P:Int)/8:=by rw [IntKind.wrap_i64];omega
 have e2:IntKind.i64.wrap ((P:Int)/16)=(P:Int)/16:=by rw [IntKind.wrap_i64];omega
 have e3:IntKind.i64.wrap ((P:Int)/16*3)=(P:Int)/16*3:=by rw [IntKind.wrap_i64];omega
 clear hp;go_enter Tryz.func33,Tryz.ntmps33
 go_wp2_with (first
  |(go_at_call 62;(with_reducible refine hi.mono ?_);rintro e w1 ⟨rfl,rfl⟩)
  |fail)
 go_ret;exact ⟨rfl,rfl⟩
theorem rN (P:Nat) (hp:zT (P:Int)=true) (w:World):Calls Tryz.prog 35 #[.int .i64 (P:Int)] w fun e w'=>e= .returned (.int .i64 ((P/16*3:Nat):Int))∧w=w':=by
 have hr:=zZ hp;have hi:=mL (P:Int) (by omega) w;rw [hp] at hi
 have e1:IntKind.i64.wrap ((P:Int)/8)=(P:Int)/8:=by rw [IntKind.wrap_i64];omega
 have e2:IntKind.i64.wrap ((P:Int)/16)=(P:Int)/16:=by rw [IntKind.wrap_i64];omega
 have e3:IntKind.i64.wrap ((P:Int)/16*3)=(P:Int)/16*3:=by rw [IntKind.wrap_i64];omega
 clear hp;go_enter Tryz.func35,Tryz.ntmps35
 go_wp2_with (first
  |(go_at_call 62;(with_reducible refine hi.mono ?_);rintro e w1 ⟨rfl,rfl⟩)
  |fail)
 go_ret;exact ⟨rfl,rfl⟩
def zKS (c:PC):PC:={c with key:= []}
def bA (kind:Int) (l:List PC) (k:Nat):List PC:=if kind=3 then (match l.drop k with| []=> []|c::r=>zKS c::r) else l.drop k
theorem zKM (kind:Int) (l:List PC) (k:Nat):(bA kind l k).length=l.length-k:=by
 unfold bA
 split
 ·cases h:l.drop k with
  |nil=>have:=congrArg List.length h;simp at this;simp;omega
  |cons x r=>have:=congrArg List.length h;simp at this;simp;omega
 ·simp
section
variable (sz:List PC→Nat) (fit:List PC→Bool) (kind:Int) (l:List PC)
end
end Go.Proofs.YtfcnkpofcekmgaaGreat
