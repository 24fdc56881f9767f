/- Texts joined. -/
import Derived.Test.YtfcnkpofcekmgaaGreatNQ24
set_option maxRecDepth 100000
set_option maxHeartbeats 64000000
namespace Go.Proofs.YtfcnkpofcekmgaaGreat
open Go.RowKit
section laws
variable {w:World} {ops:Array Oper} {o:Oper} {a:Act} {Q:Exit→Act→World→Prop}
theorem pX {K:Act→World→Prop} {E:Prop} (s x:Operand)
 (ho:o.op= .call {callee:= .builtin .append,args:= #[s,x],argTypes:= #[41,41]}) (hw:Region.wanted o (yielded ops a.tmps)=true)
 (base:Nat) (v:Value) (l:List UInt8) (hs:a.eval s=v) (hown:OwB w base v l)
 (vx:Value) (m:List UInt8) (hx:a.eval x=vx) (hr:RdB w vx m) (hsm:l.length+m.length≤140737488355328) (hbase:base≤w.heap.size)
 (h:∀v' w',OwB w' base v' (l++m)→w.grownBy w' v.ownBlock→(v'.ownBlock=v.ownBlock∨v'.ownBlock=some w.heap.size)→K (a.put o.dst v') w'):
 if Region.wanted o (yielded ops a.tmps)=true then Oper.wp Tryz.prog o a w K Q else E:=by
 rw [if_pos hw];obtain ⟨i,hi,hz0,hz1,hz2⟩:=info_parts b8;obtain ⟨v',w',hr,h2,h3,h4⟩:=gH (P:=Tryz.prog) w base _ 41 o.type 5 i _ 1 1 Tryz.underlying41 hi hz0 hz1 hz2 rfl v l.length (bvs l) hown vx m.length (bvs m) (Rd.src w Tryz.underlying41 (by omega) hr.rd (dL m)) (by omega) hsm hbase;unfold Oper.wp execOp;simp only [ho,resolve,invoke,builtin,Sem.run_bind,Sem.run_pure,Result.andThen_ok,List.map_toArray,List.map_cons,List.map_nil,hs,hx,hr];refine h v' w' ?_ h3 h4;unfold OwB;rw [List.length_append,gF];exact h2
end laws
theorem dU {w:World} {ops:Array Oper} {o:Oper} {a:Act} {Q:Exit→Act→World→Prop} {K:Act→World→Prop} {E:Prop} (hgd:o.guard=none) (s x:Operand)
 (ho:o.op= .call {callee:= .builtin .append,args:= #[s,x],argTypes:= #[41,41]})
 (base:Nat) (v:Value) (l:List UInt8) (hs:a.eval s=v) (hown:OwB w base v l)
 (vx:Value) (m:List UInt8) (hx:a.eval x=vx) (hr:RdB w vx m) (hsm:l.length+m.length≤140737488355328) (hbase:base≤w.heap.size)
 (h:∀v' w',OwB w' base v' (l++m)→w.grownBy w' v.ownBlock→(v'.ownBlock=v.ownBlock∨v'.ownBlock=some w.heap.size)→K (a.put o.dst v') w'):
 if Region.wanted o (yielded ops a.tmps)=true then Oper.wp Tryz.prog o a w K Q else E:=
 pX s x ho (by simp [Region.wanted,hgd]) base v l hs hown vx m hx hr hsm hbase h
def mk9 (j:Nat):List UInt8:=(List.range j).map fun (i:Nat)=>UInt8.ofNat (200+i)
theorem gO (j:Nat):(mk9 j).length=j:=by simp [mk9]
theorem zFR (j:Nat):mk9 (j+1)=mk9 j++ [UInt8.ofNat (200+j)]:=by unfold mk9;rw [List.range_succ,List.map_append];rfl
theorem zGF (j i:Nat) (h:i<j):(mk9 j)[i]? =some (UInt8.ofNat (200+i)):=by
 unfold mk9;rw [List.getElem?_map,List.getElem?_range h];rfl
def fL (l:List UInt8) (j:Nat):List UInt8:=l++(mk9 j++List.replicate (9-j) 0)
theorem fC (l:List UInt8) (j:Nat) (h:j≤9):(fL l j).length=l.length+9:=by simp [fL,gO];omega
theorem zDS (l:List UInt8) (j:Nat) (h:j<9):(fL l j).set (l.length+j) (UInt8.ofNat (200+j))=fL l (j+1):=by
 unfold fL;rw [List.set_append_right _ _ (by omega),Nat.add_sub_cancel_left]
 congr 1
 rw [List.set_append_right _ _ (by rw [gO];exact Nat.le_refl _),gO,Nat.sub_self,zFR,List.append_assoc]
 congr 1
 rw [show 9-j=(9-(j+1))+1 by omega,List.replicate_succ,List.set_cons_zero];rfl
theorem aX (l:List UInt8):splice (List.replicate (l.length+9) 0) 0 (l.take (min l.length (l.length+9)))=fL l 0:=by
 rw [Nat.min_eq_left (by omega),List.take_length];unfold splice fL;simp [mk9,List.drop_replicate]
def qK:List UInt8:=mk9 9
theorem zBY (l:List UInt8):fL l 9=l++qK:=by unfold fL qK;simp
theorem zJ8 (j:Nat) (h:j<9):((UInt8.ofNat (200+j)).toNat:Int)=200+(j:Int):=by
 rw [UInt8.toNat_ofNat'];omega
theorem oU (v:Value) (l:List UInt8) (w:World) (hv:RdB w v l) (hl:l.length≤140737488355328):
 Calls Tryz.prog 87 #[v] w fun e w'=>∃g,e= .returned (.slice (some ⟨g,0,none⟩) l.length (l.length+9))∧OwB w' w.heap.size (.slice (some ⟨g,0,none⟩) (l.length+9) (l.length+9)) (l++qK)∧Below w.heap.size w w':=by
 obtain ⟨A,c,rfl,hm⟩:=hv.form;go_enter Tryz.func87,Tryz.ntmps87
 go_wp2_with (first
  |(at_make;refine bQ rfl (.tmp 7) (.tmp 7) rfl _ (l.length+9) rfl rfl (by go_num) (by omega) ?_;intro w1 hb1 hw1 hs1)
  |((with_reducible refine dM ?_);refine dG rfl (.tmp 9) (.tmp 10) rfl _ (l.length+9) _ w.heap.size 0 rfl _ hb1 (fun _=>rfl) (by simp) _ l rfl (hv.below hw1 (Nat.le_refl _)) ?_;intro w2 hb2 hg2;rw [aX] at hb2)
  |fail)
 have hw2:=hw1.grown hg2 hw1.size (fun k hk=>Nat.le_of_eq (Option.some.inj hk));clear hb1 hw1 hg2
 go_loopw [4] (fun i wr=>∃d:Nat,d≤9∧i= .int .i64 ((l.length+d:Nat):Int)∧OBlk wr w.heap.size 5 (bvs (fL l d))∧Below w.heap.size w wr) (fun i _=>l.length+9-(intOf i).toNat)
 case atStart=>exact ⟨0,by omega,rfl,hb2,hw2⟩
 case round=>
  clear hb2 hw2;obtain ⟨d,hd,rfl,hb,hw⟩:=hrel
  by_cases hlt:d<9
  ·have hml:=fC l d (by omega);have hc:=hb.cell' (mD (fL l d) (l.length+d) (by omega));have hf:=hb.frozen (j:=l.length+d) (by rw [yO];omega);have hset:=hb.set (l.length+d) (.int .u8 ((UInt8.ofNat (200+d)).toNat:Int));rw [←g7,zDS l d hlt,zJ8 d hlt] at hset;generalize ((fL l d)[l.length+d]'(by omega)).toNat=y at hc;obtain ⟨k,hk⟩:∃k,k=l.length+d:=⟨_,rfl⟩
   have e1:(200:Int)+(k:Int)-(l.length:Int)=200+(d:Int):=by omega
   have e2:IntKind.u8.wrap (200+(d:Int))=200+(d:Int):=IntWalk.u8_in _ (by omega)
   have ik:k<l.length+9:=by omega
   rw [←hk] at hc hf hset⊢;have HK:=Lib.hid hk;clear hml hk;go_wp2_with fail;go_roundw
   case rel=>exact ⟨d+1,by omega,by rw [HK.out];go_num,hset,hw.setCell (Nat.le_refl _) _⟩
   case measure=>have:=HK.out;simp [intOf];omega
  ·obtain rfl:d=9:=by omega
   have ho:=hb.owB' (base:=w.heap.size) (Nat.le_refl _) (by rw [fC l 9 (by omega)];simp only [maxLen];omega);rw [fC l 9 (by omega),zBY] at ho;clear hb;go_wp2_with fail;go_ret;exact ⟨w.heap.size,rfl,ho,hw⟩
def as9 (l:List UInt8) (k:Nat):List UInt8:=List.replicate k 77++(l++qK).drop k
theorem eI (l:List UInt8) (k:Nat) (h:k≤l.length+9):(as9 l k).length=l.length+9:=by simp [as9,qK,gO];omega
theorem zGX (l:List UInt8) (k:Nat) (h:k<l.length+9):(as9 l k).set k 77=as9 l (k+1):=by
 have hl:(l++qK).length=l.length+9:=by simp [qK,gO]
 unfold as9;rw [List.set_append_right _ _ (by simp),List.length_replicate,Nat.sub_self,List.drop_eq_getElem_cons (by omega),List.set_cons_zero,List.replicate_succ',List.append_assoc];rfl
theorem zHH (l:List UInt8) (d:Nat) (h:d<9):(as9 l (l.length+d))[l.length+d]? =some (UInt8.ofNat (200+d)):=by
 unfold as9;rw [List.getElem?_append_right (by simp),List.length_replicate,Nat.sub_self,List.getElem?_drop,Nat.add_zero,List.getElem?_append_right (by omega),Nat.add_sub_cancel_left];exact zGF 9 d h
theorem OwB.part' {w:World} {base g n k c:Nat} {x s:List UInt8} (h:OwB w base (.slice (some ⟨g,0,none⟩) (n+k) c) (x++s)) (hx:x.length=n):RdB w (.slice (some ⟨g,0,none⟩) n c) x:=by
 subst hx
 have:=(h.take (m:=x.length) (by omega)).rd
 rw [List.take_left] at this;exact this
theorem eH (g n:Nat) (vb:Value) (l:List UInt8) (base:Nat) (w:World) (hn:l.length=n) (ho:OwB w base (.slice (some ⟨g,0,none⟩) (n+9) (n+9)) (l++qK)) (hv:RdB w vb l) (hl:n≤140737488355328):
 Calls Tryz.prog 88 #[.slice (some ⟨g,0,none⟩) n (n+9),vb] w fun e w'=>e= .returned (.bool true)∧w.grownBy w' (some g):=by
 subst hn;obtain ⟨A,c,rfl,hm⟩:=hv.form;have q1:=yM hv;have q2:=yM (ho.part' rfl);go_enter Tryz.func88,Tryz.ntmps88;go_wp2_with fail;clear q1 q2
 go_loopw [6,7] (fun gd i wr=>∃k:Nat,gd= .bool true∧i= .int .i64 (k:Int)∧k≤l.length+9∧OwB wr base (.slice (some ⟨g,0,none⟩) (l.length+9) (l.length+9)) (as9 l k)∧w.grownBy wr (some g)) (fun _ i _=>l.length+9-(intOf i).toNat)
 case atStart=>exact ⟨0,rfl,rfl,Nat.zero_le _,by simpa [as9] using ho,World.grownBy.refl w _⟩
 case round=>
  clear ho hv;obtain ⟨k,rfl,rfl,hk,ho,hg⟩:=hrel
  by_cases hlt:k<l.length+9
  ·have hml:=eI l k hk;have hc:=ho.cell (j:=k) (by omega);have hf:=ho.frozen (j:=k) (by omega);have hset:=ho.set k 77;rw [zGX l k hlt] at hset;have hset':OwB (wr.setCell ⟨g,k,none⟩ (.int .u8 77)) base (.slice (some ⟨g,0,none⟩) (l.length+9) (l.length+9)) (as9 l (k+1)):=hset
   have ik:(k:Int)<((l.length+9:Nat):Int):=by omega
   have ik2:k<l.length+9:=hlt
   by_cases hd:k<l.length
   ·have id:(k:Int)<(l.length:Int):=by omega
    have id2:¬(l.length:Int)≤(k:Int):=by omega
    generalize ((as9 l k)[k]'(by omega)).toNat=y at hc;clear hml hset;go_wp2_with fail;go_roundw
    case rel=>exact ⟨k+1,rfl,by go_num,by omega,hset',xD hg (zY _ _ _)⟩
    case measure=>simp [intOf];omega
   ·obtain ⟨d,hd2⟩:∃d,k=l.length+d:=⟨k-l.length,by omega⟩
    have hd9:d<9:=by omega
    have e0:(as9 l k)[k]'(by omega)=UInt8.ofNat (200+d):=by
     have:=zHH l d hd9
     rw [←hd2,List.getElem?_eq_getElem (by omega)] at this;exact Option.some.inj this
    rw [e0,zJ8 d hd9] at hc
    have e1:(200:Int)+(k:Int)-(l.length:Int)=200+(d:Int):=by omega
    have e2:IntKind.u8.wrap (200+(d:Int))=200+(d:Int):=IntWalk.u8_in _ (by omega)
    have id:(l.length:Int)≤(k:Int):=by omega
    clear hml hset e0 hd2 hd;go_wp2_with fail;go_roundw
    case rel=>exact ⟨k+1,rfl,by go_num,by omega,hset',xD hg (zY _ _ _)⟩
    case measure=>simp [intOf];omega
  ·obtain rfl:k=l.length+9:=by omega
   go_wp2_with fail;go_ret;exact ⟨rfl,hg⟩
theorem pT {w0 w:World} {L:List Ent} {vb:Value} {l:List UInt8} {g n:Nat} (h:Sep w0 w (zB (.slice (some ⟨g,0,none⟩) (n+9) (n+9)) (l++qK)::L)) (hn:l.length=n) (hv:RdB w vb l) (hl:n≤140737488355328):
 Calls Tryz.prog 88 #[.slice (some ⟨g,0,none⟩) n (n+9),vb] w fun e w'=>e= .returned (.bool true)∧Sep w0 w' L:=by
 refine (eH g n vb l 0 w hn h.head hv hl).mono ?_;rintro e w' ⟨rfl,hg⟩;exact ⟨rfl,h.kill (Turn.of_grown hg (fun k e=>e))⟩
theorem tN {w:World} {b0 g m:Nat} {bl:List UInt8} (h:OwB w b0 (.slice (some ⟨g,0,none⟩) (m+9) (m+9)) (bl++qK)) (hl:bl.length=m):RdB w (.slice (some ⟨g,0,none⟩) m (m+9)) bl:=by
 have h1:=OwB.take h (m:=m) (by omega);rw [List.take_left' hl] at h1;exact h1.rd
theorem zKV {w:World} {b0 g:Nat} {bl:List UInt8} (h:OwB w b0 (.slice (some ⟨g,0,none⟩) (bl.length+9) (bl.length+9)) (bl++qK)):RdB w (.slice (some ⟨g,0,none⟩) bl.length (bl.length+9)) bl:=tN h rfl
def vG (gk gv:Nat) (c:PC):CV:=⟨.slice (some ⟨gk,0,none⟩) c.key.length (c.key.length+9),.slice (some ⟨gv,0,none⟩) c.val.length (c.val.length+9),c⟩
structure LentAt (W:World) (base gk gv:Nat) (c:PC):Prop where
 k:OwB W base (.slice (some ⟨gk,0,none⟩) (c.key.length+9) (c.key.length+9)) (c.key++qK)
 v:OwB W base (.slice (some ⟨gv,0,none⟩) (c.val.length+9) (c.val.length+9)) (c.val++qK)
 lt:gk<gv
theorem LentAt.grown {w w':World} {base gk gv:Nat} {c:PC} {row:Option Nat} (h:LentAt w base gk gv c) (hg:w.grownBy w' row) (h1:some gk≠row) (h2:some gv≠row):LentAt w' base gk gv c:=
 ⟨h.k.grown hg (fun g e=>by injection e with e;subst e;exact h1),h.v.grown hg (fun g e=>by injection e with e;subst e;exact h2),h.lt⟩
theorem LentAt.below {w w':World} {base gk gv:Nat} {c:PC} (h:LentAt w base gk gv c) (hb:Below w.heap.size w w'):LentAt w' base gk gv c:=
 ⟨h.k.below2 hb,h.v.below2 hb,h.lt⟩
def zA3 (w:World) (c:PC) (e:Ending) (w':World):Prop:=∃gk gv,e= .returned (zJ (vG gk gv c))∧LentAt w' w.heap.size gk gv c∧Below w.heap.size w w'
theorem lD (x:CV) (w:World) (hx:x.ok w) (h1:x.c.key.length≤140737488355328) (h2:x.c.val.length≤140737488355328):
 Calls Tryz.prog 46 #[zJ x] w (zA3 w x.c):=by
 obtain ⟨A,ca,B,cb,key,ck,val,pg,ct,rfl,_,_⟩:=CV.form hx;have hxk:RdB w (.slice A key.length ca) key:=hx.k;have hxv:RdB w (.slice B val.length cb) val:=hx.v;simp only at h1 h2;have hb0:Below w.heap.size w (w.alloc (.cells #[.slice A key.length ca,.int .i64 ck,.slice B val.length cb,.int .i64 pg,.int .i64 ct] 43)):=(Below.refl _ _).alloc (Nat.le_refl _) _;have hc0:=OBlk.new' w 43 [.slice A key.length ca,.int .i64 ck,.slice B val.length cb,.int .i64 pg,.int .i64 ct];unfold zJ zA3;clear hx;go_enter Tryz.func46,Tryz.ntmps46;go_upto_region 1 with (fail);have hcp:=hc0.alloc (.cells #[.slice none 0 0,.int .i64 0,.slice none 0 0,.int .i64 0,.int .i64 0] 43)
 have hcr:OBlk ((w.alloc (.cells #[.slice A key.length ca,.int .i64 ck,.slice B val.length cb,.int .i64 pg,.int .i64 ct] 43)).alloc (.cells #[.slice none 0 0,.int .i64 0,.slice none 0 0,.int .i64 0,.int .i64 0] 43)) (w.heap.size+1) 43 [.slice none 0 0,.int .i64 0,.slice none 0 0,.int .i64 0,.int .i64 0]:=by
  have h:=OBlk.new' (w.alloc (.cells #[.slice A key.length ca,.int .i64 ck,.slice B val.length cb,.int .i64 pg,.int .i64 ct] 43)) 43 [.slice none 0 0,.int .i64 0,.slice none 0 0,.int .i64 0,.int .i64 0];rw [World.size_alloc] at h;exact h
 have hb2:Below w.heap.size w ((w.alloc (.cells #[.slice A key.length ca,.int .i64 ck,.slice B val.length cb,.int .i64 pg,.int .i64 ct] 43)).alloc (.cells #[.slice none 0 0,.int .i64 0,.slice none 0 0,.int .i64 0,.int .i64 0] 43)):=hb0.alloc hb0.size _;clear hc0 hb0;generalize (w.alloc (.cells #[.slice A key.length ca,.int .i64 ck,.slice B val.length cb,.int .i64 pg,.int .i64 ct] 43)).alloc (.cells #[.slice none 0 0,.int .i64 0,.slice none 0 0,.int .i64 0,.int .i64 0] 43)=w2 at*;have hcp0:=hcp.lt;have hcr0:=hcr.lt;have k0:=hcp.cell' (j:=0) rfl;have hk2:=hxk.below hb2 (Nat.le_refl _)
 go_upto_region 2 with (first
  |(go_at_call 87;refine (oU _ key _ hk2 h1).mono ?_;rintro e w3 ⟨gk,rfl,hok,hb3⟩;have f3:=(hcp.below hb3 hcp0).frozen (j:=0) (show 0<5 by omega);have k3:=(hcp.below hb3 hcp0).cell' (j:=0) rfl)
  |fail)
 have hcp4:=(hcp.below hb3 hcp0).set 0 (.slice (some ⟨gk,0,none⟩) key.length (key.length+9));have hcr4:=(hcr.below hb3 hcr0).far (p:=⟨w.heap.size,0,none⟩) (by simp) (.slice (some ⟨gk,0,none⟩) key.length (key.length+9));have hgk:=(Own.lt hok gk rfl).1;have hgk2:=(Own.lt hok gk rfl).2
 have hok4:=hok.grown (zY w3 ⟨w.heap.size,0,none⟩ (.slice (some ⟨gk,0,none⟩) key.length (key.length+9))) (fun g e h=>by
  have e':gk=g:=Option.some.inj e;have h':g=w.heap.size:=Option.some.inj h
  omega)
 have hb4:=(hb2.trans (hb3.mono hb2.size)).setCell (p:=⟨w.heap.size,0,none⟩) (Nat.le_refl _) (.slice (some ⟨gk,0,none⟩) key.length (key.length+9));clear hok hb3 f3 k3 k0 hk2 hcp hcr;generalize w3.setCell ⟨w.heap.size,0,none⟩ (.slice (some ⟨gk,0,none⟩) key.length (key.length+9))=w4 at*;simp only [List.set_cons_zero] at hcp4;have hcp40:=hcp4.lt;have hcr40:=hcr4.lt;have k0:=hcp4.cell' (j:=2) rfl;have hk2:=hxv.below hb4 (Nat.le_refl _)
 go_upto_region 3 with (first
  |(go_at_call 87;refine (oU _ val _ hk2 h2).mono ?_;rintro e w5 ⟨gv,rfl,hov,hb5⟩;have f3:=(hcp4.below hb5 hcp40).frozen (j:=2) (show 2<5 by omega);have k3:=(hcp4.below hb5 hcp40).cell' (j:=2) rfl)
  |fail)
 have hcp6:=(hcp4.below hb5 hcp40).set 2 (.slice (some ⟨gv,0,none⟩) val.length (val.length+9));have hcr6:=(hcr4.below hb5 hcr40).far (p:=⟨w.heap.size,2,none⟩) (by simp) (.slice (some ⟨gv,0,none⟩) val.length (val.length+9));have hgv:=(Own.lt hov gv rfl).1;have hgv2:=(Own.lt hov gv rfl).2;have hgk4:=(Own.lt hok4 gk rfl).2
 have hov6:=hov.grown (zY w5 ⟨w.heap.size,2,none⟩ (.slice (some ⟨gv,0,none⟩) val.length (val.length+9))) (fun g e h=>by
  have e':gv=g:=Option.some.inj e;have h':g=w.heap.size:=Option.some.inj h
  omega)
 have hok6:=(hok4.below2 hb5).grown (zY w5 ⟨w.heap.size,2,none⟩ (.slice (some ⟨gv,0,none⟩) val.length (val.length+9))) (fun g e h=>by
  have e':gk=g:=Option.some.inj e;have h':g=w.heap.size:=Option.some.inj h
  omega)
 have hb6:=(hb4.trans (hb5.mono hb4.size)).setCell (p:=⟨w.heap.size,2,none⟩) (Nat.le_refl _) (.slice (some ⟨gv,0,none⟩) val.length (val.length+9))
 have hlt:gk<gv:=by omega
 have hb4s:w.heap.size≤w4.heap.size:=hb4.size;have hok6:=OwB.low hok6 hb2.size;have hbase2:w.heap.size+1<w2.heap.size:=hcr0;clear hov hok4 hb5 f3 k3 k0 hk2 hcp4 hcr4 hcp40 hcr40 hb4;generalize w5.setCell ⟨w.heap.size,2,none⟩ (.slice (some ⟨gv,0,none⟩) val.length (val.length+9))=w6 at*;simp only [List.set_cons_zero,List.set_cons_succ] at hcp6;obtain ⟨c0,c1,c2,c3,c4⟩:=zC hcp6;obtain ⟨d0,d1,d2,d3,d4⟩:=zC hcr6;have f0:=hcr6.frozen (j:=0) (show 0<5 by omega);have f1:=hcr6.frozen (j:=1) (show 1<5 by omega);have f2:=hcr6.frozen (j:=2) (show 2<5 by omega);have f3:=hcr6.frozen (j:=3) (show 3<5 by omega);have f4:=hcr6.frozen (j:=4) (show 4<5 by omega);go_wp2_with fail;have hcr7:OBlk (((((w6.setCell ⟨w.heap.size+1,0,none⟩ (.slice (some ⟨gk,0,none⟩) key.length (key.length+9))).setCell ⟨w.heap.size+1,1,none⟩ (.int .i64 ck)).setCell ⟨w.heap.size+1,2,none⟩ (.slice (some ⟨gv,0,none⟩) val.length (val.length+9))).setCell ⟨w.heap.size+1,3,none⟩ (.int .i64 pg)).setCell ⟨w.heap.size+1,4,none⟩ (.int .i64 ct)) (w.heap.size+1) 43 [(.slice (some ⟨gk,0,none⟩) key.length (key.length+9)),.int .i64 ck,(.slice (some ⟨gv,0,none⟩) val.length (val.length+9)),.int .i64 pg,.int .i64 ct]:=((((hcr6.set 0 (.slice (some ⟨gk,0,none⟩) key.length (key.length+9))).set 1 (.int .i64 ck)).set 2 (.slice (some ⟨gv,0,none⟩) val.length (val.length+9))).set 3 (.int .i64 pg)).set 4 (.int .i64 ct)
 have hg7:w6.grownBy (((((w6.setCell ⟨w.heap.size+1,0,none⟩ (.slice (some ⟨gk,0,none⟩) key.length (key.length+9))).setCell ⟨w.heap.size+1,1,none⟩ (.int .i64 ck)).setCell ⟨w.heap.size+1,2,none⟩ (.slice (some ⟨gv,0,none⟩) val.length (val.length+9))).setCell ⟨w.heap.size+1,3,none⟩ (.int .i64 pg)).setCell ⟨w.heap.size+1,4,none⟩ (.int .i64 ct)) (some (w.heap.size+1)):=xD (xD (xD (xD (zY _ _ _) (zY _ _ _)) (zY _ _ _)) (zY _ _ _)) (zY _ _ _);generalize (((((w6.setCell ⟨w.heap.size+1,0,none⟩ (.slice (some ⟨gk,0,none⟩) key.length (key.length+9))).setCell ⟨w.heap.size+1,1,none⟩ (.int .i64 ck)).setCell ⟨w.heap.size+1,2,none⟩ (.slice (some ⟨gv,0,none⟩) val.length (val.length+9))).setCell ⟨w.heap.size+1,3,none⟩ (.int .i64 pg)).setCell ⟨w.heap.size+1,4,none⟩ (.int .i64 ct))=w7 at*;obtain ⟨r0,r1,r2,r3,r4⟩:=zC hcr7;refine bodyPost_ret (v:= .agg #[(.slice (some ⟨gk,0,none⟩) key.length (key.length+9)),.int .i64 ck,(.slice (some ⟨gv,0,none⟩) val.length (val.length+9)),.int .i64 pg,.int .i64 ct]) ?_ rfl ?_
 ·simp [results,Tryz.results46,go_sem,r0,r1,r2,r3,r4]
 ·refine ⟨gk,gv,rfl,⟨hok6.grown hg7 (fun g e h=> ?_),OwB.low (hov6.grown hg7 (fun g e h=> ?_)) hb4s,hlt⟩,hb6.grown hg7 hb6.size (fun g e=> ?_)⟩
  ·have e':gk=g:=Option.some.inj e;have h':g=w.heap.size+1:=Option.some.inj h;omega
  ·have e':gv=g:=Option.some.inj e;have h':g=w.heap.size+1:=Option.some.inj h;omega
  ·have h':w.heap.size+1=g:=Option.some.inj e;omega
def zKT (ps:List (Nat×Nat)) (cs:List PC):List CV:=List.zipWith (fun p c=>vG p.1 p.2 c) ps cs
theorem zKU {ps:List (Nat×Nat)} {cs:List PC} (h:ps.length=cs.length):(zKT ps cs).length=cs.length:=by unfold zKT;rw [List.length_zipWith,h,Nat.min_self]
structure LentsAt (W:World) (base:Nat) (ps:List (Nat×Nat)) (cs:List PC):Prop where
 len:ps.length=cs.length
 each:∀i (h:i<ps.length) (h':i<cs.length),LentAt W base ps[i].1 ps[i].2 cs[i]
 rise:ps.Pairwise (fun p q=>p.2<q.1)
theorem LentsAt.nil (W:World) (base:Nat):LentsAt W base [] []:=⟨rfl,fun i h=>by simp at h,List.Pairwise.nil⟩
theorem LentsAt.grown {w w':World} {base:Nat} {ps:List (Nat×Nat)} {cs:List PC} {row:Option Nat} (h:LentsAt w base ps cs) (hg:w.grownBy w' row) (hr:∀k,row=some k→k<base):LentsAt w' base ps cs:=
 ⟨h.len,fun i h1 h2=>by
  have e:=h.each i h1 h2;have b1:base≤ps[i].1:=(Own.lt e.k ps[i].1 rfl).1;have b2:base≤ps[i].2:=(Own.lt e.v ps[i].2 rfl).1
  exact e.grown hg (fun h'=>by have:=hr ps[i].1 h'.symm;omega) (fun h'=>by have:=hr ps[i].2 h'.symm;omega),h.rise⟩
theorem LentsAt.below {w w':World} {base:Nat} {ps:List (Nat×Nat)} {cs:List PC} (h:LentsAt w base ps cs) (hb:Below w.heap.size w w'):LentsAt w' base ps cs:=
 ⟨h.len,fun i h1 h2=>(h.each i h1 h2).below hb,h.rise⟩
theorem LentAt.low {w:World} {base b gk gv:Nat} {c:PC} (h:LentAt w base gk gv c) (hb:b≤base):LentAt w b gk gv c:=⟨h.k.low hb,h.v.low hb,h.lt⟩
theorem LentsAt.snoc {w w':World} {base gk gv:Nat} {ps:List (Nat×Nat)} {cs:List PC} {c:PC} (h:LentsAt w base ps cs) (hb:Below w.heap.size w w') (hl:LentAt w' w.heap.size gk gv c) (hs:base≤w.heap.size):
 LentsAt w' base (ps++ [(gk,gv)]) (cs++ [c]):=by
 have h':=h.below hb;refine ⟨by simp [h.len],fun i h1 h2=> ?_,?_⟩
 ·by_cases hi:i<ps.length
  ·have e:=h'.each i hi (by rw [←h.len];exact hi);rw [List.getElem_append_left hi,List.getElem_append_left (by rw [←h.len];exact hi)];exact e
  ·have hi':i=ps.length:=by simp at h1;omega
   subst hi';rw [List.getElem_append_right (Nat.le_refl _),List.getElem_append_right (by rw [h.len];exact Nat.le_refl _)];simp only [List.getElem_singleton];exact hl.low hs
 ·rw [List.pairwise_append];refine ⟨h.rise,by simp,fun a ha b hb'=> ?_⟩;obtain rfl:=List.mem_singleton.1 hb';obtain ⟨i,hi,rfl⟩:=List.getElem_of_mem ha;have e:=h.each i hi (by rw [←h.len];exact hi);have b3:ps[i].2<w.heap.size:=(Own.lt e.v ps[i].2 rfl).2;have b4:w.heap.size≤gk:=(Own.lt hl.k gk rfl).1
  show ps[i].2<gk
  omega
structure LaterAt (W:World) (base k:Nat) (ps:List (Nat×Nat)) (cs:List PC):Prop where
 each:∀i (h:i<ps.length) (h':i<cs.length),k≤i→LentAt W base ps[i].1 ps[i].2 cs[i]
theorem LentAt.drewN {w:World} {base gk gv:Nat} {c:PC} (h:LentAt w base gk gv c):∀n,LentAt (w.drewN n) base gk gv c
 |0=>h
 |n+1=>⟨(LentAt.drewN h n).k.drew,(LentAt.drewN h n).v.drew,h.lt⟩
theorem LentAt.turn {F:Nat→Prop} {w w':World} {base gk gv:Nat} {c:PC} (h:LentAt w base gk gv c) (ht:Turn F w w') (h1:¬F gk) (h2:¬F gv):LentAt w' base gk gv c:=
 ⟨h.k.turn ht (fun g e=>by injection e with e;exact e▸h1),h.v.turn ht (fun g e=>by injection e with e;exact e▸h2),h.lt⟩
structure LentsIn (w:World) (G hi:Nat) (ps:List (Nat×Nat)) (cs:List PC):Prop where
 blk:OBlk w G 43 (zF (zKT ps cs++List.replicate 3 (zKZ (-7))))
 each:LentsAt w (G+1) ps cs
 ps_lt:∀p∈ps,p.2<hi
 lt:G<hi
theorem LentsIn.rd {w:World} {G hi:Nat} {ps:List (Nat×Nat)} {cs:List PC} {n:Nat} (h:LentsIn w G hi ps cs) (hn:cs.length=n) (hm:n+3≤140737488355328) (hr:∀c∈cs,yE c.kind∧yE c.page∧yE c.count):RdCs w (.slice (some ⟨G,0,none⟩) n (n+3)) (zKT ps cs):=by
 have hll:=zKU h.each.len;refine ⟨⟨by rw [jL],_,n+3,by rw [hll,hn],by omega,by simp only [maxLen];omega,fun j u hj=>⟨_,rfl,?_⟩⟩,fun x hx=> ?_⟩
 ·rw [vH,h.blk.cell,vK,Nat.zero_add,List.getElem?_append_left (List.getElem?_eq_some_iff.1 hj).1];exact hj
 ·obtain ⟨i,hi',rfl⟩:=List.getElem_of_mem hx;rw [hll] at hi'
  have hip:i<ps.length:=by rw [h.each.len];exact hi'
  have e:=h.each.each i hip hi'
  have ex:(zKT ps cs)[i]'(by omega)=vG ps[i].1 ps[i].2 cs[i]:=by simp only [zKT,List.getElem_zipWith]
  rw [ex];obtain ⟨r1,r2,r3⟩:=hr cs[i] (List.getElem_mem hi');exact ⟨zKV e.k,zKV e.v,r1,r2,r3⟩
end Go.Proofs.YtfcnkpofcekmgaaGreat
