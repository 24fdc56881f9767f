/- Texts joined. -/
import Derived.Test.YtfcnkpofcekmgaaGreatNQ19
set_option maxRecDepth 100000
set_option maxHeartbeats 64000000
namespace Go.Proofs.YtfcnkpofcekmgaaGreat
open Go.RowKit
def dO (n:Int):Bool:=decide (2≤n∧n<65536)
theorem qZ (p:Int) (w:World):Calls Tryz.prog 110 #[.int .i64 p] w fun e w'=>e= .returned (.bool (zT p))∧w=w':=by
 go_enter Tryz.func110,Tryz.ntmps110;go_wp2_with fail
 go_loopw [3] (fun i wr=>∃j:Nat,j≤8∧i= .int .i64 (pw j)∧Hid (∀k,k<j→p≠pw k)∧w=wr) (fun i _=>(131072-intOf i).toNat)
 case atStart=>exact ⟨0,by omega,rfl,Lib.hid (by omega),rfl⟩
 case round=>
  obtain ⟨j,hj,rfl,HN,rfl⟩:=hrel;rcases (by omega:j=8∨j<8) with rfl|hlt
  ·have HV:=Lib.hid (show zT p=false from decide_eq_false fun h=>by
    obtain ⟨k,hk,e⟩:=(mR p).1 h
    exact HN.out k hk e)
   have e8:pw 8=131072:=by decide
   rw [e8];go_wp2_with fail;go_ret;rw [HV.out];exact ⟨rfl,rfl⟩
  ·have hb:512≤pw j∧pw j≤65536∧pw (j+1)=pw j*2:=by
    rcases (by omega:j=0∨j=1∨j=2∨j=3∨j=4∨j=5∨j=6∨j=7) with rfl|rfl|rfl|rfl|rfl|rfl|rfl|rfl<;>decide
   obtain ⟨h1,h2,h3⟩:=hb
   by_cases hp:p=pw j
   ·have HV:=Lib.hid (show zT p=true from decide_eq_true ((mR p).2 ⟨j,hlt,hp⟩))
    have hb:(pw j==p)=true:=by simp [hp]
    clear hp h3;generalize pw j=x at*;go_wp2_with fail;go_ret;rw [HV.out];exact ⟨rfl,rfl⟩
   ·have HN2:=Lib.hid (show ∀k,k<j+1→p≠pw k from fun k hk=>by
     rcases (by omega:k<j∨k=j) with h|rfl
     ·exact HN.out k h
     ·exact hp)
    have hb:(pw j==p)=false:=by
     rw [Bool.eq_false_iff];simp only [ne_eq,beq_iff_eq];exact fun e=>hp e.symm
    have H3:=Lib.hid h3;clear hp h3;generalize hx:pw j=x at*;clear hx;go_wp2_with fail;go_roundw
    case rel=>exact ⟨j+1,by omega,by rw [H3.out],HN2,trivial⟩
    case measure=>simp [intOf];omega
theorem tR (kind:Int) (P:Nat) (hk:kind=2∨kind=3) (hP:P≤65536) (x:CV) (w:World) (hx:x.ok w):Calls Tryz.prog 120 #[.int .i64 kind,zJ x,.int .i64 (P:Int)] w fun e w'=>e= .returned (.bool (zQ kind P x.c))∧Below w.heap.size w w':=by
 obtain ⟨A,ca,B,cb,key,ck,val,pg,ct,rfl,_,_⟩:=CV.form hx;have hA:Below w.heap.size w (w.alloc (.cells #[.slice A key.length ca,.int .i64 ck,.slice B val.length cb,.int .i64 pg,.int .i64 ct] 43)):=(Below.refl _ _).alloc (Nat.le_refl _) _;obtain ⟨c0,c1,c2,c3,c4⟩:=zC (OBlk.new' w 43 [.slice A key.length ca,.int .i64 ck,.slice B val.length cb,.int .i64 pg,.int .i64 ct]);unfold zJ;clear hx;go_enter Tryz.func120,Tryz.ntmps120;go_upto_region 3 with (fail);generalize w.alloc (.cells #[.slice A key.length ca,.int .i64 ck,.slice B val.length cb,.int .i64 pg,.int .i64 ct] 43)=w0 at*
 go_cut [9] (fun a wx=>a= .bool (dO pg)∧wx=w0)
 case first=>
  by_cases a1:2≤pg
  ·by_cases a2:pg<65536
   ·go_wp2_with fail;go_meet;exact ⟨congrArg Value.bool (show dO pg=true from decide_eq_true (by omega)).symm,rfl⟩
   ·go_wp2_with fail;go_meet;exact ⟨congrArg Value.bool (show dO pg=false from decide_eq_false (by omega)).symm,rfl⟩
  ·go_wp2_with fail;go_meet;exact ⟨congrArg Value.bool (show dO pg=false from decide_eq_false (by omega)).symm,rfl⟩
 case rest=>
  obtain ⟨rfl,rfl⟩:=hcut;rcases hk with rfl|rfl
  ·skip
   by_cases z:key.length<1
   ·have z0:(key.length:Int)<1:=by omega
    have HV:Hid (zQ 2 P ⟨key,ck,val,pg,ct⟩=false):=Lib.hid (by unfold zQ z8 yC;dsimp only;(repeat' split)<;>first|rfl|(exfalso;omega)|exact decide_eq_true (by omega)|exact decide_eq_false (by omega));clear z;go_wp2_with fail;go_ret;rw [HV.out];exact ⟨rfl,hA⟩
   ·have z0:¬(key.length:Int)<1:=by omega
    by_cases u:key.length≤P/8
    ·have u0:(key.length:Int)≤(P:Int)/8:=by omega
     have u1:¬(P:Int)/8<(key.length:Int):=by omega
     by_cases k1:ck=1
     ·have k10:(ck==1)=true:=beq_iff_eq.2 k1;subst k1;clear k10
      by_cases v:val.length≤P/16*3
      ·have v0:(val.length:Int)≤(P:Int)/16*3:=by omega
       by_cases p:pg=0
       ·have p0:(pg==0)=true:=beq_iff_eq.2 p
        by_cases c:ct=0
        ·have c0:(ct==0)=true:=beq_iff_eq.2 c;have HV:Hid (zQ 2 P ⟨key,1,val,pg,ct⟩=true):=Lib.hid (by unfold zQ z8 yC;dsimp only;(repeat' split)<;>first|rfl|(exfalso;omega)|exact decide_eq_true (by omega)|exact decide_eq_false (by omega));clear v p c;go_wp2_with fail;go_ret;rw [HV.out];exact ⟨rfl,hA⟩
        ·have c0:(ct==0)=false:=beq_eq_false_iff_ne.2 c;have HV:Hid (zQ 2 P ⟨key,1,val,pg,ct⟩=false):=Lib.hid (by unfold zQ z8 yC;dsimp only;(repeat' split)<;>first|rfl|(exfalso;omega)|exact decide_eq_true (by omega)|exact decide_eq_false (by omega));clear v p c;go_wp2_with fail;go_ret;rw [HV.out];exact ⟨rfl,hA⟩
       ·have p0:(pg==0)=false:=beq_eq_false_iff_ne.2 p;have HV:Hid (zQ 2 P ⟨key,1,val,pg,ct⟩=false):=Lib.hid (by unfold zQ z8 yC;dsimp only;(repeat' split)<;>first|rfl|(exfalso;omega)|exact decide_eq_true (by omega)|exact decide_eq_false (by omega));clear v p;go_wp2_with fail;go_ret;rw [HV.out];exact ⟨rfl,hA⟩
      ·have v0:¬(val.length:Int)≤(P:Int)/16*3:=by omega
       have HV:Hid (zQ 2 P ⟨key,1,val,pg,ct⟩=false):=Lib.hid (by unfold zQ z8 yC;dsimp only;(repeat' split)<;>first|rfl|(exfalso;omega)|exact decide_eq_true (by omega)|exact decide_eq_false (by omega));clear v;go_wp2_with fail;go_ret;rw [HV.out];exact ⟨rfl,hA⟩
     ·have k10:(ck==1)=false:=beq_eq_false_iff_ne.2 k1
      by_cases k2:ck=2
      ·have k20:(ck==2)=true:=beq_iff_eq.2 k2;subst k2;clear k20 k10
       by_cases v:val.length=0
       ·have v0:((val.length:Int)==0)=true:=beq_iff_eq.2 (by omega)
        by_cases nb:2≤pg∧pg<65536
        ·rw [show dO pg=true from decide_eq_true nb]
         by_cases g:((P/16*3:Nat):Int)<ct
         ·have g0:(P:Int)/16*3<ct:=by omega
          by_cases h:ct≤65536
          ·have h0:ct≤65536:=by omega
           have HV:Hid (zQ 2 P ⟨key,2,val,pg,ct⟩=true):=Lib.hid (by unfold zQ z8 yC;dsimp only;(repeat' split)<;>first|rfl|(exfalso;omega)|exact decide_eq_true (by omega)|exact decide_eq_false (by omega));clear v nb g h;go_wp2_with fail;go_ret;rw [HV.out];exact ⟨rfl,hA⟩
          ·have h0:¬ct≤65536:=by omega
           have HV:Hid (zQ 2 P ⟨key,2,val,pg,ct⟩=false):=Lib.hid (by unfold zQ z8 yC;dsimp only;(repeat' split)<;>first|rfl|(exfalso;omega)|exact decide_eq_true (by omega)|exact decide_eq_false (by omega));clear v nb g h;go_wp2_with fail;go_ret;rw [HV.out];exact ⟨rfl,hA⟩
         ·have g0:¬(P:Int)/16*3<ct:=by omega
          have HV:Hid (zQ 2 P ⟨key,2,val,pg,ct⟩=false):=Lib.hid (by unfold zQ z8 yC;dsimp only;(repeat' split)<;>first|rfl|(exfalso;omega)|exact decide_eq_true (by omega)|exact decide_eq_false (by omega));clear v nb g;go_wp2_with fail;go_ret;rw [HV.out];exact ⟨rfl,hA⟩
        ·rw [show dO pg=false from decide_eq_false nb];have HV:Hid (zQ 2 P ⟨key,2,val,pg,ct⟩=false):=Lib.hid (by unfold zQ z8 yC;dsimp only;(repeat' split)<;>first|rfl|(exfalso;omega)|exact decide_eq_true (by omega)|exact decide_eq_false (by omega));clear v nb;go_wp2_with fail;go_ret;rw [HV.out];exact ⟨rfl,hA⟩
       ·have v0:((val.length:Int)==0)=false:=beq_eq_false_iff_ne.2 (by omega);have HV:Hid (zQ 2 P ⟨key,2,val,pg,ct⟩=false):=Lib.hid (by unfold zQ z8 yC;dsimp only;(repeat' split)<;>first|rfl|(exfalso;omega)|exact decide_eq_true (by omega)|exact decide_eq_false (by omega));clear v;go_wp2_with fail;go_ret;rw [HV.out];exact ⟨rfl,hA⟩
      ·have k20:(ck==2)=false:=beq_eq_false_iff_ne.2 k2
       by_cases k4:ck=4
       ·have k40:(ck==4)=true:=beq_iff_eq.2 k4;subst k4;clear k40 k20 k10
        by_cases v:val.length=0
        ·have v0:((val.length:Int)==0)=true:=beq_iff_eq.2 (by omega)
         by_cases nb:2≤pg∧pg<65536
         ·rw [show dO pg=true from decide_eq_true nb];have p0:(pg==0)=false:=beq_eq_false_iff_ne.2 (by omega)
          by_cases g:1≤ct
          ·have g0:(1:Int)≤ct:=by omega
           by_cases h:ct≤1073741824
           ·have h0:ct≤1073741824:=by omega
            have HV:Hid (zQ 2 P ⟨key,4,val,pg,ct⟩=true):=Lib.hid (by unfold zQ z8 yC;dsimp only;(repeat' split)<;>first|rfl|(exfalso;omega)|exact decide_eq_true (by omega)|exact decide_eq_false (by omega));clear v nb g h;go_wp2_with fail;go_ret;rw [HV.out];exact ⟨rfl,hA⟩
           ·have h0:¬ct≤1073741824:=by omega
            have HV:Hid (zQ 2 P ⟨key,4,val,pg,ct⟩=false):=Lib.hid (by unfold zQ z8 yC;dsimp only;(repeat' split)<;>first|rfl|(exfalso;omega)|exact decide_eq_true (by omega)|exact decide_eq_false (by omega));clear v nb g h;go_wp2_with fail;go_ret;rw [HV.out];exact ⟨rfl,hA⟩
          ·have g0:¬(1:Int)≤ct:=by omega
           have HV:Hid (zQ 2 P ⟨key,4,val,pg,ct⟩=false):=Lib.hid (by unfold zQ z8 yC;dsimp only;(repeat' split)<;>first|rfl|(exfalso;omega)|exact decide_eq_true (by omega)|exact decide_eq_false (by omega));clear v nb g;go_wp2_with fail;go_ret;rw [HV.out];exact ⟨rfl,hA⟩
         ·rw [show dO pg=false from decide_eq_false nb]
          by_cases p:pg=0
          ·have p0:(pg==0)=true:=beq_iff_eq.2 p
           by_cases c:ct=0
           ·have c0:(ct==0)=true:=beq_iff_eq.2 c;have HV:Hid (zQ 2 P ⟨key,4,val,pg,ct⟩=true):=Lib.hid (by unfold zQ z8 yC;dsimp only;(repeat' split)<;>first|rfl|(exfalso;omega)|exact decide_eq_true (by omega)|exact decide_eq_false (by omega));clear v nb p c;go_wp2_with fail;go_ret;rw [HV.out];exact ⟨rfl,hA⟩
           ·have c0:(ct==0)=false:=beq_eq_false_iff_ne.2 c;have HV:Hid (zQ 2 P ⟨key,4,val,pg,ct⟩=false):=Lib.hid (by unfold zQ z8 yC;dsimp only;(repeat' split)<;>first|rfl|(exfalso;omega)|exact decide_eq_true (by omega)|exact decide_eq_false (by omega));clear v nb p c;go_wp2_with fail;go_ret;rw [HV.out];exact ⟨rfl,hA⟩
          ·have p0:(pg==0)=false:=beq_eq_false_iff_ne.2 p;have HV:Hid (zQ 2 P ⟨key,4,val,pg,ct⟩=false):=Lib.hid (by unfold zQ z8 yC;dsimp only;(repeat' split)<;>first|rfl|(exfalso;omega)|exact decide_eq_true (by omega)|exact decide_eq_false (by omega));clear v nb p;go_wp2_with fail;go_ret;rw [HV.out];exact ⟨rfl,hA⟩
        ·have v0:((val.length:Int)==0)=false:=beq_eq_false_iff_ne.2 (by omega);have HV:Hid (zQ 2 P ⟨key,4,val,pg,ct⟩=false):=Lib.hid (by unfold zQ z8 yC;dsimp only;(repeat' split)<;>first|rfl|(exfalso;omega)|exact decide_eq_true (by omega)|exact decide_eq_false (by omega));clear v;go_wp2_with fail;go_ret;rw [HV.out];exact ⟨rfl,hA⟩
       ·have k40:(ck==4)=false:=beq_eq_false_iff_ne.2 k4;have HV:Hid (zQ 2 P ⟨key,ck,val,pg,ct⟩=false):=Lib.hid (by unfold zQ z8 yC;dsimp only;(repeat' split)<;>first|rfl|(exfalso;omega)|exact decide_eq_true (by omega)|exact decide_eq_false (by omega));clear k1 k2 k4;go_wp2_with fail;go_ret;rw [HV.out];exact ⟨rfl,hA⟩
    ·have u0:¬(key.length:Int)≤(P:Int)/8:=by omega
     have u1:(P:Int)/8<(key.length:Int):=by omega
     have HV:Hid (zQ 2 P ⟨key,ck,val,pg,ct⟩=false):=Lib.hid (by unfold zQ z8 yC;dsimp only;(repeat' split)<;>first|rfl|(exfalso;omega)|exact decide_eq_true (by omega)|exact decide_eq_false (by omega));clear z u;go_wp2_with fail;go_ret;rw [HV.out];exact ⟨rfl,hA⟩
  ·skip
   by_cases k:ck=3
   ·have k0:(ck==3)=true:=beq_iff_eq.2 k
    by_cases u:key.length≤P/8
    ·have u0:(key.length:Int)≤(P:Int)/8:=by omega
     have u1:¬(P:Int)/8<(key.length:Int):=by omega
     by_cases nb:2≤pg∧pg<65536
     ·rw [show dO pg=true from decide_eq_true nb]
      by_cases g:1≤ct
      ·have g0:(1:Int)≤ct:=by omega
       by_cases h:ct≤1073741824
       ·have h0:ct≤1073741824:=by omega
        by_cases v:val.length=0
        ·have v0:((val.length:Int)==0)=true:=beq_iff_eq.2 (by omega);have HV:Hid (zQ 3 P ⟨key,ck,val,pg,ct⟩=true):=Lib.hid (by unfold zQ z8 yC;dsimp only;(repeat' split)<;>first|rfl|(exfalso;omega)|exact decide_eq_true (by omega)|exact decide_eq_false (by omega));clear k u nb g h v;go_wp2_with fail;go_ret;rw [HV.out];exact ⟨rfl,hA⟩
        ·have v0:((val.length:Int)==0)=false:=beq_eq_false_iff_ne.2 (by omega);have HV:Hid (zQ 3 P ⟨key,ck,val,pg,ct⟩=false):=Lib.hid (by unfold zQ z8 yC;dsimp only;(repeat' split)<;>first|rfl|(exfalso;omega)|exact decide_eq_true (by omega)|exact decide_eq_false (by omega));clear k u nb g h v;go_wp2_with fail;go_ret;rw [HV.out];exact ⟨rfl,hA⟩
       ·have h0:¬ct≤1073741824:=by omega
        have HV:Hid (zQ 3 P ⟨key,ck,val,pg,ct⟩=false):=Lib.hid (by unfold zQ z8 yC;dsimp only;(repeat' split)<;>first|rfl|(exfalso;omega)|exact decide_eq_true (by omega)|exact decide_eq_false (by omega));clear k u nb g h;go_wp2_with fail;go_ret;rw [HV.out];exact ⟨rfl,hA⟩
      ·have g0:¬(1:Int)≤ct:=by omega
       have HV:Hid (zQ 3 P ⟨key,ck,val,pg,ct⟩=false):=Lib.hid (by unfold zQ z8 yC;dsimp only;(repeat' split)<;>first|rfl|(exfalso;omega)|exact decide_eq_true (by omega)|exact decide_eq_false (by omega));clear k u nb g;go_wp2_with fail;go_ret;rw [HV.out];exact ⟨rfl,hA⟩
     ·rw [show dO pg=false from decide_eq_false nb];have HV:Hid (zQ 3 P ⟨key,ck,val,pg,ct⟩=false):=Lib.hid (by unfold zQ z8 yC;dsimp only;(repeat' split)<;>first|rfl|(exfalso;omega)|exact decide_eq_true (by omega)|exact decide_eq_false (by omega));clear k u nb;go_wp2_with fail;go_ret;rw [HV.out];exact ⟨rfl,hA⟩
    ·have u0:¬(key.length:Int)≤(P:Int)/8:=by omega
     have u1:(P:Int)/8<(key.length:Int):=by omega
     have HV:Hid (zQ 3 P ⟨key,ck,val,pg,ct⟩=false):=Lib.hid (by unfold zQ z8 yC;dsimp only;(repeat' split)<;>first|rfl|(exfalso;omega)|exact decide_eq_true (by omega)|exact decide_eq_false (by omega));clear k u;go_wp2_with fail;go_ret;rw [HV.out];exact ⟨rfl,hA⟩
   ·have k0:(ck==3)=false:=beq_eq_false_iff_ne.2 k;have HV:Hid (zQ 3 P ⟨key,ck,val,pg,ct⟩=false):=Lib.hid (by unfold zQ z8 yC;dsimp only;(repeat' split)<;>first|rfl|(exfalso;omega)|exact decide_eq_true (by omega)|exact decide_eq_false (by omega));clear k;go_wp2_with fail;go_ret;rw [HV.out];exact ⟨rfl,hA⟩
def fN (w:World) (l:List UInt8) (e:Ending) (w':World):Prop:=∃v,e= .returned v∧OwB w' w.heap.size v l∧Below w.heap.size w w'
theorem Sep.ownOld {w0 w:World} {v:Value} {l:List UInt8} {L:List Ent} (h:Sep w0 w (zB v l::L)) (hm:yK w0∈L):OwB w w0.heap.size v l:=
 OwB.base_le h.head (fun g hg=>Nat.le_of_not_lt (h.far (A:=yK w0) hm g hg))
theorem r5 (k:Int):IntKind.u8.wrap k=((u8I k).toNat:Int):=by
 unfold u8I;rw [IntKind.wrap_u8,UInt8.toNat_ofNat'];omega
theorem bF (kind:Int) (i:Nat) (x:CV) (pre:Nat) (w:World) (hx:x.ok w) (hp:¬(kind=3∧i=0)→pre≤x.c.key.length) (hb:x.c.key.length+x.c.val.length≤100000000000000):
 Calls Tryz.prog 125 #[.int .i64 kind,.int .i64 (i:Int),zJ x,.int .i64 (pre:Int)] w (fN w (pcF kind i x.c pre)):=by
 have hlr:(yI kind i x.c.key pre).length≤x.c.key.length:=by unfold yI;split<;>simp
 obtain ⟨A,ca,B,cb,key,ck,val,pg,ct,rfl,_,_⟩:=CV.form hx;have hxk:RdB w (.slice A key.length ca) key:=hx.k;have hxv:RdB w (.slice B val.length cb) val:=hx.v;have hA:Below w.heap.size w (w.alloc (.cells #[.slice A key.length ca,.int .i64 ck,.slice B val.length cb,.int .i64 pg,.int .i64 ct] 43)):=(Below.refl _ _).alloc (Nat.le_refl _) _;obtain ⟨c0,c1,c2,c3,c4⟩:=zC (OBlk.new' w 43 [.slice A key.length ca,.int .i64 ck,.slice B val.length cb,.int .i64 pg,.int .i64 ct]);have hk1:=hxk.alloc (.cells #[.slice A key.length ca,.int .i64 ck,.slice B val.length cb,.int .i64 pg,.int .i64 ct] 43);have hv1:=hxv.alloc (.cells #[.slice A key.length ca,.int .i64 ck,.slice B val.length cb,.int .i64 pg,.int .i64 ct] 43);unfold zJ;simp only at hp hb hlr⊢
 have hkv1:ck=1→pcF kind i ⟨key,ck,val,pg,ct⟩ pre=(([u8I ck]++zR (yI kind i key pre).length)++yI kind i key pre)++zR val.length++val:=fun h=>by unfold pcF kvF;rw [if_pos h];simp
 have hkv2:ck≠1→pcF kind i ⟨key,ck,val,pg,ct⟩ pre=(([u8I ck]++zR (yI kind i key pre).length)++yI kind i key pre)++zR (xZ pg)++zR (xZ ct):=fun h=>by unfold pcF kvF;rw [if_neg h];simp
 have hrest:=fun W hW=>rS kind i (.slice A key.length ca) key pre W hW hp;have hun:(zR (yI kind i key pre).length).length≤10:=yF (by omega);have hvn:(zR val.length).length≤10:=yF (by omega);have hpn:(zR (xZ pg)).length≤10:=yF (xW pg);have hcn:(zR (xZ ct)).length≤10:=yF (xW ct);generalize pcF kind i ⟨key,ck,val,pg,ct⟩ pre=R at*;generalize yI kind i key pre=r at*;have HK1:=Lib.hid hkv1;have HK2:=Lib.hid hkv2;clear hx hkv1 hkv2 hp hxk hxv;go_enter Tryz.func125,Tryz.ntmps125;go_upto_region 1 with (fail);generalize w.alloc (.cells #[.slice A key.length ca,.int .i64 ck,.slice B val.length cb,.int .i64 pg,.int .i64 ct] 43)=w0 at*;have hr0:=hrest w0 hk1;clear hrest;go_upto_region 2 with (first|(go_at_call 162;refine hr0.mono ?_;rintro e w1 ⟨⟨A9,c9,rfl,hrd⟩,rfl⟩)|fail);have hkw:=r5 ck;have hS1:=((Sep.start w0).alloc 5 (bvs [u8I ck])).weak (E':=zB (.slice (some ⟨w0.heap.size,0,none⟩) 1 1) [u8I ck]) (fun h=>OBlk.owB' (m:= [u8I ck]) h (Nat.zero_le _) (by simp [maxLen])) (fun g hg=>(Option.some.inj hg).symm);have HS1:=Lib.hid hS1;clear hS1 hr0;go_upto_region 3 with (fail);have hS1:Sep w0 (w0.alloc (.cells #[.int .u8 ((u8I ck).toNat:Int)] 5)) [zB (.slice (some ⟨w0.heap.size,0,none⟩) 1 1) [u8I ck],yK w0]:=HS1.out;generalize w0.alloc (.cells #[.int .u8 ((u8I ck).toNat:Int)] 5)=w1 at*;have hwn:IntKind.u64.wrap (r.length:Int)=(r.length:Int):=IntWalk.u64_in _ (by omega);clear HS1 hkw
 go_upto_region 4 with (first|(go_at_call 163;refine (kX r.length (by omega) _).mono ?_;rintro e w2 ⟨v2,rfl,ho2,hb2⟩)|fail);have hS2:Sep w0 w2 [zB (.slice (some ⟨w0.heap.size,0,none⟩) 1 1) [u8I ck],zB v2 (zR r.length),yK w0]:=(hS1.bytes hb2 ho2 (Nat.le_refl _)).sw1;clear hS1 ho2 hb2 hwn;have ha3:=yL (u:=v2) hS2 (RdIn.bytes (l:=zR r.length) (by simp)) (by simp;omega);go_upto_region 5 with (first|(go_at_call 124;refine ha3.mono ?_;rintro e w3 ⟨v3,rfl,hS3⟩)|fail);have hS3:=(hS3.sw1).tail;clear hS2;have ha4:=yL (u:= .slice A9 r.length c9) hS3 (RdIn.old hrd (by simp)) (by simp;omega);go_upto_region 6 with (first|(go_at_call 124;refine ha4.mono ?_;rintro e w4 ⟨v4,rfl,hS4⟩)|fail)
 have hlen4:([u8I ck]++zR r.length++r).length≤11+r.length:=by simp;omega
 generalize hL4: [u8I ck]++zR r.length++r=L4 at*;clear hS3 hL4 hrd;have q1:=(hS4.old_cell (v:=w0) (by simp) ⟨w.heap.size,1,none⟩ (World.block_lt_of_cell? w0 _ c1)).trans c1;have q2:=(hS4.old_cell (v:=w0) (by simp) ⟨w.heap.size,2,none⟩ (World.block_lt_of_cell? w0 _ c2)).trans c2;have q3:=(hS4.old_cell (v:=w0) (by simp) ⟨w.heap.size,3,none⟩ (World.block_lt_of_cell? w0 _ c3)).trans c3;have q4:=(hS4.old_cell (v:=w0) (by simp) ⟨w.heap.size,4,none⟩ (World.block_lt_of_cell? w0 _ c4)).trans c4
 by_cases h1:ck=1
 ·have e1:(ck==1)=true:=beq_iff_eq.2 h1;have HR:=Lib.hid (HK1.out h1);have hwn:IntKind.u64.wrap (val.length:Int)=(val.length:Int):=IntWalk.u64_in _ (by omega);clear h1 HK1 HK2;go_upto_region 8 with (first|(go_at_call 163;refine (kX val.length (by omega) _).mono ?_;rintro e w5 ⟨v5,rfl,ho5,hb5⟩)|fail);have hS5:Sep w0 w5 [zB v4 L4,zB v5 (zR val.length),yK w0]:=(hS4.bytes hb5 ho5 (Nat.le_refl _)).sw1;clear hS4 ho5 hb5 hwn;have ha6:=yL (u:=v5) hS5 (RdIn.bytes (l:=zR val.length) (by simp)) (by omega);go_upto_region 9 with (first|(go_at_call 124;refine ha6.mono ?_;rintro e w6 ⟨v6,rfl,hS6⟩)|fail);have hS6:=(hS6.sw1).tail;have q2':=(hS6.old_cell (v:=w0) (by simp) ⟨w.heap.size,2,none⟩ (World.block_lt_of_cell? w0 _ c2)).trans c2;clear hS5 q1 q2 q3 q4;have ha7:=yL (u:= .slice B val.length cb) hS6 (RdIn.old hv1 (by simp)) (by simp;omega);go_wp2_with (first|(go_at_call 124;refine ha7.mono ?_;rintro e w7 ⟨v7,rfl,hS7⟩)|fail);go_ret;have hB:=hS7.belowOld (_v:=w0) (by simp);have ho:=hS7.ownOld (by simp);rw [HR.out];exact ⟨v7,rfl,OwB.low ho hA.size,hA.trans (hB.mono hA.size)⟩
 ·have e1:(ck==1)=false:=beq_eq_false_iff_ne.2 h1;have HR:=Lib.hid (HK2.out h1);have hpw:=kZ pg;have hcw:=kZ ct;have hpl:=xW pg;have hcl:=xW ct;generalize xZ pg=pn at*;generalize xZ ct=cn at*;clear h1 HK1 HK2;go_upto_region 11 with (first|(go_at_call 163;refine (kX pn hpl _).mono ?_;rintro e w5 ⟨v5,rfl,ho5,hb5⟩)|fail);have hS5:Sep w0 w5 [zB v4 L4,zB v5 (zR pn),yK w0]:=(hS4.bytes hb5 ho5 (Nat.le_refl _)).sw1;clear hS4 ho5 hb5 hpw;have ha6:=yL (u:=v5) hS5 (RdIn.bytes (l:=zR pn) (by simp)) (by omega);go_upto_region 12 with (first|(go_at_call 124;refine ha6.mono ?_;rintro e w6 ⟨v6,rfl,hS6⟩)|fail);have hS6:=(hS6.sw1).tail;have q4':=(hS6.old_cell (v:=w0) (by simp) ⟨w.heap.size,4,none⟩ (World.block_lt_of_cell? w0 _ c4)).trans c4;clear hS5 q1 q2 q3 q4;go_upto_region 13 with (first|(go_at_call 163;refine (kX cn hcl _).mono ?_;rintro e w7 ⟨v7,rfl,ho7,hb7⟩)|fail);have hS7:Sep w0 w7 [zB v6 (L4++zR pn),zB v7 (zR cn),yK w0]:=(hS6.bytes hb7 ho7 (Nat.le_refl _)).sw1;clear hS6 ho7 hb7 hcw;have ha8:=yL (u:=v7) hS7 (RdIn.bytes (l:=zR cn) (by simp)) (by simp;omega);go_wp2_with (first|(go_at_call 124;refine ha8.mono ?_;rintro e w8 ⟨v8,rfl,hS8⟩)|fail);go_ret;have hS8:=(hS8.sw1).tail;have hB:=hS8.belowOld (_v:=w0) (by simp);have ho:=hS8.ownOld (by simp);rw [HR.out];exact ⟨v8,rfl,OwB.low ho hA.size,hA.trans (hB.mono hA.size)⟩
def bgB (a b:List UInt8) (n:Nat):Bool:=decide (n≤yU b a)
theorem sS (va vb:Value) (a b:List UInt8) (n:Nat) (w:World) (ha:RdB w va a) (hb:RdB w vb b) (hn:n≤b.length):
 Calls Tryz.prog 177 #[va,vb,.int .i64 (n:Int)] w fun e w'=>e= .returned (.bool (bgB a b n))∧Below w.heap.size w w':=by
 obtain ⟨A,ca,rfl,hma⟩:=ha.form;obtain ⟨B,cb,rfl,hmb⟩:=hb.form;have hle:=fG b a
 by_cases h1:a.length<n
 ·have HV:Hid (bgB a b n=false):=by show _=_;unfold bgB;exact decide_eq_false (by omega)
  have j1:(a.length:Int)<(n:Int):=by omega
  go_enter Tryz.func177,Tryz.ntmps177;go_wp2_with fail;go_ret;rw [HV.out];exact ⟨rfl,Below.refl _ _⟩
 have j1:¬(a.length:Int)<(n:Int):=by omega
 have j2:¬(b.length:Int)<(n:Int):=by omega
 go_enter Tryz.func177,Tryz.ntmps177;go_wp2_with fail
 go_loopw [7] (fun i wr=>∃j:Nat,i= .int .i64 (j:Int)∧j≤n∧Hid (j≤yU b a)∧Below w.heap.size w wr)
  (fun i _=>n-(intOf i).toNat)
 case atStart=>exact ⟨0,rfl,Nat.zero_le _,Lib.hid (Nat.zero_le _),Below.refl _ _⟩
 case round=>
  obtain ⟨j,rfl,hj,HJ,hbl⟩:=hrel
  by_cases hlt:j<n
  ·have ja:j<a.length:=by omega
   have jb:j<b.length:=by omega
   obtain ⟨ad,rfl,hca⟩:=(ha.below hbl (Nat.le_refl _)).at_ ja;obtain ⟨bd,rfl,hcb⟩:=(hb.below hbl (Nat.le_refl _)).at_ jb
   have i1:(j:Int)<(a.length:Int):=by omega
   have i2:(j:Int)<(b.length:Int):=by omega
   by_cases hxy:a[j]=b[j]
   ·have HJ2:Hid (j+1≤yU b a):=Lib.hid (by
     rcases Nat.lt_or_ge j (yU b a) with h|h
     ·exact h
     ·have he:yU b a=j:=by have:=HJ.out;omega
      have hs:=pA b a (by omega) (by omega);simp only [he] at hs
      exact absurd hxy.symm hs)
    rw [hxy] at hca;clear hxy;generalize b[j]=x at hca hcb;go_upto_region 6 with (fail)
    go_region
    go_wp2_with fail;go_roundw
    case rel=>exact ⟨j+1,by go_num,by omega,HJ2,hbl.drew⟩
    case measure=>simp [intOf];omega
   ·have HV:Hid (bgB a b n=false):=by
     show _=_
     unfold bgB;refine decide_eq_false fun hc=> ?_
     have:=zA8 (a:=b) (b:=a) (j:=j) (by omega)
     rw [List.getElem?_eq_getElem jb,List.getElem?_eq_getElem ja] at this;exact hxy (Option.some.inj this).symm
    have e1:=zE3 hxy;clear hxy;generalize a[j]=x at hca e1;generalize b[j]=y at hcb e1;go_upto_region 6 with (fail)
    go_region
    go_wp2_with fail;go_ret;rw [HV.out];exact ⟨rfl,hbl.drew⟩
  ·obtain rfl:j=n:=by omega
   have HV:Hid (bgB a b j=true):=by show _=_;unfold bgB;exact decide_eq_true HJ.out
   go_wp2_with fail;go_ret;rw [HV.out];exact ⟨rfl,hbl⟩
theorem uK (v:Value) (ls:List (List UInt8)) (w:World) (hv:RdL w v ls):Calls Tryz.prog 161 #[v] w fun e w'=>e= .returned (.int .i64 (vL ls:Nat))∧Below w.heap.size w w':=by
 obtain ⟨A,c,rfl,hm⟩:=hv.form
 cases ls with
 |nil=>
  go_enter Tryz.func161,Tryz.ntmps161;go_wp2_with fail;go_ret;exact ⟨rfl,Below.refl _ _⟩
 |cons t r=>
  obtain ⟨ad,A0,c0,rfl,hc0,hr0⟩:=hv.at_ (k:=0) (by simp);have htl:t.length≤9223372036854775807:=hr0.le
  have hc0:w.cell? ad=some (.slice A0 t.length c0):=by simpa [Addr.add] using hc0
  have hr0:RdB w (.slice A0 t.length c0) t:=hr0
  have hrl:r.length+1≤9223372036854775807:=by simpa using hm
  have hL:(t::r).length=r.length+1:=rfl
  have HX:Hid (∀j (h:j<r.length),∃A2 c2,w.cell? (ad.add (j+1))=some (.slice A2 r[j].length c2)∧RdB w (.slice A2 r[j].length c2) r[j]):=Lib.hid fun j h=>by
   obtain ⟨ad',A2,c2,e,h1,h2⟩:=hv.at_ (k:=j+1) (by simp;omega);injection e with e;subst e;exact ⟨A2,c2,h1,h2⟩
  rw [hL] at hm⊢;obtain ⟨L,hL1⟩:∃L,L=r.length+1:=⟨_,rfl⟩;have HL:=Lib.hid hL1;rw [←hL1] at hm⊢
  have e0:((L:Int)==0)=false:=by simp;omega
  have i0:(0:Int)<(L:Int):=by omega
  have i00:0<L:=by omega
  clear hL hv hrl hL1;go_enter Tryz.func161,Tryz.ntmps161;go_wp2_with fail
  go_loopw [3,4,5] (fun n i u wr=>∃j J N:Nat,i= .int .i64 (J:Int)∧n= .int .i64 (N:Int)∧Hid (J=j+1)∧J≤L∧N≤t.length∧Hid (N=(r.take j).foldl (fun n x=>min n (yU t x)) t.length)∧Below w.heap.size w wr)
   (fun _ i _ _=>L-(intOf i).toNat)
  case atStart=>exact ⟨0,1,t.length,rfl,rfl,Lib.hid rfl,by omega,Nat.le_refl _,Lib.hid rfl,Below.refl _ _⟩
  case round=>
   obtain ⟨j,J,N,rfl,rfl,HJ,hJ,hNt,HN,hb⟩:=hrel
   by_cases hltJ:J<L
   ·have hlt:j<r.length:=by have:=HJ.out;have:=HL.out;omega
    obtain ⟨A2,c2,hcx,hrx⟩:=HX.out j hlt
    have HF:Hid ((r.take (j+1)).foldl (fun n x=>min n (yU t x)) t.length=min N (yU t r[j])):=Lib.hid (by
     rw [←List.take_append_getElem hlt,List.foldl_append,←HN.out];rfl)
    have hxl:=hrx.le
    have HC:Hid (∀w',Below w.heap.size w w'→w'.cell? (ad.add J)=some (.slice A2 r[j].length c2)∧w'.cell? ad=some (.slice A0 t.length c0)):=Lib.hid fun w' hb'=>by
     have l1:(ad.add (j+1)).block<w.heap.size:=block_lt_of_cell hcx;have l2:ad.block<w.heap.size:=block_lt_of_cell hc0;rw [HJ.out];exact ⟨(hb'.cell l1).trans hcx,by rw [hb'.cell l2];exact hc0⟩
    clear hcx;generalize r[j]=x at*
    have i1:(J:Int)<(L:Int):=by omega
    clear hlt;go_wp2_with fail
    go_loopw [3,5] (fun n u wr=>∃M:Nat,n= .int .i64 (M:Int)∧M≤N∧Hid (min M (yU t x)=min N (yU t x))∧Below w.heap.size w wr)
     (fun n _ _=>(intOf n).toNat)
    case atStart=>exact ⟨N,rfl,Nat.le_refl _,Lib.hid rfl,hb⟩
    case round=>
     clear hb;obtain ⟨M,rfl,hMN,HM,hb⟩:=hrel;rcases Nat.eq_zero_or_pos M with h0|h0
     ·subst h0;have HF2:=Lib.hid (show 0=(r.take (j+1)).foldl (fun n x=>min n (yU t x)) t.length by rw [HF.out,←HM.out];simp);go_wp2_with fail;go_roundw
      case rel=>exact ⟨j+1,J+1,0,by go_num,rfl,Lib.hid (by rw [HJ.out]),by omega,Nat.zero_le _,HF2,hb⟩
      case measure=>simp [intOf];omega
     ·obtain ⟨hcx,hct⟩:=HC.out _ hb.drew
      have hM0:(0:Int)<(M:Int):=by omega
      rcases Nat.lt_or_ge (yU t x) M with hlt3|hge3
      ·have HV:Hid (bgB x t M=false):=by show _=_;unfold bgB;exact decide_eq_false (by omega)
       have HM2:Hid (min (M-1) (yU t x)=min N (yU t x)):=Lib.hid (by rw [←HM.out];omega);go_upto_region 8 with (fail)
       go_region_held3 (fun w'=>w'.cell? (ad.add J)=some (.slice A2 x.length c2)∧w'.cell? ad=some (.slice A0 t.length c0))
        (first|exact ⟨hcx,hct⟩|exact HC.out _ hb7|go_keep)
        (first
         |(go_at_call 177;refine (sS _ _ x t M _ (hrx.below hb.drew (Nat.le_refl _)) (hr0.below hb.drew (Nat.le_refl _)) (by omega)).mono ?_;rintro e w7 ⟨rfl,hw7⟩;rw [HV.out];have hb7:=hb.drew.trans (hw7.mono hb.drew.size))
         |fail)
       go_wp2_with fail;go_roundw
       case rel=>exact ⟨M-1,by go_num,by omega,HM2,hb7⟩
       case measure=>simp [intOf];omega
      ·have HV:Hid (bgB x t M=true):=by show _=_;unfold bgB;exact decide_eq_true hge3
       have HF2:=Lib.hid (show M=(r.take (j+1)).foldl (fun n x=>min n (yU t x)) t.length by rw [HF.out,←HM.out];omega);go_upto_region 8 with (fail)
       go_region_held3 (fun w'=>w'.cell? (ad.add J)=some (.slice A2 x.length c2)∧w'.cell? ad=some (.slice A0 t.length c0))
        (first|exact ⟨hcx,hct⟩|exact HC.out _ hb7|go_keep)
        (first
         |(go_at_call 177;refine (sS _ _ x t M _ (hrx.below hb.drew (Nat.le_refl _)) (hr0.below hb.drew (Nat.le_refl _)) (by omega)).mono ?_;rintro e w7 ⟨rfl,hw7⟩;rw [HV.out];have hb7:=hb.drew.trans (hw7.mono hb.drew.size))
         |fail)
       go_wp2_with fail;go_roundw
       case rel=>exact ⟨j+1,J+1,M,by go_num,rfl,Lib.hid (by rw [HJ.out]),by omega,by omega,HF2,hb7⟩
       case measure=>simp [intOf];omega
   ·obtain rfl:j=r.length:=by have:=HJ.out;have:=HL.out;omega
    have HC:Hid (vL (t::r)=N):=Lib.hid (by rw [HN.out,List.take_length];rfl);go_wp2_with fail;go_ret;rw [HC.out];exact ⟨rfl,hb⟩
def mrk (k q:Nat):UInt8:=UInt8.ofNat (k+q/251)
theorem iE (k q:Nat):((k:Int)+(q:Int)/251)%256=((mrk k q).toNat:Int):=by
 unfold mrk;rw [UInt8.toNat_ofNat'];omega
def mkL (k m:Nat):List UInt8:=(List.range m).map (mrk k)
theorem jX (k m:Nat):(mkL k m).length=m:=by simp [mkL]
theorem aI (k m:Nat):mkL k (m+1)=mkL k m++ [mrk k m]:=by simp [mkL,List.range_succ]
theorem zEY (k:Nat) {m n:Nat} (h:m≤n):(mkL k n).take m=mkL k m:=by
 unfold mkL;rw [←List.map_take,List.take_range,Nat.min_eq_left h]
theorem zG1 (k m q:Nat) (h:q<(mkL k m).length):(mkL k m)[q]=mrk k q:=by simp [mkL]
def OwLs (w:World) (base:Nat) (vs:List Value) (f:Nat→List UInt8):Prop:=∀(j:Nat) (u:Value),vs[j]? =some u→OwB w base u (f j)
def ApartL (vs:List Value):Prop:=∀(i j:Nat) (u u':Value),i≠j→vs[i]? =some u→vs[j]? =some u'→∀g,u.ownBlock=some g→some g≠u'.ownBlock
theorem OwLs.grown {w w':World} {base:Nat} {vs:List Value} {f:Nat→List UInt8} {row:Option Nat} (h:OwLs w base vs f) (hg:w.grownBy w' row) (hne:∀(j:Nat) (u:Value),vs[j]? =some u→∀g,u.ownBlock=some g→some g≠row):OwLs w' base vs f:=
 fun j u hj=>(h j u hj).grown hg (hne j u hj)
theorem OwLs.below' {w w':World} {base B:Nat} {vs:List Value} {f:Nat→List UInt8} (h:OwLs w base vs f) (hb:Below B w w') (hB:w.heap.size≤B):OwLs w' base vs f:=fun j u hj=>(h j u hj).below' hb hB
theorem OwLs.alloc {w:World} {base:Nat} {vs:List Value} {f:Nat→List UInt8} (h:OwLs w base vs f) (o:Obj):OwLs (w.alloc o) base vs f:=fun j u hj=>(h j u hj).alloc o
theorem OwLs.set {w:World} {base:Nat} {vs:List Value} {f:Nat→List UInt8} (h:OwLs w base vs f) (ha:ApartL vs) {i g n c:Nat} (hi:vs[i]? =some (.slice (some ⟨g,0,none⟩) n c)) (j:Nat) (x:UInt8) {f':Nat→List UInt8} (hf:f' i=(f i).set j x) (hf':∀k,k≠i→f' k=f k):
 OwLs (w.setCell ⟨g,j,none⟩ (.int .u8 (x.toNat:Int))) base vs f':=by
 intro k u hk
 by_cases e:k=i
 ·subst e;rw [hi] at hk;injection hk with hk;subst hk;rw [hf];exact (h k _ hi).set j x
 ·rw [hf' k e]
  exact (h k u hk).grown (zY w _ _) (fun g' hg'=>by
   have:=ha k i u _ e hk hi g' hg'
   simpa [Value.ownBlock] using this)
def EOk (w:World) (base:Nat) (x:Value) (n:Nat) (bx:Nat) (e:Value) (m b:Nat):Prop:=OwB w base e (mkL b m)∧(∀g,e.ownBlock=some g→x.ownBlock=some g→m≤n∧b=bx)
theorem EOk.step {w w':World} {base n s:Nat} {x x' e:Value} {bx m b:Nat} (h:EOk w base x n bx e m b) (hx:OwB w base x (mkL bx n)) (hx':OwB w' base x (mkL bx n)) (hg:w.grownBy w' x.ownBlock)
 (hb:x'.ownBlock=x.ownBlock∨x'.ownBlock=some s) (hs:w.heap.size≤s):EOk w' base x' (n+1) bx e m b:=by
 obtain ⟨ho,hm⟩:=h
 have hnew:∀g,e.ownBlock=some g→x'.ownBlock=some g→m≤n+1∧b=bx:=by
  intro g he hxe;rcases hb with hb|hb
  ·rw [hb] at hxe
   have:=hm g he hxe
   exact ⟨by omega,this.2⟩
  ·rw [hb] at hxe;injection hxe with hxe
   have:=(ho.lt g he).2;omega
 refine ⟨?_,hnew⟩
 by_cases hsame:∃g,e.ownBlock=some g∧x.ownBlock=some g
 ·obtain ⟨g,he,hxg⟩:=hsame;obtain ⟨hmn,rfl⟩:=hm g he hxg;rcases ho.form with ⟨rfl,_⟩|⟨g1,c1,rfl,_⟩
  ·cases he
  rcases hx.form with ⟨rfl,_⟩|⟨g2,c2,rfl,_⟩
  ·cases hxg
  simp [Value.ownBlock] at he hxg;subst he;subst hxg;have hc:=ho.cap_eq hx;subst hc
  have:=hx'.take (m:=m) (by rw [jX];exact hmn)
  rw [zEY _ hmn] at this;rw [jX];exact this
 ·exact ho.grown hg (fun g he hr=>hsame ⟨g,he,hr.symm⟩)
theorem EOk.grown {w w':World} {base n:Nat} {x e:Value} {bx m b:Nat} {row:Option Nat} (h:EOk w base x n bx e m b) (hg:w.grownBy w' row) (hne:∀g,e.ownBlock=some g→some g≠row):EOk w' base x n bx e m b:=
 ⟨h.1.grown hg hne,h.2⟩
theorem EOk.fresh {w:World} {base n n':Nat} {x y e:Value} {bx by' m b:Nat} (h:EOk w base x n bx e m b) (hne:∀g,e.ownBlock=some g→y.ownBlock≠some g):EOk w base y n' by' e m b:=
 ⟨h.1,fun g he hy=>absurd hy (hne g he)⟩
theorem OwB.ne_own' {w:World} {b b':Nat} {u v:Value} {l:List UInt8} {n:Nat} {vs:List Value} (h:OwB w b u l) (h':Own w b' 41 1 v n vs):∀g,u.ownBlock=some g→some g≠v.ownBlock:=
 fun _ hg he=>h.ne_own h' he.symm hg.symm
def pC (q:Nat):Nat:=min q 3+(if 8<q then 1 else 0)+(if 19<q then 1 else 0)
def aC (q:Nat):Bool:=decide (q<3∨q=8∨q=19)
theorem zCX {q:Nat} (h:aC q=true):pC (q+1)=pC q+1∧pC q<5:=by
 have h:=of_decide_eq_true h;unfold pC;rcases h with h|rfl|rfl
 ·rw [if_neg (by omega),if_neg (by omega),if_neg (by omega),if_neg (by omega)];omega
 ·decide
 ·decide
theorem zDN {q:Nat} (h:aC q=false) (hq:q<20):pC (q+1)=pC q:=by
 have h:=of_decide_eq_false h;unfold pC
 by_cases h1:8<q
 ·rw [if_pos (by omega),if_pos h1,if_neg (by omega),if_neg (by omega)];omega
 ·rw [if_neg (by omega),if_neg h1,if_neg (by omega),if_neg (by omega)];omega
structure InvQ (F:Nat→Prop) (w:World) (s2 base:Nat) (vs:List Value) (f:Nat→List UInt8) (v:Value) (k q:Nat) (gr x:Value) (es:List Value) (wi:World):Prop where
 len:es.length=5*k+pC q
 own:Own wi s2 41 1 gr es.length es
 ox:OwB wi base x (mkL k ((f k).length+q))
 hE:∀(j:Nat) (e:Value),es[j]? =some e→(∃m,EOk wi base x ((f k).length+q) k e m (j/5))∧∀(i:Nat) (u:Value),k<i→vs[i]? =some u→∀g,e.ownBlock=some g→u.ownBlock≠some g
 hk:∀(u:Value),vs[k]? =some u→EOk wi base x ((f k).length+q) k u (f k).length k
 hx:∀(i:Nat) (u:Value),i≠k→vs[i]? =some u→∀g,x.ownBlock=some g→u.ownBlock≠some g
 hv:Own wi base 41 1 v vs.length vs
 hl:∀(j:Nat) (u:Value),j≠k→vs[j]? =some u→OwB wi base u (mkL j (f j).length)
 hs:∀(j:Nat) (u:Value),vs[j]? =some u→∀g,u.ownBlock=some g→g<s2
 ht:Turn F w wi
 hxF:∀g,x.ownBlock=some g→F g∨w.heap.size≤g
 s2w:w.heap.size≤s2
 size:s2≤wi.heap.size
section
variable {F:Nat→Prop} {w wi w3 w4:World} {s2 base:Nat} {vs:List Value} {f:Nat→List UInt8} {v:Value} {k q:Nat} {gr x x3 gr4:Value} {es:List Value}
theorem InvQ.grow (h:InvQ F w s2 base vs f v k q gr x es wi)
 (ho3:OwB w3 base x3 (mkL k ((f k).length+q)++ [mrk k ((f k).length+q)])) (hg3:wi.grownBy w3 x.ownBlock) (hb3:x3.ownBlock=x.ownBlock∨x3.ownBlock=some (wi.heap.size+1)) (hk3:OwB w3 base x (mkL k ((f k).length+q)))
 (_hq:es.length=5*k+pC (q+1)∨es.length=5*k+pC q):
 Own w3 s2 41 1 gr es.length es∧OwB w3 base x3 (mkL k ((f k).length+(q+1)))∧
 (∀(j:Nat) (e:Value),es[j]? =some e→(∃m,EOk w3 base x3 ((f k).length+(q+1)) k e m (j/5))∧∀(i:Nat) (u:Value),k<i→vs[i]? =some u→∀g,e.ownBlock=some g→u.ownBlock≠some g)∧
 (∀(u:Value),vs[k]? =some u→EOk w3 base x3 ((f k).length+(q+1)) k u (f k).length k)∧
 (∀(i:Nat) (u:Value),i≠k→vs[i]? =some u→∀g,x3.ownBlock=some g→u.ownBlock≠some g)∧
 Own w3 base 41 1 v vs.length vs∧(∀(j:Nat) (u:Value),j≠k→vs[j]? =some u→OwB w3 base u (mkL j (f j).length))∧Turn F w w3∧(∀g,x3.ownBlock=some g→F g∨w.heap.size≤g)∧s2≤w3.heap.size:=by
 have hgr3:Own w3 s2 41 1 gr es.length es:=h.own.grown hg3 (fun g hg=>h.ox.ne_own h.own hg);rw [←aI,Nat.add_assoc] at ho3;have hsz:=h.ht.size;have s3:=hg3.size;have hz:=h.size;refine ⟨hgr3,ho3,fun j e hj=> ?_,fun u hu=> ?_,?_,h.hv.grown hg3 (fun g hg=>h.ox.ne_own h.hv hg),fun j u hj hu=>(h.hl j u hj hu).grown hg3 (fun g hg he=>h.hx j u hj hu g he.symm hg),h.ht.grown hg3 (fun g hg=>h.hxF g hg),fun g hg=> ?_,by omega⟩
 ·obtain ⟨⟨m,he⟩,hne⟩:=h.hE j e hj;exact ⟨⟨m,he.step h.ox hk3 hg3 hb3 (by omega)⟩,hne⟩
 ·exact (h.hk u hu).step h.ox hk3 hg3 hb3 (by omega)
 ·intro i u hi hu g hg hu';rcases hb3 with e|e
  ·exact h.hx i u hi hu g (e▸hg) hu'
  ·rw [e] at hg;injection hg with hg
   have:=h.hs i u hu g hu'
   omega
 ·rcases hb3 with e|e
  ·exact h.hxF g (e▸hg)
  ·rw [e] at hg;injection hg with hg
   right;omega
theorem InvQ.drop (h:InvQ F w s2 base vs f v k q gr x es wi) (hq:q<20) (hk:aC q=false)
 (ho3:OwB w3 base x3 (mkL k ((f k).length+q)++ [mrk k ((f k).length+q)])) (hg3:wi.grownBy w3 x.ownBlock) (hb3:x3.ownBlock=x.ownBlock∨x3.ownBlock=some (wi.heap.size+1)) (hk3:OwB w3 base x (mkL k ((f k).length+q))):
 InvQ F w s2 base vs f v k (q+1) gr x3 es w3:=by
 have hlen:=h.len;have hc:=zDN hk hq;obtain ⟨h1,h2,h3,h4,h5,h6,h7,h8,h8',h9⟩:=h.grow ho3 hg3 hb3 hk3 (.inr hlen);exact ⟨by rw [hc];exact hlen,h1,h2,h3,h4,h5,h6,h7,h.hs,h8,h8',h.s2w,h9⟩
theorem InvQ.step (h:InvQ F w s2 base vs f v k q gr x es wi) (hk:aC q=true)
 (hV:∀g,v.ownBlock=some g→g<s2)
 (ho3:OwB w3 base x3 (mkL k ((f k).length+q)++ [mrk k ((f k).length+q)])) (hg3:wi.grownBy w3 x.ownBlock) (hb3:x3.ownBlock=x.ownBlock∨x3.ownBlock=some (wi.heap.size+1)) (hk3:OwB w3 base x (mkL k ((f k).length+q)))
 (hgr4:Own w4 s2 41 1 gr4 (es.length+1) (es++ [x3])) (hg4:w3.grownBy w4 gr.ownBlock):InvQ F w s2 base vs f v k (q+1) gr4 x3 (es++ [x3]) w4:=by
 have hlen:=h.len;obtain ⟨hc,hc5⟩:=zCX hk;obtain ⟨hgr3,ho,h3,h4,h5,h6,h7,h8,h8',h9⟩:=h.grow ho3 hg3 hb3 hk3 (.inr hlen);have ho4:=ho.grown hg4 (ho.ne_own' hgr3);have s4:=hg4.size;have hsz:=h8.size;have hne:∀{u:Value} {l:List UInt8},OwB w3 base u l→∀g,u.ownBlock=some g→some g≠gr.ownBlock:=fun hu=>OwB.ne_own' hu hgr3;refine ⟨by simp [hlen,hc];omega,by simpa using hgr4,ho4,?_,fun u hu=>(h4 u hu).grown hg4 (hne (h4 u hu).1),h5,?_,fun j u hj hu=>(h7 j u hj hu).grown hg4 (hne (h7 j u hj hu)),h.hs,?_,h8',h.s2w,by omega⟩
 ·intro j e hj;rcases Nat.lt_or_ge j es.length with hlt|hge
  ·rw [List.getElem?_append_left hlt] at hj;obtain ⟨⟨m,he⟩,hn⟩:=h3 j e hj;exact ⟨⟨m,he.grown hg4 (hne he.1)⟩,hn⟩
  ·rw [List.getElem?_append_right hge] at hj
   have hj0:j=es.length:=by
    have:=(List.getElem?_eq_some_iff.mp hj).1
    simp at this;omega
   subst hj0;simp at hj;subst hj
   have hd:es.length/5=k:=by rw [hlen];omega
   rw [hd];exact ⟨⟨_,ho4,fun g _ _=>⟨Nat.le_refl _,rfl⟩⟩,fun i u hi hu=>h5 i u (by omega) hu⟩
 ·refine h6.grown hg4 (fun g hg he=> ?_);have h1:=hV g hg;have h2:=(hgr3.lt g he.symm).1;omega
 ·refine h8.grown hg4 (fun g hg=> ?_);have h1:=(hgr3.lt g hg).1;have h2:=h.s2w
  right;omega
end
theorem InvQ.gr3 {F:Nat→Prop} {w wi:World} {s2 base:Nat} {vs:List Value} {f:Nat→List UInt8} {v:Value} {k q:Nat} {gr x:Value} {es:List Value} (h:InvQ F w s2 base vs f v k q gr x es wi):
 ∀w3,wi.grownBy w3 x.ownBlock→Own w3 s2 41 1 gr es.length es:=fun _ hg=>h.own.grown hg (fun _ hg=>h.ox.ne_own h.own hg)
theorem OwB.one {w:World} {b:Nat} {u:Value} {l:List UInt8} (h:OwB w b u l):u.oneCell'=true:=by
 rcases h.form with ⟨rfl,_⟩|⟨g,c,rfl,_⟩<;>rfl
theorem OwB.slice' {w:World} {b n:Nat} {u:Value} {l:List UInt8} (h:OwB w b u l) (hn:l.length=n):∃A c,u= .slice A n c:=by
 subst hn;exact Own.slice h
def dS (f:Nat→List UInt8) (k:Nat) (j:Nat):List UInt8:=bif decide (j<k) then mkL j (f j).length else f j
def bE (f:Nat→List UInt8) (k q:Nat) (j:Nat):List UInt8:=bif decide (j=k) then mkL k q++(f k).drop q else dS f k j
theorem zHA (f:Nat→List UInt8) (k j:Nat):bE f k 0 j=dS f k j:=by
 unfold bE dS
 by_cases h:j=k<;>simp [h,mkL]
theorem zG0 (f:Nat→List UInt8) (k j:Nat):bE f k (f k).length j=dS f (k+1) j:=by
 unfold bE dS
 by_cases h:j=k
 ·simp [h]
 ·by_cases h2:j<k
  ·have:j<k+1:=by omega
   simp [h,h2,this]
  ·have:¬j<k+1:=by omega
   simp [h,h2,this]
theorem zCS (f:Nat→List UInt8) (k q:Nat) (hq:q<(f k).length):bE f k (q+1) k=(bE f k q k).set q (mrk k q):=by
 unfold bE;simp only [decide_true,cond_true];rw [List.set_append_right _ _ (by rw [jX];exact Nat.le_refl _)];rw [jX,Nat.sub_self,List.drop_eq_getElem_cons hq,List.set_cons_zero,aI,List.append_assoc];rfl
theorem zEF (f:Nat→List UInt8) (k q j:Nat) (h:j≠k):bE f k (q+1) j=bE f k q j:=by
 unfold bE;simp [h]
section laws
variable {w:World} {ops:Array Oper} {rest:List Oper} {o:Oper} {a:Act} {Q:Exit→Act→World→Prop}
theorem kV (hgd:o.guard=none) (s x:Operand)
 (ho:o.op= .call {callee:= .builtin .append,args:= #[s,x],argTypes:= #[35,35]})
 (base:Nat) (v:Value) (vs:List Value) (hs:a.eval s=v) (hown:Own w base 41 1 v vs.length vs)
 (u:Value) (hu:u.oneCell'=true) (T:TypeId) (hx:a.eval x= .slice (some ⟨w.heap.size,0,none⟩) 1 1) (hsm:(vs.length+1)*24≤140737488355328) (hbase:base≤w.heap.size)
 (h:∀v' w',Own w' base 41 1 v' (vs.length+1) (vs++ [u])→w.grownBy w' v.ownBlock→(v'.ownBlock=v.ownBlock∨(v'.ownBlock=some (w.heap.size+1)))→wpList Tryz.prog ops Q rest (a.put o.dst v') w'):
 wpList Tryz.prog ops Q (o::rest) a (w.alloc (.cells #[u] T)):=by
 obtain ⟨i,hi,hz0,hz1,hz2⟩:=info_parts zEU
 refine gA hgd s x _ _ ho base 41 i _ 1 24 Tryz.underlying35 hi hz0 hz1 hz2 rfl v vs.length vs hs (hown.alloc _) (.slice (some ⟨w.heap.size,0,none⟩) 1 1) 1 [u] hx
  (Rd.src _ Tryz.underlying35 (by omega) (Rd.one w u T) (by simpa using hu)) (by omega) (by omega) (by simp;omega) ?_
 intro v' w' h1 h2 h3;refine h v' w' h1 ⟨h2.os,h2.tape,h2.output,?_,fun k hk hne=>(h2.block k (by simp;omega) hne).trans (Below.heap_alloc _ _ _ hk)⟩ (by simpa using h3)
 have:=h2.size
 simp at this;omega
end laws
end Go.Proofs.YtfcnkpofcekmgaaGreat
