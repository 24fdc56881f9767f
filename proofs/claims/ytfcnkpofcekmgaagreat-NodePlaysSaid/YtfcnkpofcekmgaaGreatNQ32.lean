/- Texts joined. -/
import Derived.Test.YtfcnkpofcekmgaaGreatNQ31
set_option maxRecDepth 100000
set_option maxHeartbeats 64000000
namespace Go.Proofs.YtfcnkpofcekmgaaGreat
open Go.RowKit
theorem zGK {K:Int} (_h:yE K):∃a m:Int,K.tmod 6=a∧(-5≤a∧a≤5)∧(a+6).tmod 6=m∧(a+6)%6=m∧(m=0∨m=1∨m=2∨m=3∨m=4∨m=5):=by
 have h1: -5≤K.tmod 6∧K.tmod 6≤5:=by
  rcases Int.le_total 0 K with hk|hk
  ·rw [Int.tmod_eq_emod_of_nonneg hk];omega
  ·have e:K.tmod 6= -((-K).tmod 6):=by rw [Int.neg_tmod,Int.neg_neg]
   rw [e,Int.tmod_eq_emod_of_nonneg (by omega)];omega
 refine ⟨K.tmod 6,(K.tmod 6+6).tmod 6,rfl,h1,rfl,?_,?_⟩
 ·exact (Int.tmod_eq_emod_of_nonneg (by omega)).symm
 ·rw [Int.tmod_eq_emod_of_nonneg (show 0≤K.tmod 6+6 by omega)];omega
theorem oC {l:List PC} {P:Nat} (h:∀c∈l,OkC P c) (hP:P≤65536) (i:Int):(xG l i).key.length≤65536∧(xG l i).val.length≤65536:=by
 unfold xG
 split
 ·simp
 ·rename_i hin
  have hlt:i.toNat<l.length:=by omega
  have e:l.getD i.toNat ⟨[],0,[],0,0⟩=l[i.toNat]:=by simp [List.getD,hlt]
  rw [e]
  have:=qM (h _ (List.getElem_mem hlt)) hP
  omega
def Pl1 (w0:World) (L:List Ent) (p x P bb:Nat) (kind:Int) (lv:Value) (xs:List (Value×List UInt8)) (w':World):Prop:=
 ∃(s':KP) (E' R':Ent) (bv':Value) (xs':List (Value×List UInt8)),NdI1 kind P s'∧xs'.length≤xs.length+2∧Hid ((∀p∈xs,p.2.length≤1000000000)→∀p∈xs',p.2.length≤1000000000)∧
  Sep w0 w' (E'::R'::yJ 40 bb [lv] bv' xs'::L)∧Hid (∀(W:World) (M:List Ent),Sep w0 W (E'::M)→NdP1 w0 W M p P kind s')∧Hid (∀(W:World) (M:List Ent),Sep w0 W (R'::M)→RnP1 w0 W M x P kind s')
theorem zH5 {w0 w:World} {L:List Ent} {E R:Ent} {p x P bb:Nat} {kind:Int} {s:KP} {bv lv:Value} {xs:List (Value×List UInt8)}
 (hS:Sep w0 w (E::R::yJ 40 bb [lv] bv xs::L)) (HE:Hid (∀(W:World) (M:List Ent),Sep w0 W (E::M)→NdP1 w0 W M p P kind s)) (HR:Hid (∀(W:World) (M:List Ent),Sep w0 W (R::M)→RnP1 w0 W M x P kind s))
 (hI:NdI1 kind P s) (hkd:kind=2∨kind=3) (hP:P≤65536) (hxs:xs.length≤7000000) (q:OpX) (hx:XIn L q.x) (hk:RdIn L q.kv q.key) (hr0:yE q.kind) (hr1:yE q.at_):
 Calls Tryz.prog 14 #[sI p,.pointer (some ⟨x,0,none⟩),opV q,.pointer (some ⟨bb,0,none⟩)] w fun e w'=>e= .returned (.bool true)∧Pl1 w0 L p x P bb kind lv xs w':=by
 have i1:=rK;have i2:=zGE;have i3:=zAK;have i4:=o9;have i5:=aU;have hok:=hx.ok hS (fun E hE=>by simp [hE]);have hkr:=(hS.tail.tail.tail.rdIn hk);obtain ⟨K,at_,cv,kv,okey⟩:=q;simp only at hx hk hr0 hr1 hok hkr⊢;obtain ⟨D,cd,rfl,-⟩:=hkr.form;have hry:fH cv.c:=⟨hok.r1,hok.r2,hok.r3⟩;obtain ⟨KA,ka,VA,va,key,ck,val,pg,ct,rfl,-,-⟩:=CV.form hok;simp only at hry;have HX:=Lib.hid hx;have HK:=Lib.hid hk;have HY:=Lib.hid hry;obtain ⟨a6,m6,e1,⟨e2,e2'⟩,e3,e4,hm⟩:=zGK hr0;have HM:=Lib.hid hm;have hS1:=hS.alloc 45 [.int .i64 K,.int .i64 at_,.slice KA key.length ka,.int .i64 ck,.slice VA val.length va,.int .i64 pg,.int .i64 ct,.slice D okey.length cd];have hLe:=t6 hS1 ⟨.slice KA key.length ka,.slice VA val.length va,⟨key,ck,val,pg,ct⟩⟩ (hx.ok hS1 (fun E hE=>by simp [hE])) hx.s1 hx.s2;obtain ⟨c0,c1,c2,c3,c4,c5,c6,c7⟩:=vV hS1.blk;unfold zJ vG at hLe;simp only at hLe;clear hok hkr hx hk hS hS1 hm hr0 hry;unfold opV;simp only;go_enter Tryz.func14,Tryz.ntmps14
 go_upto_region 2 with (first
  |(go_at_call 46;refine hLe.mono ?_;rintro e w2 ⟨gk,gv,rfl,hS2⟩)
  |fail)
 have hS3:Sep w0 _ (z7 w2.heap.size 43 [.slice (some ⟨gk,0,none⟩) key.length (key.length+9),.int .i64 ck,.slice (some ⟨gv,0,none⟩) val.length (val.length+9),.int .i64 pg,.int .i64 ct]::lkE gk key::lkE gv val::z7 w.heap.size 45 [.int .i64 K,.int .i64 at_,.slice KA key.length ka,.int .i64 ck,.slice VA val.length va,.int .i64 pg,.int .i64 ct,.slice D okey.length cd]::E::R::yJ 40 bb [lv] bv xs::L):=hS2.alloc 43 [.slice (some ⟨gk,0,none⟩) key.length (key.length+9),.int .i64 ck,.slice (some ⟨gv,0,none⟩) val.length (val.length+9),.int .i64 pg,.int .i64 ct];clear hS2 hLe c0 c1 c2 c3 c4 c5 c6 c7;generalize w2.alloc (.cells #[.slice (some ⟨gk,0,none⟩) key.length (key.length+9),.int .i64 ck,.slice (some ⟨gv,0,none⟩) val.length (val.length+9),.int .i64 pg,.int .i64 ct] 43)=w3 at*;obtain ⟨lc,hlc⟩:∃b,w2.heap.size=b:=⟨_,rfl⟩;obtain ⟨b,hb⟩:∃b,w.heap.size=b:=⟨_,rfl⟩;simp only [hlc,hb] at hS3⊢;clear hlc hb;obtain ⟨c0,c1,c2,c3,c4,c5,c6,c7⟩:=vV (show OBlk w3 b 45 [.int .i64 K,.int .i64 at_,.slice KA key.length ka,.int .i64 ck,.slice VA val.length va,.int .i64 pg,.int .i64 ct,.slice D okey.length cd] from hS3.tail.tail.tail.head);go_upto_region 3 with (fail);clear e1 e2 e2' e3 e4;have hm:=HM.out;clear HM;rcases hm with rfl|rfl|rfl|rfl|hm45
 ·have hS4:=Sep.pick (L:= [_,_,_,_,_]) [4,0,1,2,3] (by decide) rfl hS3;obtain ⟨l0,l1,l2,l3,l4⟩:=zC (show OBlk w3 lc 43 [.slice (some ⟨gk,0,none⟩) key.length (key.length+9),.int .i64 ck,.slice (some ⟨gv,0,none⟩) val.length (val.length+9),.int .i64 pg,.int .i64 ct] from hS3.head);have hC:=zFP (HE.out _ _ hS4) hI hkd hP (vG gk gv ⟨key,ck,val,pg,ct⟩) (mK (by simp) (by simp) HY.out HX.out.s1 HX.out.s2) at_ hr1;have hIn:=NdI1.ins hI at_ (show 0≤1 by omega) ⟨key,ck,val,pg,ct⟩;have hRf:=fun (W:World) (M:List Ent) (h:Sep w0 W (R::M)) (hxx:XIn M ⟨.slice KA key.length ka,.slice VA val.length va,⟨key,ck,val,pg,ct⟩⟩)=>zIG (HR.out W M h) hI hkd hP ⟨.slice KA key.length ka,.slice VA val.length va,⟨key,ck,val,pg,ct⟩⟩ hxx at_ hr1;unfold zJ at hRf;unfold zJ vG at hC;simp only at hC hRf;generalize qT kind P s at_ 0 ⟨key,ck,val,pg,ct⟩=z at*;generalize jK kind P s at_ 0 ⟨key,ck,val,pg,ct⟩=s' at*;have HRF:=Lib.hid hRf;clear hRf hS3 hS4
  go_upto_region 5 with (first
   |(go_at_call 201;refine hC.mono ?_;rintro e w4 ⟨rfl,hP4⟩)
   |fail)
  obtain ⟨E4,hS4,B4⟩:=NdP1.sep hP4;have HB4:=Lib.hid B4;have hS5:=Sep.pick (L:= [_,_,_,_]) [2,3,0,1] (by decide) rfl hS4;clear hC hP4 B4 c0 c1 c2 c3 c4 c5 c6 c7 l0 l1 l2 l3 l4;obtain ⟨c0,c1,c2,c3,c4,c5,c6,c7⟩:=vV (show OBlk w4 b 45 [.int .i64 K,.int .i64 at_,.slice KA key.length ka,.int .i64 ck,.slice VA val.length va,.int .i64 pg,.int .i64 ct,.slice D okey.length cd] from hS5.tail.tail.tail.tail.head);obtain ⟨l0,l1,l2,l3,l4⟩:=zC (show OBlk w4 lc 43 [.slice (some ⟨gk,0,none⟩) key.length (key.length+9),.int .i64 ck,.slice (some ⟨gv,0,none⟩) val.length (val.length+9),.int .i64 pg,.int .i64 ct] from hS5.tail.tail.tail.head);have hA:=gR ⟨.slice KA key.length ka,.slice VA val.length va,⟨key,ck,val,pg,ct⟩⟩ hS5 (XIn.app (L1:= [_,_,_,_,_]) HX.out);unfold zJ vG at hA;simp only at hA;clear hS4 hS5
  go_upto_region 6 with (first
   |(go_at_call 47;refine hA.mono ?_;rintro e w5 ⟨rfl,hS6⟩)
   |fail)
  have hS7:=Sep.pick (L:= [_,_,_,_]) [3,0,1,2] (by decide) rfl hS6;clear hA c0 c1 c2 c3 c4 c5 c6 c7 l0 l1 l2 l3 l4 hS6;obtain ⟨c0,c1,c2,c3,c4,c5,c6,c7⟩:=vV (show OBlk w5 b 45 [.int .i64 K,.int .i64 at_,.slice KA key.length ka,.int .i64 ck,.slice VA val.length va,.int .i64 pg,.int .i64 ct,.slice D okey.length cd] from hS7.tail.tail.tail.head);have hR:=HRF.out _ _ hS7 (XIn.app (L1:= [_,_,_,_]) HX.out);clear hS7 HRF
  go_wp2_with (first
   |(go_at_call 48;refine hR.mono ?_;rintro e w6 ⟨rfl,hP6⟩)
   |fail)
  obtain ⟨R6,hS8,B6⟩:=RnP1.sep hP6;have HB6:=Lib.hid B6;go_ret;exact ⟨rfl,s',E4,R6,bv,xs,hIn,by omega,Lib.hid (fun h=>h),Sep.pick (L:= [_,_,_,_,_]) [1,0,4] (by decide) rfl hS8,HB4,HB6⟩
 ·have hS4:=Sep.pick (L:= [_,_,_,_,_]) [4,0,1,2,3] (by decide) rfl hS3;obtain ⟨l0,l1,l2,l3,l4⟩:=zC (show OBlk w3 lc 43 [.slice (some ⟨gk,0,none⟩) key.length (key.length+9),.int .i64 ck,.slice (some ⟨gv,0,none⟩) val.length (val.length+9),.int .i64 pg,.int .i64 ct] from hS3.head);have hC:=zHY (HE.out _ _ hS4) hI hkd hP (vG gk gv ⟨key,ck,val,pg,ct⟩) (mK (by simp) (by simp) HY.out HX.out.s1 HX.out.s2) at_ hr1;have hIn:=NdI1.ins hI at_ (show 1≤1 by omega) ⟨key,ck,val,pg,ct⟩;have hRf:=fun (W:World) (M:List Ent) (h:Sep w0 W (R::M)) (hxx:XIn M ⟨.slice KA key.length ka,.slice VA val.length va,⟨key,ck,val,pg,ct⟩⟩)=>zH9 (HR.out W M h) hI hkd hP ⟨.slice KA key.length ka,.slice VA val.length va,⟨key,ck,val,pg,ct⟩⟩ hxx at_ hr1;unfold zJ at hRf;unfold zJ vG at hC;simp only at hC hRf;generalize qT kind P s at_ 1 ⟨key,ck,val,pg,ct⟩=z at*;generalize jK kind P s at_ 1 ⟨key,ck,val,pg,ct⟩=s' at*;have HRF:=Lib.hid hRf;clear hRf hS3 hS4;go_upto_region 10 with (fail);refine hC.mono ?_;rintro e w4 ⟨rfl,hP4⟩;go_upto_region 10 with (fail);obtain ⟨E4,hS4,B4⟩:=NdP1.sep hP4;have HB4:=Lib.hid B4;have hS5:=Sep.pick (L:= [_,_,_,_]) [2,3,0,1] (by decide) rfl hS4;clear hC hP4 B4 c0 c1 c2 c3 c4 c5 c6 c7 l0 l1 l2 l3 l4;obtain ⟨c0,c1,c2,c3,c4,c5,c6,c7⟩:=vV (show OBlk w4 b 45 [.int .i64 K,.int .i64 at_,.slice KA key.length ka,.int .i64 ck,.slice VA val.length va,.int .i64 pg,.int .i64 ct,.slice D okey.length cd] from hS5.tail.tail.tail.tail.head)
  obtain ⟨l0,l1,l2,l3,l4⟩:=zC (show OBlk w4 lc 43 [.slice (some ⟨gk,0,none⟩) key.length (key.length+9),.int .i64 ck,.slice (some ⟨gv,0,none⟩) val.length (val.length+9),.int .i64 pg,.int .i64 ct] from hS5.tail.tail.tail.head);have hA:=gR ⟨.slice KA key.length ka,.slice VA val.length va,⟨key,ck,val,pg,ct⟩⟩ hS5 (XIn.app (L1:= [_,_,_,_,_]) HX.out);unfold zJ vG at hA;simp only at hA;clear hS4 hS5
  go_upto_region 11 with (first
   |(go_at_call 47;refine hA.mono ?_;rintro e w5 ⟨rfl,hS6⟩)
   |fail)
  have hS7:=Sep.pick (L:= [_,_,_,_]) [3,0,1,2] (by decide) rfl hS6;clear hA c0 c1 c2 c3 c4 c5 c6 c7 l0 l1 l2 l3 l4 hS6;obtain ⟨c0,c1,c2,c3,c4,c5,c6,c7⟩:=vV (show OBlk w5 b 45 [.int .i64 K,.int .i64 at_,.slice KA key.length ka,.int .i64 ck,.slice VA val.length va,.int .i64 pg,.int .i64 ct,.slice D okey.length cd] from hS7.tail.tail.tail.head);have hR:=HRF.out _ _ hS7 (XIn.app (L1:= [_,_,_,_]) HX.out);clear hS7 HRF
  go_wp2_with (first
   |(go_at_call 49;refine hR.mono ?_;rintro e w6 ⟨rfl,hP6⟩)
   |fail)
  obtain ⟨R6,hS8,B6⟩:=RnP1.sep hP6;have HB6:=Lib.hid B6;go_ret;exact ⟨rfl,s',E4,R6,bv,xs,hIn,by omega,Lib.hid (fun h=>h),Sep.pick (L:= [_,_,_,_,_]) [1,0,4] (by decide) rfl hS8,HB4,HB6⟩
 ·have hS4:=Sep.pick (L:= [_,_,_,_,_]) [4,0,1,2,3] (by decide) rfl hS3;have hC:=zIW (HE.out _ _ hS4) hI hP at_ hr1;have hIn:=NdI1.rem hI at_;have hRf:=fun (W:World) (M:List Ent) (h:Sep w0 W (R::M))=>zJA (HR.out W M h) hI hP at_ hr1;generalize sH kind P s at_=z at*;generalize wA kind P s at_=s' at*;have HRF:=Lib.hid hRf;clear hRf hS3 hS4;go_upto_region 15 with (fail);refine hC.mono ?_;rintro e w4 ⟨rfl,hP4⟩;go_upto_region 15 with (fail);obtain ⟨E4,hS4,B4⟩:=NdP1.sep hP4;have HB4:=Lib.hid B4;have hS7:=Sep.pick (L:= [_,_,_,_,_,_]) [5,0,4] (by decide) rfl hS4;clear hC hP4 B4 c0 c1 c2 c3 c4 c5 c6 c7;obtain ⟨c0,c1,c2,c3,c4,c5,c6,c7⟩:=vV (show OBlk w4 b 45 [.int .i64 K,.int .i64 at_,.slice KA key.length ka,.int .i64 ck,.slice VA val.length va,.int .i64 pg,.int .i64 ct,.slice D okey.length cd] from hS7.tail.tail.head);have hR:=HRF.out _ _ hS7;clear hS7 hS4 HRF
  go_wp2_with (first
   |(go_at_call 50;refine hR.mono ?_;rintro e w6 ⟨rfl,hP6⟩)
   |fail)
  obtain ⟨R6,hS8,B6⟩:=RnP1.sep hP6;have HB6:=Lib.hid B6;go_ret;exact ⟨rfl,s',E4,R6,bv,xs,hIn,by omega,Lib.hid (fun h=>h),Sep.pick (L:= [_,_,_,_]) [1,0,3] (by decide) rfl hS8,HB4,HB6⟩
 ·have hS4:=Sep.pick (L:= [_,_,_,_,_]) [4,3] (by decide) rfl hS3;have hC:=zEC (HE.out _ _ hS4) hI hP (.slice D okey.length cd) okey ((hS4.tail.tail.tail.tail).rdIn HK.out);have hRf:=fun (W:World) (M:List Ent) (h:Sep w0 W (R::M)) (hh:RdIn M (.slice D okey.length cd) okey)=>zJG (HR.out W M h) hI hP (.slice D okey.length cd) okey hh;generalize z6 okey s.l=z at*;generalize isF okey s.l=t at*;have HRF:=Lib.hid hRf;have HS4:=Lib.hid hS4;clear hRf hS3 hS4;go_upto_region 19 with (fail);refine hC.mono ?_;rintro e w4 ⟨rfl,hw4⟩;go_upto_region 19 with (fail);have hS7:=Sep.pick (L:= [_,_,_]) [2,0,1] (by decide) rfl (HS4.out.below hw4);clear hC c0 c1 c2 c3 c4 c5 c6 c7 HS4 hw4;obtain ⟨c0,c1,c2,c3,c4,c5,c6,c7⟩:=vV (show OBlk w4 b 45 [.int .i64 K,.int .i64 at_,.slice KA key.length ka,.int .i64 ck,.slice VA val.length va,.int .i64 pg,.int .i64 ct,.slice D okey.length cd] from hS7.tail.tail.head);have hR:=HRF.out _ _ hS7 (RdIn.app (L1:= [_,_,_]) HK.out);clear hS7 HRF
  go_wp2_with (first
   |(go_at_call 51;refine hR.mono ?_;rintro e w6 ⟨rfl,hP6⟩)
   |fail)
  obtain ⟨R6,hS8,B6⟩:=RnP1.sep hP6;have HB6:=Lib.hid B6;go_ret;exact ⟨by simp,s,E,R6,bv,xs,hI,by omega,Lib.hid (fun h=>h),Sep.pick (L:= [_,_,_,_]) [1,0,3] (by decide) rfl hS8,HE,HB6⟩
 ·have hm0:((m6:Int)==0)=false:=beq_eq_false_iff_ne.2 (by omega);have hm1:((m6:Int)==1)=false:=beq_eq_false_iff_ne.2 (by omega);have hm2:((m6:Int)==2)=false:=beq_eq_false_iff_ne.2 (by omega);have hm3:((m6:Int)==3)=false:=beq_eq_false_iff_ne.2 (by omega);have hS4:=Sep.pick (L:= [_,_,_,_,_]) [4,3] (by decide) rfl hS3;have hcl:=oC hI.ok hP at_;have hC:=zD5 (HE.out _ _ hS4) hI hP at_ hr1;have hRf:=fun (W:World) (M:List Ent) (h:Sep w0 W (R::M))=>zFK (HR.out W M h) hI hP at_ hr1
  have hself:∀z:Int,(z==z)=true:=fun z=>by simp
  have hz:=hself (jA s.l at_);clear hself;generalize jA s.l at_=z at*;generalize xG s.l at_=cc at*;have HRF:=Lib.hid hRf;have HCL:=Lib.hid hcl;clear hRf hS3 hS4 hm45 hcl;unfold zJ at hC;go_upto_region 22 with (fail);refine hC.mono ?_;rintro e w4 ⟨⟨ykv,yvv,yc⟩,rfl,hyc,hyr,hP4⟩;simp only at hyc;subst hyc;obtain ⟨key1,ck1,val1,pg1,ct1⟩:=yc;obtain ⟨E4,hS4,B4⟩:=NdP1.sep hP4;obtain ⟨K1,k1c,rfl⟩:=Own.slice (show OwB w4 0 ykv key1 from hS4.tail.head);obtain ⟨V1,v1c,rfl⟩:=Own.slice (show OwB w4 0 yvv val1 from hS4.tail.tail.head);go_upto_region 22 with (fail);have HB4:=Lib.hid B4;have HYR:=Lib.hid hyr;have hS5:Sep w0 _ (z7 w4.heap.size 43 [.slice K1 key1.length k1c,.int .i64 ck1,.slice V1 val1.length v1c,.int .i64 pg1,.int .i64 ct1]::E4::zB (.slice K1 key1.length k1c) key1::zB (.slice V1 val1.length v1c) val1::z7 b 45 [.int .i64 K,.int .i64 at_,.slice KA key.length ka,.int .i64 ck,.slice VA val.length va,.int .i64 pg,.int .i64 ct,.slice D okey.length cd]::R::yJ 40 bb [lv] bv xs::L):=hS4.alloc 43 [.slice K1 key1.length k1c,.int .i64 ck1,.slice V1 val1.length v1c,.int .i64 pg1,.int .i64 ct1];clear hC hP4 B4 hyr hS4 c0 c1 c2 c3 c4 c5 c6 c7;generalize w4.alloc (.cells #[.slice K1 key1.length k1c,.int .i64 ck1,.slice V1 val1.length v1c,.int .i64 pg1,.int .i64 ct1] 43)=w5 at*;obtain ⟨b1,hb1⟩:∃b,w4.heap.size=b:=⟨_,rfl⟩;simp only [hb1] at hS5⊢;clear hb1;have hS6:=Sep.pick (L:= [_,_,_,_,_,_]) [5,0,1,2,3,4] (by decide) rfl hS5
  obtain ⟨c0,c1,c2,c3,c4,c5,c6,c7⟩:=vV (show OBlk w5 b 45 [.int .i64 K,.int .i64 at_,.slice KA key.length ka,.int .i64 ck,.slice VA val.length va,.int .i64 pg,.int .i64 ct,.slice D okey.length cd] from hS5.tail.tail.tail.tail.head);have hR:=HRF.out _ _ hS6;unfold zJ at hR;clear hS5 hS6 HRF
  go_upto_region 23 with (first
   |(go_at_call 52;refine hR.mono ?_;rintro e w6 ⟨⟨ykv,yvv,yc⟩,rfl,hyc,hyr,hP6⟩;simp only at hyc;subst hyc;obtain ⟨R6,hS7,B6⟩:=RnP1.sep hP6;obtain ⟨K2,k2c,rfl⟩:=Own.slice (show OwB w6 0 ykv key1 from hS7.tail.head);obtain ⟨V2,v2c,rfl⟩:=Own.slice (show OwB w6 0 yvv val1 from hS7.tail.tail.head))
   |fail)
  have HB6:=Lib.hid B6;have hS8:Sep w0 _ (z7 w6.heap.size 43 [.slice K2 key1.length k2c,.int .i64 ck1,.slice V2 val1.length v2c,.int .i64 pg1,.int .i64 ct1]::R6::zB (.slice K2 key1.length k2c) key1::zB (.slice V2 val1.length v2c) val1::z7 b1 43 [.slice K1 key1.length k1c,.int .i64 ck1,.slice V1 val1.length v1c,.int .i64 pg1,.int .i64 ct1]::E4::zB (.slice K1 key1.length k1c) key1::zB (.slice V1 val1.length v1c) val1::z7 b 45 [.int .i64 K,.int .i64 at_,.slice KA key.length ka,.int .i64 ck,.slice VA val.length va,.int .i64 pg,.int .i64 ct,.slice D okey.length cd]::yJ 40 bb [lv] bv xs::L):=hS7.alloc 43 [.slice K2 key1.length k2c,.int .i64 ck1,.slice V2 val1.length v2c,.int .i64 pg1,.int .i64 ct1];clear hR hP6 B6 hyr hS7 c0 c1 c2 c3 c4 c5 c6 c7;generalize w6.alloc (.cells #[.slice K2 key1.length k2c,.int .i64 ck1,.slice V2 val1.length v2c,.int .i64 pg1,.int .i64 ct1] 43)=w7 at*;obtain ⟨b2,hb2⟩:∃b,w6.heap.size=b:=⟨_,rfl⟩;simp only [hb2] at hS8⊢;clear hb2;obtain ⟨c0,c1,c2,c3,c4⟩:=zC (show OBlk w7 b2 43 [.slice K2 key1.length k2c,.int .i64 ck1,.slice V2 val1.length v2c,.int .i64 pg1,.int .i64 ct1] from hS8.head);obtain ⟨d0,d1,d2,d3,d4⟩:=zC (show OBlk w7 b1 43 [.slice K1 key1.length k1c,.int .i64 ck1,.slice V1 val1.length v1c,.int .i64 pg1,.int .i64 ct1] from hS8.tail.tail.tail.tail.head)
  have hsc:=fT ⟨.slice K1 key1.length k1c,.slice V1 val1.length v1c,⟨key1,ck1,val1,pg1,ct1⟩⟩ ⟨.slice K2 key1.length k2c,.slice V2 val1.length v2c,⟨key1,ck1,val1,pg1,ct1⟩⟩ w7
   ⟨OwB.rd (hS8.of_mem (E:=zB (.slice K1 key1.length k1c) key1) (by simp)),OwB.rd (hS8.of_mem (E:=zB (.slice V1 val1.length v1c) val1) (by simp)),HYR.out.1,HYR.out.2.1,HYR.out.2.2⟩
   ⟨OwB.rd (hS8.of_mem (E:=zB (.slice K2 key1.length k2c) key1) (by simp)),OwB.rd (hS8.of_mem (E:=zB (.slice V2 val1.length v2c) val1) (by simp)),HYR.out.1,HYR.out.2.1,HYR.out.2.2⟩ rfl
  unfold zJ at hsc;simp only at hsc
  go_upto_region 24 with (first
   |(go_at_call 19;refine hsc.mono ?_;rintro e w8 ⟨rfl,hw8⟩)
   |fail)
  have hS9:=Sep.pick (L:= [_,_,_,_,_,_,_,_,_,_]) [9,6,7,5,1,4] (by decide) rfl (hS8.below hw8);clear hsc hS8 hw8 c0 c1 c2 c3 c4 d0 d1 d2 d3 d4;obtain ⟨d0,d1,d2,d3,d4⟩:=zC (show OBlk w8 b1 43 [.slice K1 key1.length k1c,.int .i64 ck1,.slice V1 val1.length v1c,.int .i64 pg1,.int .i64 ct1] from hS9.tail.tail.tail.tail.tail.head);have hT:=nS (x:=⟨.slice K1 key1.length k1c,.slice V1 val1.length v1c,⟨key1,ck1,val1,pg1,ct1⟩⟩) hS9 (by omega);unfold zJ at hT;simp only at hT;clear hS9
  go_wp2_with (first
   |(go_at_call 53;refine hT.mono ?_;rintro e w9 ⟨⟨_,rfl⟩,bv9,hS10⟩)
   |fail)
  go_ret;refine ⟨rfl,s,E4,R6,bv9,_,hI,?_,Lib.hid (fun h=> ?_),Sep.pick (L:= [_,_,_,_]) [1,2,0] (by decide) rfl hS10,HB4,HB6⟩
  ·simp only [List.length_append,List.length_cons,List.length_nil];omega
  ·intro q hq;have hc:=HCL.out;simp only [List.mem_append,List.mem_cons,List.not_mem_nil,or_false] at hq;rcases hq with (hq|rfl)|rfl
   ·exact h q hq
   ·show key1.length≤_;omega
   ·show val1.length≤_;omega
def Pl2 (w0:World) (L:List Ent) (p x P bb:Nat) (kind:Int) (lv:Value) (xs:List (Value×List UInt8)) (w':World):Prop:=
 ∃(s':KP) (E' R':Ent) (bv':Value) (xs':List (Value×List UInt8)),NdI2 kind P s'∧xs'.length≤xs.length+2∧Hid ((∀p∈xs,p.2.length≤1000000000)→∀p∈xs',p.2.length≤1000000000)∧
  Sep w0 w' (E'::R'::yJ 40 bb [lv] bv' xs'::L)∧Hid (∀(W:World) (M:List Ent),Sep w0 W (E'::M)→NdP2 w0 W M p P kind s')∧Hid (∀(W:World) (M:List Ent),Sep w0 W (R'::M)→RnP2 w0 W M x P kind s')
theorem zIA {w0 w:World} {L:List Ent} {E R:Ent} {p x P bb:Nat} {kind:Int} {s:KP} {bv lv:Value} {xs:List (Value×List UInt8)}
 (hS:Sep w0 w (E::R::yJ 40 bb [lv] bv xs::L)) (HE:Hid (∀(W:World) (M:List Ent),Sep w0 W (E::M)→NdP2 w0 W M p P kind s)) (HR:Hid (∀(W:World) (M:List Ent),Sep w0 W (R::M)→RnP2 w0 W M x P kind s))
 (hI:NdI2 kind P s) (hkd:kind=2∨kind=3) (hP:P≤65536) (hxs:xs.length≤7000000) (q:OpX) (hx:XIn L q.x) (hk:RdIn L q.kv q.key) (hr0:yE q.kind) (hr1:yE q.at_):
 Calls Tryz.prog 14 #[tH p,.pointer (some ⟨x,0,none⟩),opV q,.pointer (some ⟨bb,0,none⟩)] w fun e w'=>e= .returned (.bool true)∧Pl2 w0 L p x P bb kind lv xs w':=by
 have i1:=rV;have i2:=zGN;have i3:=uN;have i4:=zFQ;have i5:=iX;have hok:=hx.ok hS (fun E hE=>by simp [hE]);have hkr:=(hS.tail.tail.tail.rdIn hk);obtain ⟨K,at_,cv,kv,okey⟩:=q;simp only at hx hk hr0 hr1 hok hkr⊢;obtain ⟨D,cd,rfl,-⟩:=hkr.form;have hry:fH cv.c:=⟨hok.r1,hok.r2,hok.r3⟩;obtain ⟨KA,ka,VA,va,key,ck,val,pg,ct,rfl,-,-⟩:=CV.form hok;simp only at hry;have HX:=Lib.hid hx;have HK:=Lib.hid hk;have HY:=Lib.hid hry;obtain ⟨a6,m6,e1,⟨e2,e2'⟩,e3,e4,hm⟩:=zGK hr0;have HM:=Lib.hid hm;have hS1:=hS.alloc 45 [.int .i64 K,.int .i64 at_,.slice KA key.length ka,.int .i64 ck,.slice VA val.length va,.int .i64 pg,.int .i64 ct,.slice D okey.length cd];have hLe:=t6 hS1 ⟨.slice KA key.length ka,.slice VA val.length va,⟨key,ck,val,pg,ct⟩⟩ (hx.ok hS1 (fun E hE=>by simp [hE])) hx.s1 hx.s2;obtain ⟨c0,c1,c2,c3,c4,c5,c6,c7⟩:=vV hS1.blk;unfold zJ vG at hLe;simp only at hLe;clear hok hkr hx hk hS hS1 hm hr0 hry;unfold opV;simp only;go_enter Tryz.func14,Tryz.ntmps14
 go_upto_region 2 with (first
  |(go_at_call 46;refine hLe.mono ?_;rintro e w2 ⟨gk,gv,rfl,hS2⟩)
  |fail)
 have hS3:Sep w0 _ (z7 w2.heap.size 43 [.slice (some ⟨gk,0,none⟩) key.length (key.length+9),.int .i64 ck,.slice (some ⟨gv,0,none⟩) val.length (val.length+9),.int .i64 pg,.int .i64 ct]::lkE gk key::lkE gv val::z7 w.heap.size 45 [.int .i64 K,.int .i64 at_,.slice KA key.length ka,.int .i64 ck,.slice VA val.length va,.int .i64 pg,.int .i64 ct,.slice D okey.length cd]::E::R::yJ 40 bb [lv] bv xs::L):=hS2.alloc 43 [.slice (some ⟨gk,0,none⟩) key.length (key.length+9),.int .i64 ck,.slice (some ⟨gv,0,none⟩) val.length (val.length+9),.int .i64 pg,.int .i64 ct];clear hS2 hLe c0 c1 c2 c3 c4 c5 c6 c7;generalize w2.alloc (.cells #[.slice (some ⟨gk,0,none⟩) key.length (key.length+9),.int .i64 ck,.slice (some ⟨gv,0,none⟩) val.length (val.length+9),.int .i64 pg,.int .i64 ct] 43)=w3 at*;obtain ⟨lc,hlc⟩:∃b,w2.heap.size=b:=⟨_,rfl⟩;obtain ⟨b,hb⟩:∃b,w.heap.size=b:=⟨_,rfl⟩;simp only [hlc,hb] at hS3⊢;clear hlc hb;obtain ⟨c0,c1,c2,c3,c4,c5,c6,c7⟩:=vV (show OBlk w3 b 45 [.int .i64 K,.int .i64 at_,.slice KA key.length ka,.int .i64 ck,.slice VA val.length va,.int .i64 pg,.int .i64 ct,.slice D okey.length cd] from hS3.tail.tail.tail.head);go_upto_region 3 with (fail);clear e1 e2 e2' e3 e4;have hm:=HM.out;clear HM;rcases hm with rfl|rfl|rfl|rfl|hm45
 ·have hS4:=Sep.pick (L:= [_,_,_,_,_]) [4,0,1,2,3] (by decide) rfl hS3;obtain ⟨l0,l1,l2,l3,l4⟩:=zC (show OBlk w3 lc 43 [.slice (some ⟨gk,0,none⟩) key.length (key.length+9),.int .i64 ck,.slice (some ⟨gv,0,none⟩) val.length (val.length+9),.int .i64 pg,.int .i64 ct] from hS3.head);have hC:=zFY (HE.out _ _ hS4) hI hkd hP (vG gk gv ⟨key,ck,val,pg,ct⟩) (mK (by simp) (by simp) HY.out HX.out.s1 HX.out.s2) at_ hr1;have hIn:=NdI2.ins hI at_ (show 0≤1 by omega) ⟨key,ck,val,pg,ct⟩;have hRf:=fun (W:World) (M:List Ent) (h:Sep w0 W (R::M)) (hxx:XIn M ⟨.slice KA key.length ka,.slice VA val.length va,⟨key,ck,val,pg,ct⟩⟩)=>zH3 (HR.out W M h) hI hkd hP ⟨.slice KA key.length ka,.slice VA val.length va,⟨key,ck,val,pg,ct⟩⟩ hxx at_ hr1;unfold zJ at hRf;unfold zJ vG at hC;simp only at hC hRf;generalize fJ kind P s at_ 0 ⟨key,ck,val,pg,ct⟩=z at*;generalize gX kind P s at_ 0 ⟨key,ck,val,pg,ct⟩=s' at*;have HRF:=Lib.hid hRf;clear hRf hS3 hS4
  go_upto_region 5 with (first
   |(go_at_call 219;refine hC.mono ?_;rintro e w4 ⟨rfl,hP4⟩)
   |fail)
  obtain ⟨E4,hS4,B4⟩:=NdP2.sep hP4;have HB4:=Lib.hid B4;have hS5:=Sep.pick (L:= [_,_,_,_]) [2,3,0,1] (by decide) rfl hS4;clear hC hP4 B4 c0 c1 c2 c3 c4 c5 c6 c7 l0 l1 l2 l3 l4;obtain ⟨c0,c1,c2,c3,c4,c5,c6,c7⟩:=vV (show OBlk w4 b 45 [.int .i64 K,.int .i64 at_,.slice KA key.length ka,.int .i64 ck,.slice VA val.length va,.int .i64 pg,.int .i64 ct,.slice D okey.length cd] from hS5.tail.tail.tail.tail.head);obtain ⟨l0,l1,l2,l3,l4⟩:=zC (show OBlk w4 lc 43 [.slice (some ⟨gk,0,none⟩) key.length (key.length+9),.int .i64 ck,.slice (some ⟨gv,0,none⟩) val.length (val.length+9),.int .i64 pg,.int .i64 ct] from hS5.tail.tail.tail.head);have hA:=gR ⟨.slice KA key.length ka,.slice VA val.length va,⟨key,ck,val,pg,ct⟩⟩ hS5 (XIn.app (L1:= [_,_,_,_,_]) HX.out);unfold zJ vG at hA;simp only at hA;clear hS4 hS5
  go_upto_region 6 with (first
   |(go_at_call 47;refine hA.mono ?_;rintro e w5 ⟨rfl,hS6⟩)
   |fail)
  have hS7:=Sep.pick (L:= [_,_,_,_]) [3,0,1,2] (by decide) rfl hS6;clear hA c0 c1 c2 c3 c4 c5 c6 c7 l0 l1 l2 l3 l4 hS6;obtain ⟨c0,c1,c2,c3,c4,c5,c6,c7⟩:=vV (show OBlk w5 b 45 [.int .i64 K,.int .i64 at_,.slice KA key.length ka,.int .i64 ck,.slice VA val.length va,.int .i64 pg,.int .i64 ct,.slice D okey.length cd] from hS7.tail.tail.tail.head);have hR:=HRF.out _ _ hS7 (XIn.app (L1:= [_,_,_,_]) HX.out);clear hS7 HRF
  go_wp2_with (first
   |(go_at_call 48;refine hR.mono ?_;rintro e w6 ⟨rfl,hP6⟩)
   |fail)
  obtain ⟨R6,hS8,B6⟩:=RnP2.sep hP6;have HB6:=Lib.hid B6;go_ret;exact ⟨rfl,s',E4,R6,bv,xs,hIn,by omega,Lib.hid (fun h=>h),Sep.pick (L:= [_,_,_,_,_]) [1,0,4] (by decide) rfl hS8,HB4,HB6⟩
 ·have hS4:=Sep.pick (L:= [_,_,_,_,_]) [4,0,1,2,3] (by decide) rfl hS3;obtain ⟨l0,l1,l2,l3,l4⟩:=zC (show OBlk w3 lc 43 [.slice (some ⟨gk,0,none⟩) key.length (key.length+9),.int .i64 ck,.slice (some ⟨gv,0,none⟩) val.length (val.length+9),.int .i64 pg,.int .i64 ct] from hS3.head);have hC:=zJB (HE.out _ _ hS4) hI hkd hP (vG gk gv ⟨key,ck,val,pg,ct⟩) (mK (by simp) (by simp) HY.out HX.out.s1 HX.out.s2) at_ hr1;have hIn:=NdI2.ins hI at_ (show 1≤1 by omega) ⟨key,ck,val,pg,ct⟩;have hRf:=fun (W:World) (M:List Ent) (h:Sep w0 W (R::M)) (hxx:XIn M ⟨.slice KA key.length ka,.slice VA val.length va,⟨key,ck,val,pg,ct⟩⟩)=>zI2 (HR.out W M h) hI hkd hP ⟨.slice KA key.length ka,.slice VA val.length va,⟨key,ck,val,pg,ct⟩⟩ hxx at_ hr1;unfold zJ at hRf;unfold zJ vG at hC;simp only at hC hRf;generalize fJ kind P s at_ 1 ⟨key,ck,val,pg,ct⟩=z at*;generalize gX kind P s at_ 1 ⟨key,ck,val,pg,ct⟩=s' at*;have HRF:=Lib.hid hRf;clear hRf hS3 hS4;go_upto_region 10 with (fail);refine hC.mono ?_;rintro e w4 ⟨rfl,hP4⟩;go_upto_region 10 with (fail);obtain ⟨E4,hS4,B4⟩:=NdP2.sep hP4;have HB4:=Lib.hid B4;have hS5:=Sep.pick (L:= [_,_,_,_]) [2,3,0,1] (by decide) rfl hS4;clear hC hP4 B4 c0 c1 c2 c3 c4 c5 c6 c7 l0 l1 l2 l3 l4;obtain ⟨c0,c1,c2,c3,c4,c5,c6,c7⟩:=vV (show OBlk w4 b 45 [.int .i64 K,.int .i64 at_,.slice KA key.length ka,.int .i64 ck,.slice VA val.length va,.int .i64 pg,.int .i64 ct,.slice D okey.length cd] from hS5.tail.tail.tail.tail.head)
  obtain ⟨l0,l1,l2,l3,l4⟩:=zC (show OBlk w4 lc 43 [.slice (some ⟨gk,0,none⟩) key.length (key.length+9),.int .i64 ck,.slice (some ⟨gv,0,none⟩) val.length (val.length+9),.int .i64 pg,.int .i64 ct] from hS5.tail.tail.tail.head);have hA:=gR ⟨.slice KA key.length ka,.slice VA val.length va,⟨key,ck,val,pg,ct⟩⟩ hS5 (XIn.app (L1:= [_,_,_,_,_]) HX.out);unfold zJ vG at hA;simp only at hA;clear hS4 hS5
  go_upto_region 11 with (first
   |(go_at_call 47;refine hA.mono ?_;rintro e w5 ⟨rfl,hS6⟩)
   |fail)
  have hS7:=Sep.pick (L:= [_,_,_,_]) [3,0,1,2] (by decide) rfl hS6;clear hA c0 c1 c2 c3 c4 c5 c6 c7 l0 l1 l2 l3 l4 hS6;obtain ⟨c0,c1,c2,c3,c4,c5,c6,c7⟩:=vV (show OBlk w5 b 45 [.int .i64 K,.int .i64 at_,.slice KA key.length ka,.int .i64 ck,.slice VA val.length va,.int .i64 pg,.int .i64 ct,.slice D okey.length cd] from hS7.tail.tail.tail.head);have hR:=HRF.out _ _ hS7 (XIn.app (L1:= [_,_,_,_]) HX.out);clear hS7 HRF
  go_wp2_with (first
   |(go_at_call 49;refine hR.mono ?_;rintro e w6 ⟨rfl,hP6⟩)
   |fail)
  obtain ⟨R6,hS8,B6⟩:=RnP2.sep hP6;have HB6:=Lib.hid B6;go_ret;exact ⟨rfl,s',E4,R6,bv,xs,hIn,by omega,Lib.hid (fun h=>h),Sep.pick (L:= [_,_,_,_,_]) [1,0,4] (by decide) rfl hS8,HB4,HB6⟩
 ·have hS4:=Sep.pick (L:= [_,_,_,_,_]) [4,0,1,2,3] (by decide) rfl hS3;have hC:=zJO (HE.out _ _ hS4) hI hP at_ hr1;have hIn:=NdI2.rem hI at_;have hRf:=fun (W:World) (M:List Ent) (h:Sep w0 W (R::M))=>zH8 (HR.out W M h) hI hP at_ hr1;generalize iS kind P s at_=z at*;generalize wE kind P s at_=s' at*;have HRF:=Lib.hid hRf;clear hRf hS3 hS4;go_upto_region 15 with (fail);refine hC.mono ?_;rintro e w4 ⟨rfl,hP4⟩;go_upto_region 15 with (fail);obtain ⟨E4,hS4,B4⟩:=NdP2.sep hP4;have HB4:=Lib.hid B4;have hS7:=Sep.pick (L:= [_,_,_,_,_,_]) [5,0,4] (by decide) rfl hS4;clear hC hP4 B4 c0 c1 c2 c3 c4 c5 c6 c7;obtain ⟨c0,c1,c2,c3,c4,c5,c6,c7⟩:=vV (show OBlk w4 b 45 [.int .i64 K,.int .i64 at_,.slice KA key.length ka,.int .i64 ck,.slice VA val.length va,.int .i64 pg,.int .i64 ct,.slice D okey.length cd] from hS7.tail.tail.head);have hR:=HRF.out _ _ hS7;clear hS7 hS4 HRF
  go_wp2_with (first
   |(go_at_call 50;refine hR.mono ?_;rintro e w6 ⟨rfl,hP6⟩)
   |fail)
  obtain ⟨R6,hS8,B6⟩:=RnP2.sep hP6;have HB6:=Lib.hid B6;go_ret;exact ⟨rfl,s',E4,R6,bv,xs,hIn,by omega,Lib.hid (fun h=>h),Sep.pick (L:= [_,_,_,_]) [1,0,3] (by decide) rfl hS8,HB4,HB6⟩
 ·have hS4:=Sep.pick (L:= [_,_,_,_,_]) [4,3] (by decide) rfl hS3;have hC:=zJF (HE.out _ _ hS4) hI hP (.slice D okey.length cd) okey ((hS4.tail.tail.tail.tail).rdIn HK.out);have hRf:=fun (W:World) (M:List Ent) (h:Sep w0 W (R::M)) (hh:RdIn M (.slice D okey.length cd) okey)=>zIN (HR.out W M h) hI hP (.slice D okey.length cd) okey hh;generalize z6 okey s.l=z at*;generalize isF okey s.l=t at*;have HRF:=Lib.hid hRf;have HS4:=Lib.hid hS4;clear hRf hS3 hS4;go_upto_region 19 with (fail);refine hC.mono ?_;rintro e w4 ⟨rfl,hw4⟩;go_upto_region 19 with (fail);have hS7:=Sep.pick (L:= [_,_,_]) [2,0,1] (by decide) rfl (HS4.out.below hw4);clear hC c0 c1 c2 c3 c4 c5 c6 c7 HS4 hw4;obtain ⟨c0,c1,c2,c3,c4,c5,c6,c7⟩:=vV (show OBlk w4 b 45 [.int .i64 K,.int .i64 at_,.slice KA key.length ka,.int .i64 ck,.slice VA val.length va,.int .i64 pg,.int .i64 ct,.slice D okey.length cd] from hS7.tail.tail.head);have hR:=HRF.out _ _ hS7 (RdIn.app (L1:= [_,_,_]) HK.out);clear hS7 HRF
  go_wp2_with (first
   |(go_at_call 51;refine hR.mono ?_;rintro e w6 ⟨rfl,hP6⟩)
   |fail)
  obtain ⟨R6,hS8,B6⟩:=RnP2.sep hP6;have HB6:=Lib.hid B6;go_ret;exact ⟨by simp,s,E,R6,bv,xs,hI,by omega,Lib.hid (fun h=>h),Sep.pick (L:= [_,_,_,_]) [1,0,3] (by decide) rfl hS8,HE,HB6⟩
 ·have hm0:((m6:Int)==0)=false:=beq_eq_false_iff_ne.2 (by omega);have hm1:((m6:Int)==1)=false:=beq_eq_false_iff_ne.2 (by omega);have hm2:((m6:Int)==2)=false:=beq_eq_false_iff_ne.2 (by omega);have hm3:((m6:Int)==3)=false:=beq_eq_false_iff_ne.2 (by omega);have hS4:=Sep.pick (L:= [_,_,_,_,_]) [4,3] (by decide) rfl hS3;have hcl:=oC hI.ok hP at_;have hC:=zFB (HE.out _ _ hS4) hI hP at_ hr1;have hRf:=fun (W:World) (M:List Ent) (h:Sep w0 W (R::M))=>zE7 (HR.out W M h) hI hP at_ hr1
  have hself:∀z:Int,(z==z)=true:=fun z=>by simp
  have hz:=hself (jA s.l at_);clear hself;generalize jA s.l at_=z at*;generalize xG s.l at_=cc at*;have HRF:=Lib.hid hRf;have HCL:=Lib.hid hcl;clear hRf hS3 hS4 hm45 hcl;unfold zJ at hC;go_upto_region 22 with (fail);refine hC.mono ?_;rintro e w4 ⟨⟨ykv,yvv,yc⟩,rfl,hyc,hyr,hP4⟩;simp only at hyc;subst hyc;obtain ⟨key1,ck1,val1,pg1,ct1⟩:=yc;obtain ⟨E4,hS4,B4⟩:=NdP2.sep hP4;obtain ⟨K1,k1c,rfl⟩:=Own.slice (show OwB w4 0 ykv key1 from hS4.tail.head);obtain ⟨V1,v1c,rfl⟩:=Own.slice (show OwB w4 0 yvv val1 from hS4.tail.tail.head);go_upto_region 22 with (fail);have HB4:=Lib.hid B4;have HYR:=Lib.hid hyr;have hS5:Sep w0 _ (z7 w4.heap.size 43 [.slice K1 key1.length k1c,.int .i64 ck1,.slice V1 val1.length v1c,.int .i64 pg1,.int .i64 ct1]::E4::zB (.slice K1 key1.length k1c) key1::zB (.slice V1 val1.length v1c) val1::z7 b 45 [.int .i64 K,.int .i64 at_,.slice KA key.length ka,.int .i64 ck,.slice VA val.length va,.int .i64 pg,.int .i64 ct,.slice D okey.length cd]::R::yJ 40 bb [lv] bv xs::L):=hS4.alloc 43 [.slice K1 key1.length k1c,.int .i64 ck1,.slice V1 val1.length v1c,.int .i64 pg1,.int .i64 ct1];clear hC hP4 B4 hyr hS4 c0 c1 c2 c3 c4 c5 c6 c7;generalize w4.alloc (.cells #[.slice K1 key1.length k1c,.int .i64 ck1,.slice V1 val1.length v1c,.int .i64 pg1,.int .i64 ct1] 43)=w5 at*;obtain ⟨b1,hb1⟩:∃b,w4.heap.size=b:=⟨_,rfl⟩;simp only [hb1] at hS5⊢;clear hb1;have hS6:=Sep.pick (L:= [_,_,_,_,_,_]) [5,0,1,2,3,4] (by decide) rfl hS5
  obtain ⟨c0,c1,c2,c3,c4,c5,c6,c7⟩:=vV (show OBlk w5 b 45 [.int .i64 K,.int .i64 at_,.slice KA key.length ka,.int .i64 ck,.slice VA val.length va,.int .i64 pg,.int .i64 ct,.slice D okey.length cd] from hS5.tail.tail.tail.tail.head);have hR:=HRF.out _ _ hS6;unfold zJ at hR;clear hS5 hS6 HRF
  go_upto_region 23 with (first
   |(go_at_call 52;refine hR.mono ?_;rintro e w6 ⟨⟨ykv,yvv,yc⟩,rfl,hyc,hyr,hP6⟩;simp only at hyc;subst hyc;obtain ⟨R6,hS7,B6⟩:=RnP2.sep hP6;obtain ⟨K2,k2c,rfl⟩:=Own.slice (show OwB w6 0 ykv key1 from hS7.tail.head);obtain ⟨V2,v2c,rfl⟩:=Own.slice (show OwB w6 0 yvv val1 from hS7.tail.tail.head))
   |fail)
  have HB6:=Lib.hid B6;have hS8:Sep w0 _ (z7 w6.heap.size 43 [.slice K2 key1.length k2c,.int .i64 ck1,.slice V2 val1.length v2c,.int .i64 pg1,.int .i64 ct1]::R6::zB (.slice K2 key1.length k2c) key1::zB (.slice V2 val1.length v2c) val1::z7 b1 43 [.slice K1 key1.length k1c,.int .i64 ck1,.slice V1 val1.length v1c,.int .i64 pg1,.int .i64 ct1]::E4::zB (.slice K1 key1.length k1c) key1::zB (.slice V1 val1.length v1c) val1::z7 b 45 [.int .i64 K,.int .i64 at_,.slice KA key.length ka,.int .i64 ck,.slice VA val.length va,.int .i64 pg,.int .i64 ct,.slice D okey.length cd]::yJ 40 bb [lv] bv xs::L):=hS7.alloc 43 [.slice K2 key1.length k2c,.int .i64 ck1,.slice V2 val1.length v2c,.int .i64 pg1,.int .i64 ct1];clear hR hP6 B6 hyr hS7 c0 c1 c2 c3 c4 c5 c6 c7;generalize w6.alloc (.cells #[.slice K2 key1.length k2c,.int .i64 ck1,.slice V2 val1.length v2c,.int .i64 pg1,.int .i64 ct1] 43)=w7 at*;obtain ⟨b2,hb2⟩:∃b,w6.heap.size=b:=⟨_,rfl⟩;simp only [hb2] at hS8⊢;clear hb2;obtain ⟨c0,c1,c2,c3,c4⟩:=zC (show OBlk w7 b2 43 [.slice K2 key1.length k2c,.int .i64 ck1,.slice V2 val1.length v2c,.int .i64 pg1,.int .i64 ct1] from hS8.head);obtain ⟨d0,d1,d2,d3,d4⟩:=zC (show OBlk w7 b1 43 [.slice K1 key1.length k1c,.int .i64 ck1,.slice V1 val1.length v1c,.int .i64 pg1,.int .i64 ct1] from hS8.tail.tail.tail.tail.head)
  have hsc:=fT ⟨.slice K1 key1.length k1c,.slice V1 val1.length v1c,⟨key1,ck1,val1,pg1,ct1⟩⟩ ⟨.slice K2 key1.length k2c,.slice V2 val1.length v2c,⟨key1,ck1,val1,pg1,ct1⟩⟩ w7
   ⟨OwB.rd (hS8.of_mem (E:=zB (.slice K1 key1.length k1c) key1) (by simp)),OwB.rd (hS8.of_mem (E:=zB (.slice V1 val1.length v1c) val1) (by simp)),HYR.out.1,HYR.out.2.1,HYR.out.2.2⟩
   ⟨OwB.rd (hS8.of_mem (E:=zB (.slice K2 key1.length k2c) key1) (by simp)),OwB.rd (hS8.of_mem (E:=zB (.slice V2 val1.length v2c) val1) (by simp)),HYR.out.1,HYR.out.2.1,HYR.out.2.2⟩ rfl
  unfold zJ at hsc;simp only at hsc
  go_upto_region 24 with (first
   |(go_at_call 19;refine hsc.mono ?_;rintro e w8 ⟨rfl,hw8⟩)
   |fail)
  have hS9:=Sep.pick (L:= [_,_,_,_,_,_,_,_,_,_]) [9,6,7,5,1,4] (by decide) rfl (hS8.below hw8);clear hsc hS8 hw8 c0 c1 c2 c3 c4 d0 d1 d2 d3 d4;obtain ⟨d0,d1,d2,d3,d4⟩:=zC (show OBlk w8 b1 43 [.slice K1 key1.length k1c,.int .i64 ck1,.slice V1 val1.length v1c,.int .i64 pg1,.int .i64 ct1] from hS9.tail.tail.tail.tail.tail.head);have hT:=nS (x:=⟨.slice K1 key1.length k1c,.slice V1 val1.length v1c,⟨key1,ck1,val1,pg1,ct1⟩⟩) hS9 (by omega);unfold zJ at hT;simp only at hT;clear hS9
  go_wp2_with (first
   |(go_at_call 53;refine hT.mono ?_;rintro e w9 ⟨⟨_,rfl⟩,bv9,hS10⟩)
   |fail)
  go_ret;refine ⟨rfl,s,E4,R6,bv9,_,hI,?_,Lib.hid (fun h=> ?_),Sep.pick (L:= [_,_,_,_]) [1,2,0] (by decide) rfl hS10,HB4,HB6⟩
  ·simp only [List.length_append,List.length_cons,List.length_nil];omega
  ·intro q hq;have hc:=HCL.out;simp only [List.mem_append,List.mem_cons,List.not_mem_nil,or_false] at hq;rcases hq with (hq|rfl)|rfl
   ·exact h q hq
   ·show key1.length≤_;omega
   ·show val1.length≤_;omega
theorem nE {l:List PC} {k:Nat} (h:k<l.length):xG l (k:Int)=l[k]:=by
 unfold xG;rw [if_neg (by omega),Int.toNat_natCast,List.getD_eq_getElem?_getD,List.getElem?_eq_getElem h];rfl
theorem mA {l:List PC} {k:Nat} (h:k<l.length):jA l (k:Int)=0:=by
 unfold jA;rw [if_neg (by omega)]
theorem wC {w0 w:World} {L:List Ent} {p P:Nat} {kind:Int} {s:KP} (hS:NdP1 w0 w L p P kind s) (hI:NdI1 kind P s) (hP:P≤65536):
 Calls Tryz.prog 10 #[sI p] w fun e w'=>∃A c m,e= .returned (.slice A m.length c)∧pcs m=s.l∧RngC m∧NdP1 w0 w' (csE (.slice A m.length c) m::L) p P kind s:=by
 have i1:=iB;have i2:=aU;have hln:=hI.len hP;have hl:=uV hS;obtain ⟨n,hn⟩:∃n,s.l.length=n:=⟨_,rfl⟩;rw [hn] at hl hln;have HN:=Lib.hid hn
 have hS0:NdP1 w0 w (zP 43 5 (.slice none 0 0) 0 []::(zG []++L)) p P kind s:=by
  obtain ⟨E,h1,B⟩:=NdP1.sep hS;exact B _ _ (h1.nilC.sw1)
 clear hS hn;go_enter Tryz.func10,Tryz.ntmps10
 go_upto_region 5 with (first
  |(go_at_call 203;(with_reducible refine hl.mono ?_);rintro e w1 ⟨rfl,rfl⟩)
  |fail)
 clear hl
 go_loopw [3,11] (fun cv i wr=>∃(k:Nat) (m:List CV),k≤n∧i= .int .i64 (k:Int)∧Hid (pcs m=s.l.take k)∧Hid (m.length=k)∧RngC m∧NdP1 w0 wr (zP 43 5 cv m.length (zF m)::(zG m++L)) p P kind s) (fun _ i _=>n-(intOf i).toNat)
 case atStart=>exact ⟨0,[],Nat.zero_le _,rfl,Lib.hid (by simp [pcs]),Lib.hid rfl,by simp [RngC],hS0⟩
 case round=>
  clear hS0;obtain ⟨k,m,hk,rfl,HM,HK,hR,hS⟩:=hrel;obtain ⟨E0,hS1,B0⟩:=NdP1.sep hS;obtain ⟨B,cc,rfl⟩:=Own.slice (show Own wr 0 43 5 _ m.length (zF m) from hS1.tail.head);rw [HK.out]
  by_cases hlt:k<n
  ·have ik:(k:Int)<(n:Int):=by omega
   have hkl:k<s.l.length:=by rw [HN.out];exact hlt
   have hc:=zD5 hS hI hP (k:Int) (by unfold yE;omega);rw [mA hkl,nE hkl] at hc;have htk:s.l.take (k+1)=s.l.take k++ [s.l[k]]:=List.take_succ_eq_append_getElem hkl;have HTK:=Lib.hid htk;clear hS hS1 B0 htk;go_wp2_with fail;refine hc.mono ?_;rintro e w2 ⟨x,rfl,hx,hr,hS2⟩;obtain ⟨E,hS3,BB⟩:=NdP1.sep hS2;have HB:=Lib.hid BB;have HX:=Lib.hid hx;rw [←hx] at hr;obtain ⟨hr1,hr2,hr3⟩:=hr;obtain ⟨kv,vv,key,ck,val,pg,ct⟩:=x;simp only at hr1 hr2 hr3 hS3 HX;have hkO:=(show OwB w2 0 kv key from hS3.tail.head);have hvO:=(show OwB w2 0 vv val from hS3.tail.tail.head);obtain ⟨xK,xk,rfl⟩:=Own.slice hkO;obtain ⟨xV,xv,rfl⟩:=Own.slice hvO;have hone:=vC (x:=⟨.slice xK key.length xk,.slice xV val.length xv,⟨key,ck,val,pg,ct⟩⟩) hkO hvO;have hS4:=hS3.alloc 43 [.slice xK key.length xk,.int .i64 ck,.slice xV val.length xv,.int .i64 pg,.int .i64 ct];clear hc hkO hvO hS2 hS3 BB hx;unfold zJ;go_upto_region 8 with (fail);generalize hW4:w2.alloc (.cells #[.slice xK key.length xk,.int .i64 ck,.slice xV val.length xv,.int .i64 pg,.int .i64 ct] 43)=w4 at*;generalize w2.heap.size=cb at*;clear hW4;obtain ⟨y0,y1,y2,y3,y4⟩:=zC hS4.blk;have hS5:=hS4.alloc 43 [.slice xK key.length xk,.int .i64 ck,.slice xV val.length xv,.int .i64 pg,.int .i64 ct];have hown2:=(show Own _ 0 43 5 (.slice B m.length cc) m.length (zF m) from hS5.tail.tail.tail.tail.tail.head);have hfive:=Rd.five w4 (.slice xK key.length xk) (.int .i64 ck) (.slice xV val.length xv) (.int .i64 pg) (.int .i64 ct) 43
   have hl9:m.length+1≤65536:=by rw [HK.out];omega
   have HL9:=Lib.hid hl9;rw [HK.out] at hown2;clear hl9
   go_upto_region 9 with (first
    |(at_builtin;refine yP rfl (.tmp 20) (.tmp 22) rfl 0 (.slice B k cc) m rfl (by rw [HK.out];exact hown2) (.slice (some ⟨w4.heap.size,0,none⟩) 1 1) [⟨.slice xK key.length xk,.slice xV val.length xv,⟨key,ck,val,pg,ct⟩⟩] rfl hfive (by simpa [zF] using hone) (by have:=HL9.out;simp only [List.length_singleton];omega) (Nat.zero_le _) ?_;intro v5 w5 ho5 hg5 hk5)
    |fail)
   rw [HK.out] at hS5;have hS6:=(hS5.sw [_,_,_,_,_]).appC ho5 hg5 (by rcases hk5 with e|e;exact .inl e;exact .inr ⟨_,e,Nat.le_refl _⟩);have hS8:=Sep.snocC' (y:=⟨.slice xK key.length xk,.slice xV val.length xv,⟨key,ck,val,pg,ct⟩⟩) (L:=L) (E:=E) (Sep.pick (L:= [_,_,_,_,_,_]) [3,0,4,5] (by decide) rfl hS6);have HS8:=Lib.hid (HB.out _ _ hS8)
   have hM2:pcs (m++ [(⟨.slice xK key.length xk,.slice xV val.length xv,⟨key,ck,val,pg,ct⟩⟩:CV)])=s.l.take (k+1):=by rw [HTK.out,←HX.out,vJ,HM.out];rfl
   have HM2:=Lib.hid hM2;clear hS4 hS5 hS6 hS8 hown2 hfive hone ho5 hg5 hk5 y0 y1 y2 y3 y4 hM2;go_wp2_with fail;go_roundw
   case rel=>exact ⟨k+1,_,by omega,by go_num,HM2,Lib.hid (by rw [List.length_append,HK.out];rfl),fun y hy=>by rcases List.mem_append.1 hy with hy|hy;exact hR y hy;obtain rfl:=List.mem_singleton.1 hy;exact ⟨hr1,hr2,hr3⟩,HS8.out⟩
   case measure=>simp [intOf];omega
  ·obtain rfl:k=n:=by omega
   have hM:pcs m=s.l:=by rw [HM.out,List.take_of_length_le (by rw [HN.out];exact Nat.le_refl _)]
   have hS9:NdP1 w0 wr (csE (.slice B m.length cc) m::L) p P kind s:=B0 _ _ ((Sep.pack (D:=zP 43 5 (.slice B m.length cc) m.length (zF m)::zG m) (L:=E0::L) (hS1.perm (List.perm_middle (l₁:=zP 43 5 (.slice B m.length cc) m.length (zF m)::zG m)).symm)).sw1);have HM9:=Lib.hid hM;have HS9:=Lib.hid hS9;clear hM hS hS1 B0 hS9;go_wp2_with fail;go_ret;exact ⟨B,cc,m,by rw [HK.out];rfl,HM9.out,hR,HS9.out⟩
theorem t8 {w0 w:World} {L:List Ent} {p P:Nat} {kind:Int} {s:KP} (hS:NdP2 w0 w L p P kind s) (hI:NdI2 kind P s) (hP:P≤65536):
 Calls Tryz.prog 10 #[tH p] w fun e w'=>∃A c m,e= .returned (.slice A m.length c)∧pcs m=s.l∧RngC m∧NdP2 w0 w' (csE (.slice A m.length c) m::L) p P kind s:=by
 have i1:=lK;have i2:=iX;have hln:=hI.len hP;have hl:=zAM hS;obtain ⟨n,hn⟩:∃n,s.l.length=n:=⟨_,rfl⟩;rw [hn] at hl hln;have HN:=Lib.hid hn
 have hS0:NdP2 w0 w (zP 43 5 (.slice none 0 0) 0 []::(zG []++L)) p P kind s:=by
  obtain ⟨E,h1,B⟩:=NdP2.sep hS;exact B _ _ (h1.nilC.sw1)
 clear hS hn;go_enter Tryz.func10,Tryz.ntmps10
 go_upto_region 5 with (first
  |(go_at_call 221;(with_reducible refine hl.mono ?_);rintro e w1 ⟨rfl,rfl⟩)
  |fail)
 clear hl
 go_loopw [3,11] (fun cv i wr=>∃(k:Nat) (m:List CV),k≤n∧i= .int .i64 (k:Int)∧Hid (pcs m=s.l.take k)∧Hid (m.length=k)∧RngC m∧NdP2 w0 wr (zP 43 5 cv m.length (zF m)::(zG m++L)) p P kind s) (fun _ i _=>n-(intOf i).toNat)
 case atStart=>exact ⟨0,[],Nat.zero_le _,rfl,Lib.hid (by simp [pcs]),Lib.hid rfl,by simp [RngC],hS0⟩
 case round=>
  clear hS0;obtain ⟨k,m,hk,rfl,HM,HK,hR,hS⟩:=hrel;obtain ⟨E0,hS1,B0⟩:=NdP2.sep hS;obtain ⟨B,cc,rfl⟩:=Own.slice (show Own wr 0 43 5 _ m.length (zF m) from hS1.tail.head);rw [HK.out]
  by_cases hlt:k<n
  ·have ik:(k:Int)<(n:Int):=by omega
   have hkl:k<s.l.length:=by rw [HN.out];exact hlt
   have hc:=zFB hS hI hP (k:Int) (by unfold yE;omega);rw [mA hkl,nE hkl] at hc;have htk:s.l.take (k+1)=s.l.take k++ [s.l[k]]:=List.take_succ_eq_append_getElem hkl;have HTK:=Lib.hid htk;clear hS hS1 B0 htk;go_wp2_with fail;refine hc.mono ?_;rintro e w2 ⟨x,rfl,hx,hr,hS2⟩;obtain ⟨E,hS3,BB⟩:=NdP2.sep hS2;have HB:=Lib.hid BB;have HX:=Lib.hid hx;rw [←hx] at hr;obtain ⟨hr1,hr2,hr3⟩:=hr;obtain ⟨kv,vv,key,ck,val,pg,ct⟩:=x;simp only at hr1 hr2 hr3 hS3 HX;have hkO:=(show OwB w2 0 kv key from hS3.tail.head);have hvO:=(show OwB w2 0 vv val from hS3.tail.tail.head);obtain ⟨xK,xk,rfl⟩:=Own.slice hkO;obtain ⟨xV,xv,rfl⟩:=Own.slice hvO;have hone:=vC (x:=⟨.slice xK key.length xk,.slice xV val.length xv,⟨key,ck,val,pg,ct⟩⟩) hkO hvO;have hS4:=hS3.alloc 43 [.slice xK key.length xk,.int .i64 ck,.slice xV val.length xv,.int .i64 pg,.int .i64 ct];clear hc hkO hvO hS2 hS3 BB hx;unfold zJ;go_upto_region 8 with (fail);generalize hW4:w2.alloc (.cells #[.slice xK key.length xk,.int .i64 ck,.slice xV val.length xv,.int .i64 pg,.int .i64 ct] 43)=w4 at*;generalize w2.heap.size=cb at*;clear hW4;obtain ⟨y0,y1,y2,y3,y4⟩:=zC hS4.blk;have hS5:=hS4.alloc 43 [.slice xK key.length xk,.int .i64 ck,.slice xV val.length xv,.int .i64 pg,.int .i64 ct];have hown2:=(show Own _ 0 43 5 (.slice B m.length cc) m.length (zF m) from hS5.tail.tail.tail.tail.tail.head);have hfive:=Rd.five w4 (.slice xK key.length xk) (.int .i64 ck) (.slice xV val.length xv) (.int .i64 pg) (.int .i64 ct) 43
   have hl9:m.length+1≤65536:=by rw [HK.out];omega
   have HL9:=Lib.hid hl9;rw [HK.out] at hown2;clear hl9
   go_upto_region 9 with (first
    |(at_builtin;refine yP rfl (.tmp 20) (.tmp 22) rfl 0 (.slice B k cc) m rfl (by rw [HK.out];exact hown2) (.slice (some ⟨w4.heap.size,0,none⟩) 1 1) [⟨.slice xK key.length xk,.slice xV val.length xv,⟨key,ck,val,pg,ct⟩⟩] rfl hfive (by simpa [zF] using hone) (by have:=HL9.out;simp only [List.length_singleton];omega) (Nat.zero_le _) ?_;intro v5 w5 ho5 hg5 hk5)
    |fail)
   rw [HK.out] at hS5;have hS6:=(hS5.sw [_,_,_,_,_]).appC ho5 hg5 (by rcases hk5 with e|e;exact .inl e;exact .inr ⟨_,e,Nat.le_refl _⟩);have hS8:=Sep.snocC' (y:=⟨.slice xK key.length xk,.slice xV val.length xv,⟨key,ck,val,pg,ct⟩⟩) (L:=L) (E:=E) (Sep.pick (L:= [_,_,_,_,_,_]) [3,0,4,5] (by decide) rfl hS6);have HS8:=Lib.hid (HB.out _ _ hS8)
   have hM2:pcs (m++ [(⟨.slice xK key.length xk,.slice xV val.length xv,⟨key,ck,val,pg,ct⟩⟩:CV)])=s.l.take (k+1):=by rw [HTK.out,←HX.out,vJ,HM.out];rfl
   have HM2:=Lib.hid hM2;clear hS4 hS5 hS6 hS8 hown2 hfive hone ho5 hg5 hk5 y0 y1 y2 y3 y4 hM2;go_wp2_with fail;go_roundw
   case rel=>exact ⟨k+1,_,by omega,by go_num,HM2,Lib.hid (by rw [List.length_append,HK.out];rfl),fun y hy=>by rcases List.mem_append.1 hy with hy|hy;exact hR y hy;obtain rfl:=List.mem_singleton.1 hy;exact ⟨hr1,hr2,hr3⟩,HS8.out⟩
   case measure=>simp [intOf];omega
  ·obtain rfl:k=n:=by omega
   have hM:pcs m=s.l:=by rw [HM.out,List.take_of_length_le (by rw [HN.out];exact Nat.le_refl _)]
   have hS9:NdP2 w0 wr (csE (.slice B m.length cc) m::L) p P kind s:=B0 _ _ ((Sep.pack (D:=zP 43 5 (.slice B m.length cc) m.length (zF m)::zG m) (L:=E0::L) (hS1.perm (List.perm_middle (l₁:=zP 43 5 (.slice B m.length cc) m.length (zF m)::zG m)).symm)).sw1);have HM9:=Lib.hid hM;have HS9:=Lib.hid hS9;clear hM hS hS1 B0 hS9;go_wp2_with fail;go_ret;exact ⟨B,cc,m,by rw [HK.out];rfl,HM9.out,hR,HS9.out⟩
end Go.Proofs.YtfcnkpofcekmgaaGreat
