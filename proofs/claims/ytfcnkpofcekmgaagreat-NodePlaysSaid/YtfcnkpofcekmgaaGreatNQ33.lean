/- Texts joined. -/
import Derived.Test.YtfcnkpofcekmgaaGreatNQ32
set_option maxRecDepth 100000
set_option maxHeartbeats 64000000
namespace Go.Proofs.YtfcnkpofcekmgaaGreat
open Go.RowKit
theorem zCQ {w0 w:World} {L:List Ent} {x P:Nat} {kind:Int} {s:KP} (hS:RnP1 w0 w L x P kind s) (hI:NdI1 kind P s) (hP:P≤65536):
 Calls Tryz.prog 54 #[.pointer (some ⟨x,0,none⟩)] w fun e w'=>∃A c m,e= .returned (.slice A m.length c)∧pcs m=s.l∧RngC m∧RnP1 w0 w' (csE (.slice A m.length c) m::L) x P kind s:=by
 have hln:=hI.len hP;obtain ⟨n,hn⟩:∃n,s.l.length=n:=⟨_,rfl⟩;rw [hn] at hln;have HN:=Lib.hid hn
 have hS0:RnP1 w0 w (zP 43 5 (.slice none 0 0) 0 []::(zG []++L)) x P kind s:=by
  obtain ⟨E,h1,B⟩:=RnP1.sep hS;exact B _ _ (h1.nilC.sw1)
 clear hS hn;go_enter Tryz.func54,Tryz.ntmps54;go_upto_region 5 with (fail)
 go_loopw [3,4] (fun cv i wr=>∃(k:Nat) (m:List CV),k≤n∧i= .int .i64 (k:Int)∧Hid (pcs m=s.l.take k)∧Hid (m.length=k)∧RngC m∧RnP1 w0 wr (zP 43 5 cv m.length (zF m)::(zG m++L)) x P kind s) (fun _ i _=>n-(intOf i).toNat)
 case atStart=>exact ⟨0,[],Nat.zero_le _,rfl,Lib.hid (by simp [pcs]),Lib.hid rfl,by simp [RngC],hS0⟩
 case round=>
  clear hS0;obtain ⟨k,m,hk,rfl,HM,HK,hR,hS⟩:=hrel;have hl:=zFD hS;rw [HN.out] at hl;obtain ⟨E0,hS1,B0⟩:=RnP1.sep hS;obtain ⟨B,cc,rfl⟩:=Own.slice (show Own wr 0 43 5 _ m.length (zF m) from hS1.tail.head);rw [HK.out]
  by_cases hlt:k<n
  ·have ik:(k:Int)<(n:Int):=by omega
   have hkl:k<s.l.length:=by rw [HN.out];exact hlt
   have hc:=zFK hS hI hP (k:Int) (by unfold yE;omega);rw [mA hkl,nE hkl] at hc;have htk:s.l.take (k+1)=s.l.take k++ [s.l[k]]:=List.take_succ_eq_append_getElem hkl;have HTK:=Lib.hid htk;clear hS hS1 B0 htk
   go_upto_region 7 with (first
    |(go_at_call 56;(with_reducible refine hl.mono ?_);rintro e w1 ⟨rfl,rfl⟩)
    |fail)
   clear hl;go_wp2_with fail;refine hc.mono ?_;rintro e w2 ⟨y,rfl,hx,hr,hS2⟩;obtain ⟨E,hS3,BB⟩:=RnP1.sep hS2;have HB:=Lib.hid BB;have HX:=Lib.hid hx;rw [←hx] at hr;obtain ⟨hr1,hr2,hr3⟩:=hr;obtain ⟨kv,vv,key,ck,val,pg,ct⟩:=y;simp only at hr1 hr2 hr3 hS3 HX;have hkO:=(show OwB w2 0 kv key from hS3.tail.head);have hvO:=(show OwB w2 0 vv val from hS3.tail.tail.head);obtain ⟨xK,xk,rfl⟩:=Own.slice hkO;obtain ⟨xV,xv,rfl⟩:=Own.slice hvO;have hone:=vC (x:=⟨.slice xK key.length xk,.slice xV val.length xv,⟨key,ck,val,pg,ct⟩⟩) hkO hvO;have hS4:=hS3.alloc 43 [.slice xK key.length xk,.int .i64 ck,.slice xV val.length xv,.int .i64 pg,.int .i64 ct];clear hc hkO hvO hS2 hS3 BB hx;unfold zJ;go_upto_region 8 with (fail);generalize hW4:w2.alloc (.cells #[.slice xK key.length xk,.int .i64 ck,.slice xV val.length xv,.int .i64 pg,.int .i64 ct] 43)=w4 at*;generalize w2.heap.size=cb at*;clear hW4;obtain ⟨y0,y1,y2,y3,y4⟩:=zC hS4.blk;have hS5:=hS4.alloc 43 [.slice xK key.length xk,.int .i64 ck,.slice xV val.length xv,.int .i64 pg,.int .i64 ct];have hown2:=(show Own _ 0 43 5 (.slice B m.length cc) m.length (zF m) from hS5.tail.tail.tail.tail.tail.head);have hfive:=Rd.five w4 (.slice xK key.length xk) (.int .i64 ck) (.slice xV val.length xv) (.int .i64 pg) (.int .i64 ct) 43
   have hl9:m.length+1≤65536:=by rw [HK.out];omega
   have HL9:=Lib.hid hl9;rw [HK.out] at hown2;clear hl9
   go_upto_region 6 with (first
    |(at_builtin;refine yP rfl (.tmp 21) (.tmp 23) rfl 0 (.slice B k cc) m rfl (by rw [HK.out];exact hown2) (.slice (some ⟨w4.heap.size,0,none⟩) 1 1) [⟨.slice xK key.length xk,.slice xV val.length xv,⟨key,ck,val,pg,ct⟩⟩] rfl hfive (by simpa [zF] using hone) (by have:=HL9.out;simp only [List.length_singleton];omega) (Nat.zero_le _) ?_;intro v5 w5 ho5 hg5 hk5)
    |fail)
   rw [HK.out] at hS5;have hS6:=(hS5.sw [_,_,_,_,_]).appC ho5 hg5 (by rcases hk5 with e|e;exact .inl e;exact .inr ⟨_,e,Nat.le_refl _⟩);have hS8:=Sep.snocC' (y:=⟨.slice xK key.length xk,.slice xV val.length xv,⟨key,ck,val,pg,ct⟩⟩) (L:=L) (E:=E) (Sep.pick (L:= [_,_,_,_,_,_]) [3,0,4,5] (by decide) rfl hS6);have HS8:=Lib.hid (HB.out _ _ hS8)
   have hM2:pcs (m++ [(⟨.slice xK key.length xk,.slice xV val.length xv,⟨key,ck,val,pg,ct⟩⟩:CV)])=s.l.take (k+1):=by rw [HTK.out,←HX.out,vJ,HM.out];rfl
   have HM2:=Lib.hid hM2;clear hS4 hS5 hS6 hS8 hown2 hfive hone ho5 hg5 hk5 y0 y1 y2 y3 y4 hM2;go_wp2_with fail;go_roundw
   case rel=>exact ⟨k+1,_,by omega,by go_num,HM2,Lib.hid (by rw [List.length_append,HK.out];rfl),fun y hy=>by rcases List.mem_append.1 hy with hy|hy;exact hR y hy;obtain rfl:=List.mem_singleton.1 hy;exact ⟨hr1,hr2,hr3⟩,HS8.out⟩
   case measure=>simp [intOf];omega
  ·obtain rfl:k=n:=by omega
   have hM:pcs m=s.l:=by rw [HM.out,List.take_of_length_le (by rw [HN.out];exact Nat.le_refl _)]
   have hS9:RnP1 w0 wr (csE (.slice B m.length cc) m::L) x P kind s:=B0 _ _ ((Sep.pack (D:=zP 43 5 (.slice B m.length cc) m.length (zF m)::zG m) (L:=E0::L) (hS1.perm (List.perm_middle (l₁:=zP 43 5 (.slice B m.length cc) m.length (zF m)::zG m)).symm)).sw1);have HM9:=Lib.hid hM;have HS9:=Lib.hid hS9;clear hM hS hS1 B0 hS9
   go_wp2_with (first
    |(go_at_call 56;(with_reducible refine hl.mono ?_);rintro e w1 ⟨rfl,rfl⟩)
    |fail)
   go_ret;exact ⟨B,cc,m,by rw [HK.out];rfl,HM9.out,hR,HS9.out⟩
theorem zCL {w0 w:World} {L:List Ent} {x P:Nat} {kind:Int} {s:KP} (hS:RnP2 w0 w L x P kind s) (hI:NdI2 kind P s) (hP:P≤65536):
 Calls Tryz.prog 54 #[.pointer (some ⟨x,0,none⟩)] w fun e w'=>∃A c m,e= .returned (.slice A m.length c)∧pcs m=s.l∧RngC m∧RnP2 w0 w' (csE (.slice A m.length c) m::L) x P kind s:=by
 have hln:=hI.len hP;obtain ⟨n,hn⟩:∃n,s.l.length=n:=⟨_,rfl⟩;rw [hn] at hln;have HN:=Lib.hid hn
 have hS0:RnP2 w0 w (zP 43 5 (.slice none 0 0) 0 []::(zG []++L)) x P kind s:=by
  obtain ⟨E,h1,B⟩:=RnP2.sep hS;exact B _ _ (h1.nilC.sw1)
 clear hS hn;go_enter Tryz.func54,Tryz.ntmps54;go_upto_region 5 with (fail)
 go_loopw [3,4] (fun cv i wr=>∃(k:Nat) (m:List CV),k≤n∧i= .int .i64 (k:Int)∧Hid (pcs m=s.l.take k)∧Hid (m.length=k)∧RngC m∧RnP2 w0 wr (zP 43 5 cv m.length (zF m)::(zG m++L)) x P kind s) (fun _ i _=>n-(intOf i).toNat)
 case atStart=>exact ⟨0,[],Nat.zero_le _,rfl,Lib.hid (by simp [pcs]),Lib.hid rfl,by simp [RngC],hS0⟩
 case round=>
  clear hS0;obtain ⟨k,m,hk,rfl,HM,HK,hR,hS⟩:=hrel;have hl:=zFN hS;rw [HN.out] at hl;obtain ⟨E0,hS1,B0⟩:=RnP2.sep hS;obtain ⟨B,cc,rfl⟩:=Own.slice (show Own wr 0 43 5 _ m.length (zF m) from hS1.tail.head);rw [HK.out]
  by_cases hlt:k<n
  ·have ik:(k:Int)<(n:Int):=by omega
   have hkl:k<s.l.length:=by rw [HN.out];exact hlt
   have hc:=zE7 hS hI hP (k:Int) (by unfold yE;omega);rw [mA hkl,nE hkl] at hc;have htk:s.l.take (k+1)=s.l.take k++ [s.l[k]]:=List.take_succ_eq_append_getElem hkl;have HTK:=Lib.hid htk;clear hS hS1 B0 htk
   go_upto_region 7 with (first
    |(go_at_call 56;(with_reducible refine hl.mono ?_);rintro e w1 ⟨rfl,rfl⟩)
    |fail)
   clear hl;go_wp2_with fail;refine hc.mono ?_;rintro e w2 ⟨y,rfl,hx,hr,hS2⟩;obtain ⟨E,hS3,BB⟩:=RnP2.sep hS2;have HB:=Lib.hid BB;have HX:=Lib.hid hx;rw [←hx] at hr;obtain ⟨hr1,hr2,hr3⟩:=hr;obtain ⟨kv,vv,key,ck,val,pg,ct⟩:=y;simp only at hr1 hr2 hr3 hS3 HX;have hkO:=(show OwB w2 0 kv key from hS3.tail.head);have hvO:=(show OwB w2 0 vv val from hS3.tail.tail.head);obtain ⟨xK,xk,rfl⟩:=Own.slice hkO;obtain ⟨xV,xv,rfl⟩:=Own.slice hvO;have hone:=vC (x:=⟨.slice xK key.length xk,.slice xV val.length xv,⟨key,ck,val,pg,ct⟩⟩) hkO hvO;have hS4:=hS3.alloc 43 [.slice xK key.length xk,.int .i64 ck,.slice xV val.length xv,.int .i64 pg,.int .i64 ct];clear hc hkO hvO hS2 hS3 BB hx;unfold zJ;go_upto_region 8 with (fail);generalize hW4:w2.alloc (.cells #[.slice xK key.length xk,.int .i64 ck,.slice xV val.length xv,.int .i64 pg,.int .i64 ct] 43)=w4 at*;generalize w2.heap.size=cb at*;clear hW4;obtain ⟨y0,y1,y2,y3,y4⟩:=zC hS4.blk;have hS5:=hS4.alloc 43 [.slice xK key.length xk,.int .i64 ck,.slice xV val.length xv,.int .i64 pg,.int .i64 ct];have hown2:=(show Own _ 0 43 5 (.slice B m.length cc) m.length (zF m) from hS5.tail.tail.tail.tail.tail.head);have hfive:=Rd.five w4 (.slice xK key.length xk) (.int .i64 ck) (.slice xV val.length xv) (.int .i64 pg) (.int .i64 ct) 43
   have hl9:m.length+1≤65536:=by rw [HK.out];omega
   have HL9:=Lib.hid hl9;rw [HK.out] at hown2;clear hl9
   go_upto_region 6 with (first
    |(at_builtin;refine yP rfl (.tmp 21) (.tmp 23) rfl 0 (.slice B k cc) m rfl (by rw [HK.out];exact hown2) (.slice (some ⟨w4.heap.size,0,none⟩) 1 1) [⟨.slice xK key.length xk,.slice xV val.length xv,⟨key,ck,val,pg,ct⟩⟩] rfl hfive (by simpa [zF] using hone) (by have:=HL9.out;simp only [List.length_singleton];omega) (Nat.zero_le _) ?_;intro v5 w5 ho5 hg5 hk5)
    |fail)
   rw [HK.out] at hS5;have hS6:=(hS5.sw [_,_,_,_,_]).appC ho5 hg5 (by rcases hk5 with e|e;exact .inl e;exact .inr ⟨_,e,Nat.le_refl _⟩);have hS8:=Sep.snocC' (y:=⟨.slice xK key.length xk,.slice xV val.length xv,⟨key,ck,val,pg,ct⟩⟩) (L:=L) (E:=E) (Sep.pick (L:= [_,_,_,_,_,_]) [3,0,4,5] (by decide) rfl hS6);have HS8:=Lib.hid (HB.out _ _ hS8)
   have hM2:pcs (m++ [(⟨.slice xK key.length xk,.slice xV val.length xv,⟨key,ck,val,pg,ct⟩⟩:CV)])=s.l.take (k+1):=by rw [HTK.out,←HX.out,vJ,HM.out];rfl
   have HM2:=Lib.hid hM2;clear hS4 hS5 hS6 hS8 hown2 hfive hone ho5 hg5 hk5 y0 y1 y2 y3 y4 hM2;go_wp2_with fail;go_roundw
   case rel=>exact ⟨k+1,_,by omega,by go_num,HM2,Lib.hid (by rw [List.length_append,HK.out];rfl),fun y hy=>by rcases List.mem_append.1 hy with hy|hy;exact hR y hy;obtain rfl:=List.mem_singleton.1 hy;exact ⟨hr1,hr2,hr3⟩,HS8.out⟩
   case measure=>simp [intOf];omega
  ·obtain rfl:k=n:=by omega
   have hM:pcs m=s.l:=by rw [HM.out,List.take_of_length_le (by rw [HN.out];exact Nat.le_refl _)]
   have hS9:RnP2 w0 wr (csE (.slice B m.length cc) m::L) x P kind s:=B0 _ _ ((Sep.pack (D:=zP 43 5 (.slice B m.length cc) m.length (zF m)::zG m) (L:=E0::L) (hS1.perm (List.perm_middle (l₁:=zP 43 5 (.slice B m.length cc) m.length (zF m)::zG m)).symm)).sw1);have HM9:=Lib.hid hM;have HS9:=Lib.hid hS9;clear hM hS hS1 B0 hS9
   go_wp2_with (first
    |(go_at_call 56;(with_reducible refine hl.mono ?_);rintro e w1 ⟨rfl,rfl⟩)
    |fail)
   go_ret;exact ⟨B,cc,m,by rw [HK.out];rfl,HM9.out,hR,HS9.out⟩
theorem wY {w0 w:World} {L:List Ent} {E R:Ent} {p x P bb:Nat} {kind:Int} {s:KP} {bv lv:Value} {xs:List (Value×List UInt8)} {ls:List (Value×Nat)}
 (hS:Sep w0 w (E::R::yJ 40 bb [lv] bv xs::xR lv ls::L)) (HE:Hid (∀(W:World) (M:List Ent),Sep w0 W (E::M)→NdP1 w0 W M p P kind s)) (HR:Hid (∀(W:World) (M:List Ent),Sep w0 W (R::M)→RnP1 w0 W M x P kind s))
 (hI:NdI1 kind P s) (hP:P≤65536) (hxs:xs.length≤7000000) (hls:ls.length≤999999):
 Calls Tryz.prog 15 #[sI p,.pointer (some ⟨x,0,none⟩),.pointer (some ⟨bb,0,none⟩)] w fun e w'=>e= .returned (.bool true)∧∃(E' R':Ent) (bv' lv' u:Value) (m:List CV),pcs m=s.l∧
  Sep w0 w' (E'::R'::yJ 40 bb [lv'] bv' (xs++vI m)::xR lv' (ls++ [(u,m.length)])::L)∧
  Hid (∀(W:World) (M:List Ent),Sep w0 W (E'::M)→NdP1 w0 W M p P kind s)∧Hid (∀(W:World) (M:List Ent),Sep w0 W (R'::M)→RnP1 w0 W M x P kind s):=by
 have i1:=zD7;have i2:=iB;have i3:=o7;have hln:=hI.len hP;have hc:=wC (HE.out _ _ hS) hI hP;go_enter Tryz.func15,Tryz.ntmps15
 go_upto_region 2 with (first
  |(go_at_call 10;(with_reducible refine hc.mono ?_);rintro e w1 ⟨A1,c1,m1,rfl,hm1,hr1,hN⟩)
  |fail)
 obtain ⟨E1,hS1,B1⟩:=NdP1.sep hN;have hc2:=wC (B1 _ _ hS1) hI hP;have HM1:=Lib.hid hm1;clear hc hN hS hS1 B1 hm1
 go_upto_region 3 with (first
  |(go_at_call 10;(with_reducible refine hc2.mono ?_);rintro e w2 ⟨A2,c2,m2,rfl,hm2,hr2,hN⟩)
  |fail)
 obtain ⟨E2,hS2,B2⟩:=NdP1.sep hN;have HE2:=Lib.hid B2;have HM2:=Lib.hid hm2;have hc3:=zCQ (HR.out _ _ (hS2.sw [_,_,_])) hI hP;clear hc2 hN hS2 B2 hm2
 go_upto_region 4 with (first
  |(go_at_call 54;(with_reducible refine hc3.mono ?_);rintro e w3 ⟨A3,c3,m3,rfl,hm3,hr3,hN⟩)
  |fail)
 obtain ⟨R3,hS3,B3⟩:=RnP1.sep hN;have HR3:=Lib.hid B3;have HM3:=Lib.hid hm3
 have hl1:m1.length≤32768:=by rw [←zA,HM1.out];exact hln
 clear hc3 hN B3 hm3;have hs1:=q8 _ _ m1 m3 w3 (qA (hS3.of_mem (E:=csE (.slice A1 m1.length c1) m1) (by simp)) hr1) (qA (hS3.of_mem (E:=csE (.slice A3 m3.length c3) m3) (by simp)) hr3) (HM1.out.trans HM3.out.symm)
 go_upto_region 5 with (first
  |(go_at_call 20;(with_reducible refine hs1.mono ?_);rintro e w4 ⟨rfl,hw4⟩)
  |fail)
 have hS4:=Sep.pick (L:= [_,_,_,_,_,_,_]) [5,6,4,0,2,3,1] (by decide) rfl (hS3.below hw4);have hT:=cW hS4 (by omega) (by omega);clear hs1 hS3 hw4 hS4
 go_upto_region 6 with (first
  |(go_at_call 23;(with_reducible refine hT.mono ?_);rintro e w5 ⟨⟨_,rfl⟩,bv5,lv5,hS5⟩)
  |fail)
 have hs2:=q8 _ _ m2 m3 w5 (qA (hS5.of_mem (E:=csE (.slice A2 m2.length c2) m2) (by simp)) hr2) (qA (hS5.of_mem (E:=csE (.slice A3 m3.length c3) m3) (by simp)) hr3) (HM2.out.trans HM3.out.symm);clear hT
 go_upto_region 7 with (first
  |(go_at_call 20;(with_reducible refine hs2.mono ?_);rintro e w6 ⟨rfl,hw6⟩)
  |fail)
 have hS6:Sep w0 w6 (E2::R3::yJ 40 bb [lv5] bv5 (xs++vI m1)::xR lv5 (ls++ [(.slice A1 m1.length c1,m1.length)])::L):=Sep.pick (L:= [_,_,_,_,_,_]) [3,2,0,1] (by decide) rfl (hS5.below hw6);have k1:=zIZ (HE2.out _ _ hS6);have k2:=uV (HE2.out _ _ hS6);have k3:=zF1 (HE2.out _ _ hS6);have k4:=zIS (HR3.out _ _ hS6.sw1);have k5:=zFD (HR3.out _ _ hS6.sw1);have k6:=zJE (HR3.out _ _ hS6.sw1) hI hP;have HS6:=Lib.hid hS6;generalize zAD kind s=z at*;obtain ⟨n,hn⟩:∃n,s.l.length=n:=⟨_,rfl⟩;rw [hn] at k2 k5;clear hs2 hS5 hw6 hS6 hn hln
 go_wp2_with (first
  |(go_at_call 202;(with_reducible refine k1.mono ?_);rintro e w7 ⟨rfl,rfl⟩)
  |(go_at_call 55;(with_reducible refine k4.mono ?_);rintro e w7 ⟨rfl,rfl⟩)
  |(go_at_call 203;(with_reducible refine k2.mono ?_);rintro e w7 ⟨rfl,rfl⟩)
  |(go_at_call 56;(with_reducible refine k5.mono ?_);rintro e w7 ⟨rfl,rfl⟩)
  |(go_at_call 206;(with_reducible refine k3.mono ?_);rintro e w7 ⟨rfl,rfl⟩)
  |(go_at_call 57;(with_reducible refine k6.mono ?_);rintro e w9 ⟨rfl,hw9⟩)
  |fail)
 go_ret;exact ⟨rfl,E2,R3,bv5,lv5,_,m1,HM1.out,HS6.out.below hw9,HE2,HR3⟩
theorem l7 {w0 w:World} {L:List Ent} {E R:Ent} {p x P bb:Nat} {kind:Int} {s:KP} {bv lv:Value} {xs:List (Value×List UInt8)} {ls:List (Value×Nat)}
 (hS:Sep w0 w (E::R::yJ 40 bb [lv] bv xs::xR lv ls::L)) (HE:Hid (∀(W:World) (M:List Ent),Sep w0 W (E::M)→NdP2 w0 W M p P kind s)) (HR:Hid (∀(W:World) (M:List Ent),Sep w0 W (R::M)→RnP2 w0 W M x P kind s))
 (hI:NdI2 kind P s) (hP:P≤65536) (hxs:xs.length≤7000000) (hls:ls.length≤999999):
 Calls Tryz.prog 15 #[tH p,.pointer (some ⟨x,0,none⟩),.pointer (some ⟨bb,0,none⟩)] w fun e w'=>e= .returned (.bool true)∧∃(E' R':Ent) (bv' lv' u:Value) (m:List CV),pcs m=s.l∧
  Sep w0 w' (E'::R'::yJ 40 bb [lv'] bv' (xs++vI m)::xR lv' (ls++ [(u,m.length)])::L)∧
  Hid (∀(W:World) (M:List Ent),Sep w0 W (E'::M)→NdP2 w0 W M p P kind s)∧Hid (∀(W:World) (M:List Ent),Sep w0 W (R'::M)→RnP2 w0 W M x P kind s):=by
 have i1:=zD4;have i2:=lK;have i3:=zFI;have hln:=hI.len hP;have hc:=t8 (HE.out _ _ hS) hI hP;go_enter Tryz.func15,Tryz.ntmps15
 go_upto_region 2 with (first
  |(go_at_call 10;(with_reducible refine hc.mono ?_);rintro e w1 ⟨A1,c1,m1,rfl,hm1,hr1,hN⟩)
  |fail)
 obtain ⟨E1,hS1,B1⟩:=NdP2.sep hN;have hc2:=t8 (B1 _ _ hS1) hI hP;have HM1:=Lib.hid hm1;clear hc hN hS hS1 B1 hm1
 go_upto_region 3 with (first
  |(go_at_call 10;(with_reducible refine hc2.mono ?_);rintro e w2 ⟨A2,c2,m2,rfl,hm2,hr2,hN⟩)
  |fail)
 obtain ⟨E2,hS2,B2⟩:=NdP2.sep hN;have HE2:=Lib.hid B2;have HM2:=Lib.hid hm2;have hc3:=zCL (HR.out _ _ (hS2.sw [_,_,_])) hI hP;clear hc2 hN hS2 B2 hm2
 go_upto_region 4 with (first
  |(go_at_call 54;(with_reducible refine hc3.mono ?_);rintro e w3 ⟨A3,c3,m3,rfl,hm3,hr3,hN⟩)
  |fail)
 obtain ⟨R3,hS3,B3⟩:=RnP2.sep hN;have HR3:=Lib.hid B3;have HM3:=Lib.hid hm3
 have hl1:m1.length≤32768:=by rw [←zA,HM1.out];exact hln
 clear hc3 hN B3 hm3;have hs1:=q8 _ _ m1 m3 w3 (qA (hS3.of_mem (E:=csE (.slice A1 m1.length c1) m1) (by simp)) hr1) (qA (hS3.of_mem (E:=csE (.slice A3 m3.length c3) m3) (by simp)) hr3) (HM1.out.trans HM3.out.symm)
 go_upto_region 5 with (first
  |(go_at_call 20;(with_reducible refine hs1.mono ?_);rintro e w4 ⟨rfl,hw4⟩)
  |fail)
 have hS4:=Sep.pick (L:= [_,_,_,_,_,_,_]) [5,6,4,0,2,3,1] (by decide) rfl (hS3.below hw4);have hT:=cW hS4 (by omega) (by omega);clear hs1 hS3 hw4 hS4
 go_upto_region 6 with (first
  |(go_at_call 23;(with_reducible refine hT.mono ?_);rintro e w5 ⟨⟨_,rfl⟩,bv5,lv5,hS5⟩)
  |fail)
 have hs2:=q8 _ _ m2 m3 w5 (qA (hS5.of_mem (E:=csE (.slice A2 m2.length c2) m2) (by simp)) hr2) (qA (hS5.of_mem (E:=csE (.slice A3 m3.length c3) m3) (by simp)) hr3) (HM2.out.trans HM3.out.symm);clear hT
 go_upto_region 7 with (first
  |(go_at_call 20;(with_reducible refine hs2.mono ?_);rintro e w6 ⟨rfl,hw6⟩)
  |fail)
 have hS6:Sep w0 w6 (E2::R3::yJ 40 bb [lv5] bv5 (xs++vI m1)::xR lv5 (ls++ [(.slice A1 m1.length c1,m1.length)])::L):=Sep.pick (L:= [_,_,_,_,_,_]) [3,2,0,1] (by decide) rfl (hS5.below hw6);have k1:=zH4 (HE2.out _ _ hS6);have k2:=zAM (HE2.out _ _ hS6);have k3:=zH7 (HE2.out _ _ hS6);have k4:=zJQ (HR3.out _ _ hS6.sw1);have k5:=zFN (HR3.out _ _ hS6.sw1);have k6:=zIR (HR3.out _ _ hS6.sw1) hI hP;have HS6:=Lib.hid hS6;generalize zER kind s=z at*;obtain ⟨n,hn⟩:∃n,s.l.length=n:=⟨_,rfl⟩;rw [hn] at k2 k5;clear hs2 hS5 hw6 hS6 hn hln
 go_wp2_with (first
  |(go_at_call 220;(with_reducible refine k1.mono ?_);rintro e w7 ⟨rfl,rfl⟩)
  |(go_at_call 55;(with_reducible refine k4.mono ?_);rintro e w7 ⟨rfl,rfl⟩)
  |(go_at_call 221;(with_reducible refine k2.mono ?_);rintro e w7 ⟨rfl,rfl⟩)
  |(go_at_call 56;(with_reducible refine k5.mono ?_);rintro e w7 ⟨rfl,rfl⟩)
  |(go_at_call 224;(with_reducible refine k3.mono ?_);rintro e w7 ⟨rfl,rfl⟩)
  |(go_at_call 57;(with_reducible refine k6.mono ?_);rintro e w9 ⟨rfl,hw9⟩)
  |fail)
 go_ret;exact ⟨rfl,E2,R3,bv5,lv5,_,m1,HM1.out,HS6.out.below hw9,HE2,HR3⟩
def KDecR (b:List UInt8) (kind:Int) (l:List PC) (z:Int):Prop:=(jV b kind l∧z=0)∨((∀k l',¬jV b k l')∧kind=0∧l= []∧z=60)
theorem oE {b:List UInt8} {kind kind':Int} {l l':List PC} (h:jV b kind l) (h':jV b kind' l'):kind'=kind∧l'=l:=by
 have h1:=fE h;have h2:=fE h';rw [h1.1] at h2;exact ⟨h2.2.1.symm.trans h1.2.1,(Option.some.inj h2.1).symm⟩
theorem KDecR.same {b:List UInt8} {k k':Int} {l l':List PC} {e e':Int} (h:KDecR b k l e) (h':KDecR b k' l' e'):k=k'∧l=l'∧e=e':=by
 rcases h with ⟨h1,rfl⟩|⟨h1,rfl,rfl,rfl⟩
 ·rcases h' with ⟨h2,rfl⟩|⟨h2,_⟩
  ·obtain ⟨a,b⟩:=oE h2 h1;exact ⟨a,b,rfl⟩
  ·exact absurd h1 (h2 _ _)
 ·rcases h' with ⟨h2,_⟩|⟨h2,rfl,rfl,rfl⟩
  ·exact absurd h2 (h1 _ _)
  ·exact ⟨rfl,rfl,rfl⟩
theorem zKW {b:List UInt8} {kind:Int} {l:List PC} (h:jV b kind l):6*l.length≤b.length∧512≤b.length∧b.length≤65536∧∀c∈l,c.key.length≤8192∧c.val.length≤12288:=by
 have hr:=zZ h.1;have hm:=zB2 h.2.1 h.2.2.1 (by omega);refine ⟨hm,by omega,by omega,fun c hc=> ?_⟩;have ho:=xY (qE (qH.1 h.2.2.1).1 c hc);refine ⟨by have:=ho.k0;omega,?_⟩
 by_cases h1:c.kind=1
 ·have:=(ho.v0 h1).1;omega
 ·rw [(ho.v1 h1).1];simp
theorem KDecR.small {b:List UInt8} {kind:Int} {l:List PC} {z:Int} (h:KDecR b kind l z):l.length≤16384∧∀c∈l,c.key.length≤8192∧c.val.length≤12288:=by
 rcases h with ⟨h1,_⟩|⟨_,_,rfl,_⟩
 ·have:=zKW h1
  exact ⟨by omega,this.2.2.2⟩
 ·simp
theorem DecK.z {w0 w w':World} {L:List Ent} {b:List UInt8} {e:Ending} (hS:Sep w0 w L) (h:DecK w b e w'):
 ∃(kind:Int) (l:List CV) (A:Option Addr) (c:Nat) (z:Int),e= .returned (.tuple #[.int .i64 kind,.slice A l.length c,.int .i64 z])∧KDecR b kind (pcs l) z∧RngC l∧Sep w0 w' (csE (.slice A l.length c) l::L):=by
 rcases h with ⟨kind,l,v,hp,rfl,hr,hs⟩|⟨hn,rfl,hb⟩
 ·have hO:Own w' 0 43 5 v l.length (zF l):=hs.head.1 _ (List.mem_cons_self ..);obtain ⟨A,c,rfl⟩:=Own.slice hO;exact ⟨kind,l,A,c,0,rfl,.inl ⟨hp,rfl⟩,hr,Sep.lift1 hs (List.mem_cons_self ..) hS⟩
 ·exact ⟨0,[],none,0,60,rfl,.inr ⟨hn,rfl,rfl,rfl⟩,by simp [RngC],Sep.pack (D:=zP 43 5 (.slice none 0 0) 0 []::zG []) (hS.below hb).nilC⟩
def zDA (_:Int) (l:List PC):KP:=⟨l,[],0⟩
def zDK (kind:Int) (l:List PC):KP:=jI kind l
theorem wB {b:List UInt8} {kind kind':Int} {l l':List PC} (h:y8 b kind l) (h':y8 b kind' l'):kind'=kind∧l'=l:=by
 obtain ⟨h1,h2,-⟩:=DecR.same (.inl ⟨h',rfl⟩:DecR b kind' l' 0) (.inl ⟨h,rfl⟩:DecR b kind l 0);exact ⟨h1,h2⟩
section
variable {w0 w:World} {L:List Ent} {v:Value} {b:List UInt8}
def zBM (w0:World) (L:List Ent) (b:List UInt8) (e:Ending) (w':World):Prop:=
 (∃(x:Nat) (kind:Int) (l:List PC),y8 b kind l∧e= .returned (.tuple #[.pointer (some ⟨x,0,none⟩),.int .i64 0])∧RnP1 w0 w' L x b.length kind (zDA kind l))∨
  ((∀k l,¬y8 b k l)∧e= .returned (.tuple #[.pointer none,.int .i64 60])∧Sep w0 w' L)
theorem zGI (hS:Sep w0 w L) (hv:RdB w v b) (h2:2≤b.length) (he:egB b=1):Calls Tryz.prog 13 #[v] w (zBM w0 L b):=by
 have hD:=zBV hS v b hv;obtain ⟨A,c,rfl,hm⟩:=hv.form;obtain ⟨ad,rfl,hcb,hlt⟩:=nT hv h2;rw [he] at hcb
 have i1:¬(b.length:Int)<2:=by omega
 have i2:(1:Int)<(b.length:Int):=by omega
 have i3:1<b.length:=by omega
 unfold zBM;clear he hlt h2 hm hS hv;go_enter Tryz.func13,Tryz.ntmps13;go_wp2_with fail;refine hD.mono ?_;rintro e w3 (⟨r,kind,l,hp,rfl,hq⟩|⟨hn,rfl,hS3⟩)
 ·have HP:=Lib.hid hp;obtain ⟨E,h1,B⟩:=Rq1.sep hq;have HN:=Lib.hid (B _ _ (h1.alloc 87 [.int .i64 1,.pointer (some ⟨r,0,none⟩),.pointer none]).sw1);clear hD hcb hp hq h1 B;go_wp2_with fail;go_ret2;exact .inl ⟨_,kind,l,HP.out,rfl,r,HN.out⟩
 ·have HN:=Lib.hid hn;have HS3:=Lib.hid hS3;clear hD hS3 hcb hn;go_wp2_with fail;go_ret2;exact .inr ⟨HN.out,rfl,HS3.out⟩
def zBE (w0:World) (L:List Ent) (b:List UInt8) (e:Ending) (w':World):Prop:=
 (∃(x:Nat) (kind:Int) (l:List PC),jV b kind l∧e= .returned (.tuple #[.pointer (some ⟨x,0,none⟩),.int .i64 0])∧RnP2 w0 w' L x b.length kind (zDK kind l))∨
  ((∀k l,¬jV b k l)∧e= .returned (.tuple #[.pointer none,.int .i64 60])∧Sep w0 w' L)
theorem zHC (hS:Sep w0 w L) (hv:RdB w v b) (h2:2≤b.length) (he:egB b=2):Calls Tryz.prog 13 #[v] w (zBE w0 L b):=by
 have hD:=zAA hS v b hv;obtain ⟨A,c,rfl,hm⟩:=hv.form;obtain ⟨ad,rfl,hcb,hlt⟩:=nT hv h2;rw [he] at hcb
 have i1:¬(b.length:Int)<2:=by omega
 have i2:(1:Int)<(b.length:Int):=by omega
 have i3:1<b.length:=by omega
 unfold zBE;clear he hlt h2 hm hS hv;go_enter Tryz.func13,Tryz.ntmps13;go_wp2_with fail;refine hD.mono ?_;rintro e w3 (⟨r,kind,l,hp,rfl,hq⟩|⟨hn,rfl,hS3⟩)
 ·have HP:=Lib.hid hp;obtain ⟨E,h1,B⟩:=Rq2.sep hq;have HN:=Lib.hid (B _ _ (h1.alloc 87 [.int .i64 2,.pointer none,.pointer (some ⟨r,0,none⟩)]).sw1);clear hD hcb hp hq h1 B;go_wp2_with fail;go_ret2;exact .inl ⟨_,kind,l,HP.out,rfl,r,HN.out⟩
 ·have HN:=Lib.hid hn;have HS3:=Lib.hid hS3;clear hD hS3 hcb hn;go_wp2_with fail;go_ret2;exact .inr ⟨HN.out,rfl,HS3.out⟩
theorem zIE {kind:Int} {l:List PC} (h2:2≤b.length) (he:egB b=1) (hp:y8 b kind l) (hS:Sep w0 w L) (hv:RdB w v b):Calls Tryz.prog 12 #[v] w fun e w'=>∃p,e= .returned (.tuple #[sI p,.int .i64 0])∧NdP1 w0 w' L p b.length kind (zDA kind l):=by
 refine (zET hS hv h2 he).mono ?_;rintro e w' (⟨p,k,l',hq,rfl,h⟩|⟨hn,_⟩)
 ·obtain ⟨rfl,rfl⟩:=wB hp hq;exact ⟨p,rfl,h⟩
 ·exact absurd hp (hn _ _)
theorem zGS {kind:Int} {l:List PC} (h2:2≤b.length) (he:egB b=1) (hp:y8 b kind l) (hS:Sep w0 w L) (hv:RdB w v b):Calls Tryz.prog 13 #[v] w fun e w'=>∃x,e= .returned (.tuple #[.pointer (some ⟨x,0,none⟩),.int .i64 0])∧RnP1 w0 w' L x b.length kind (zDA kind l):=by
 refine (zGI hS hv h2 he).mono ?_;rintro e w' (⟨p,k,l',hq,rfl,h⟩|⟨hn,_⟩)
 ·obtain ⟨rfl,rfl⟩:=wB hp hq;exact ⟨p,rfl,h⟩
 ·exact absurd hp (hn _ _)
theorem zI3 {kind:Int} {l:List PC} (h2:2≤b.length) (he:egB b=2) (hp:jV b kind l) (hS:Sep w0 w L) (hv:RdB w v b):Calls Tryz.prog 12 #[v] w fun e w'=>∃p,e= .returned (.tuple #[tH p,.int .i64 0])∧NdP2 w0 w' L p b.length kind (zDK kind l):=by
 refine (zJH hS hv h2 he).mono ?_;rintro e w' (⟨p,k,l',hq,rfl,h⟩|⟨hn,_⟩)
 ·obtain ⟨rfl,rfl⟩:=oE hp hq;exact ⟨p,rfl,h⟩
 ·exact absurd hp (hn _ _)
theorem zGR {kind:Int} {l:List PC} (h2:2≤b.length) (he:egB b=2) (hp:jV b kind l) (hS:Sep w0 w L) (hv:RdB w v b):Calls Tryz.prog 13 #[v] w fun e w'=>∃x,e= .returned (.tuple #[.pointer (some ⟨x,0,none⟩),.int .i64 0])∧RnP2 w0 w' L x b.length kind (zDK kind l):=by
 refine (zHC hS hv h2 he).mono ?_;rintro e w' (⟨p,k,l',hq,rfl,h⟩|⟨hn,_⟩)
 ·obtain ⟨rfl,rfl⟩:=oE hp hq;exact ⟨p,rfl,h⟩
 ·exact absurd hp (hn _ _)
end
theorem Sep.setB {w0 w:World} {L:List Ent} {g m c:Nat} {l:List UInt8} (h:Sep w0 w (zB (.slice (some ⟨g,0,none⟩) m c) l::L)) (j:Nat) (x:UInt8):Sep w0 (w.setCell ⟨g,j,none⟩ (.int .u8 (x.toNat:Int))) (zB (.slice (some ⟨g,0,none⟩) m c) (l.set j x)::L):=
 h.upd (Turn.of_grown (zY w ⟨g,j,none⟩ _) (fun k e=>e)) (OwB.set (show OwB w 0 _ l from h.head) j x) (fun b hb=>⟨.inl hb,by have h':=h.lt b hb;simpa using h'⟩)
end Go.Proofs.YtfcnkpofcekmgaaGreat
