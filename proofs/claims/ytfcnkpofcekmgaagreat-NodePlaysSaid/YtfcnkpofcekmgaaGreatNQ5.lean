/- Texts joined. -/
import Derived.Test.YtfcnkpofcekmgaaGreatNQ4
import Derived.Deep.CutBlock
import Derived.Lib.SlBytesConst
set_option maxRecDepth 100000
set_option maxHeartbeats 64000000
namespace Go.Proofs.YtfcnkpofcekmgaaGreat
open Go.RowKit
theorem set5 {w:World} {g:Nat} {T:TypeId} {b0 b1 b2 b3 b4:Value} (h:OBlk w g T [b0,b1,b2,b3,b4]) (a0 a1 a2 a3 a4:Value):
 OBlk (((((w.setCell ⟨g,0,none⟩ a0).setCell ⟨g,1,none⟩ a1).setCell ⟨g,2,none⟩ a2).setCell ⟨g,3,none⟩ a3).setCell ⟨g,4,none⟩ a4) g T [a0,a1,a2,a3,a4]:=((((h.set 0 a0).set 1 a1).set 2 a2).set 3 a3).set 4 a4
theorem pB {B g:Nat} {w0 w:World} (h:Below B w0 w) (hg:B≤g) (a0 a1 a2 a3 a4:Value):
 Below B w0 (((((w.setCell ⟨g,0,none⟩ a0).setCell ⟨g,1,none⟩ a1).setCell ⟨g,2,none⟩ a2).setCell ⟨g,3,none⟩ a3).setCell ⟨g,4,none⟩ a4):=((((h.setCell (p:=⟨g,0,none⟩) hg a0).setCell (p:=⟨g,1,none⟩) hg a1).setCell (p:=⟨g,2,none⟩) hg a2).setCell (p:=⟨g,3,none⟩) hg a3).setCell (p:=⟨g,4,none⟩) hg a4
theorem ow5 {w:World} {b g:Nat} {v:Value} {l:List UInt8} (h:OwB w b v l) (hg:∀k,v.ownBlock=some k→k≠g) (a0 a1 a2 a3 a4:Value):
 OwB (((((w.setCell ⟨g,0,none⟩ a0).setCell ⟨g,1,none⟩ a1).setCell ⟨g,2,none⟩ a2).setCell ⟨g,3,none⟩ a3).setCell ⟨g,4,none⟩ a4) b v l:=
 Own.heap h fun k hk=>by
  have hne:=hg k hk
  iterate 5 rw [Below.heap_setCell _ _ _ _ (by exact hne)]
def zeroC:List Value:= [.slice none 0 0,.int .i64 0,.slice none 0 0,.int .i64 0,.int .i64 0]
def zI9 (w:World) (b:List UInt8) (at_ end_:Nat) (e:Ending) (w':World):Prop:=
 Below w.heap.size w w'∧((vM b at_ end_=none∧e= .returned (.tuple #[.agg #[.slice none 0 0,.int .i64 0,.slice none 0 0,.int .i64 0,.int .i64 0],.int .i64 0]))∨
  ∃(x:CV) (tn:Nat),vM b at_ end_=some (x.c,tn)∧e= .returned (.tuple #[zJ x,.int .i64 (tn:Int)])∧tn≤end_∧0<tn∧(∃g,x.kv= .slice (some ⟨g,0,none⟩) x.c.key.length x.c.key.length∧∀h,x.vv.ownBlock=some h→g<h)∧(∃A,x.vv= .slice A x.c.val.length x.c.val.length)∧OwB w' w.heap.size x.kv x.c.key∧OwB w' w.heap.size x.vv x.c.val∧yE x.c.kind∧yE x.c.page∧yE x.c.count)
theorem vO (b:List UInt8) (at_ w:Nat):zL b at_ w<256^w:=by
 unfold zL;refine Nat.lt_of_lt_of_le (mG _) (Nat.pow_le_pow_right (by omega) (by simp;omega))
theorem bN (wd:Nat) (D:Int) (hD:D=(wd:Int)) (h1:1≤wd) (h4:wd≤4) (v:Value) (b:List UInt8) (at_:Nat) (X:Int) (hX:X=(at_:Int)) (ha:at_+wd≤b.length) (w:World) (hv:RdB w v b):Calls Tryz.prog 132 #[v,.int .i64 X,.int .i64 D] w fun e w'=>e= .returned (.int .i64 (zL b at_ wd:Nat))∧w=w':=by
 subst hX hD;exact zAR v b at_ wd h1 h4 ha w hv
theorem zD8 (v:Value) (b:List UInt8) (at_ n:Nat) (X N:Int) (hX:X=(at_:Int)) (hN:N=(n:Int)) (ha:at_+n≤b.length) (hb:b.length≤140737488355328) (w:World) (hv:RdB w v b):
 Calls Tryz.prog 166 #[v,.int .i64 X,.int .i64 N] w fun e w'=>∃g,e= .returned (.slice (some ⟨g,0,none⟩) n n)∧g=w.heap.size∧OwB w' w.heap.size (.slice (some ⟨g,0,none⟩) n n) ((b.drop at_).take n)∧Below w.heap.size w w':=by
 subst hX hN;exact zFX v b at_ n ha hb w hv
theorem zF2 (v:Value) (b:List UInt8) (at_ end_:Nat) (w:World) (hv:RdB w v b) (hb:b.length≤65536) (he:end_≤b.length) (ha:at_≤131072):
 Calls Tryz.prog 133 #[v,.int .i64 (at_:Int),.int .i64 (end_:Int)] w (zI9 w b at_ end_):=by
 have hR0:OBlk (w.alloc (.cells #[.slice none 0 0,.int .i64 0,.slice none 0 0,.int .i64 0,.int .i64 0] 43)) w.heap.size 43 zeroC:=OBlk.new' w _ zeroC;have hA0:Below w.heap.size w (w.alloc (.cells #[.slice none 0 0,.int .i64 0,.slice none 0 0,.int .i64 0,.int .i64 0] 43)):=(Below.refl _ _).alloc (Nat.le_refl _) _;obtain ⟨A,c,rfl,hm⟩:=hv.form
 have i2:IntKind.i64.wrap ((end_:Int)-(at_:Int))=(end_:Int)-(at_:Int):=by rw [IntKind.wrap_i64];omega
 by_cases h1:end_<at_+3
 ·have HP:Hid (vM b at_ end_=none):=by show _=_;unfold vM;rw [if_pos h1]
  have i1:((end_:Int)-(at_:Int))<3:=by omega
  obtain ⟨r0,r1,r2,r3,r4⟩:=zC hR0;have f0:=hR0.frozen (j:=0) (by simp [zeroC]);have f1:=hR0.frozen (j:=1) (by simp [zeroC]);have f2:=hR0.frozen (j:=2) (by simp [zeroC]);have f3:=hR0.frozen (j:=3) (by simp [zeroC]);have f4:=hR0.frozen (j:=4) (by simp [zeroC]);go_enter Tryz.func133,Tryz.ntmps133;go_wp2_with fail;refine bodyPost_ret (v:= .tuple #[.agg #[.slice none 0 0,.int .i64 0,.slice none 0 0,.int .i64 0,.int .i64 0],.int .i64 0]) ?_ rfl ?_
  ·simp [results,Tryz.results133,go_sem,r0,r1,r2,r3,r4]
  ·exact ⟨hA0,.inl ⟨HP.out,rfl⟩⟩
 ·have i1:¬((end_:Int)-(at_:Int))<3:=by omega
  obtain ⟨kb,hkb⟩:∃kb,b[at_]? =some kb:=⟨_,List.getElem?_eq_getElem (by omega)⟩
  have hgd:b.getD at_ 0=kb:=by rw [List.getD,hkb];rfl
  obtain ⟨ad,rfl,hcb⟩:=(hv.below hA0 (Nat.le_refl _)).at_ (j:=at_) (by omega)
  have hcb':(w.alloc (.cells #[.slice none 0 0,.int .i64 0,.slice none 0 0,.int .i64 0,.int .i64 0] 43)).cell? (ad.add at_)=some (.int .u8 (kb.toNat:Int)):=by
   rw [hcb];rw [List.getElem?_eq_getElem (by omega)] at hkb;rw [Option.some.inj hkb]
  have j1:(at_:Int)<(b.length:Int):=by omega
  have j2:at_<b.length:=by omega
  have hkl:=kb.toNat_lt;have hn:=vO b (at_+1) 2
  have hcp:vM b at_ end_=(if end_<at_+3+(zL b (at_+1) 2)+2 then none
   else if ((kb.toNat:Nat):Int)≠1 then
    if end_<at_+3+(zL b (at_+1) 2)+8 then none
    else some (⟨(b.drop (at_+3)).take (zL b (at_+1) 2),(kb.toNat:Nat),[],(zL b (at_+3+(zL b (at_+1) 2)) 4:Nat),(zL b (at_+3+(zL b (at_+1) 2)+4) 4:Nat)⟩,at_+3+(zL b (at_+1) 2)+8)
   else
    if end_<at_+3+(zL b (at_+1) 2)+2+zL b (at_+3+(zL b (at_+1) 2)) 2 then none
    else some (⟨(b.drop (at_+3)).take (zL b (at_+1) 2),(kb.toNat:Nat),(b.drop (at_+3+(zL b (at_+1) 2)+2)).take (zL b (at_+3+(zL b (at_+1) 2)) 2),0,0⟩,at_+3+(zL b (at_+1) 2)+2+zL b (at_+3+(zL b (at_+1) 2)) 2)):=by
   rw [vM,if_neg h1,hgd]
  have hN1:=fun W hW=>bN 2 2 rfl (by omega) (by omega) (.slice (some ad) b.length c) b (at_+1) ((at_:Int)+1) rfl (by omega) W hW;generalize zL b (at_+1) 2=n at*;have HCP:=Lib.hid hcp;have hC1:=OBlk.new' (w.alloc (.cells #[.slice none 0 0,.int .i64 0,.slice none 0 0,.int .i64 0,.int .i64 0] 43)) 43 [.slice none 0 0,.int .i64 (kb.toNat:Int),.slice none 0 0,.int .i64 0,.int .i64 0];have hR1:=hR0.alloc (.cells #[.slice none 0 0,.int .i64 (kb.toNat:Int),.slice none 0 0,.int .i64 0,.int .i64 0] 43);have hA1:=hA0.alloc hA0.size (.cells #[.slice none 0 0,.int .i64 (kb.toNat:Int),.slice none 0 0,.int .i64 0,.int .i64 0] 43);rw [World.size_alloc] at hC1
  have hkw:IntKind.i64.wrap ((kb.toNat:Nat):Int)=((kb.toNat:Nat):Int):=by rw [IntKind.wrap_i64];omega
  clear hcp hcb hkb hgd;go_enter Tryz.func133,Tryz.ntmps133;go_wp2_with fail;refine (hN1 _ (hv.below hA1 (Nat.le_refl _))).mono ?_;rintro e w1 ⟨rfl,rfl⟩;generalize (w.alloc (.cells #[.slice none 0 0,.int .i64 0,.slice none 0 0,.int .i64 0,.int .i64 0] 43)).alloc (.cells #[.slice none 0 0,.int .i64 (kb.toNat:Int),.slice none 0 0,.int .i64 0,.int .i64 0] 43)=w1 at*;clear hN1 hcb' hR0 hA0 i1 i2 j1 j2;have hz1:=hC1.lt;obtain ⟨r0,r1,r2,r3,r4⟩:=zC hR1;have f0:=hR1.frozen (j:=0) (by simp [zeroC]);have f1:=hR1.frozen (j:=1) (by simp [zeroC]);have f2:=hR1.frozen (j:=2) (by simp [zeroC]);have f3:=hR1.frozen (j:=3) (by simp [zeroC]);have f4:=hR1.frozen (j:=4) (by simp [zeroC])
  have q1:IntKind.i64.wrap ((end_:Int)-((at_:Int)+3))=(end_:Int)-((at_:Int)+3):=by rw [IntKind.wrap_i64];omega
  by_cases h2:end_<at_+3+n+2
  ·have HP:Hid (vM b at_ end_=none):=by show _=_;rw [HCP.out,if_pos h2]
   have q2:(end_:Int)-((at_:Int)+3)<(n:Int)+2:=by omega
   clear HCP;go_wp2_with fail;obtain ⟨e0,e1,e2,e3,e4⟩:=zC (set5 hR1 (.slice none 0 0) (.int .i64 0) (.slice none 0 0) (.int .i64 0) (.int .i64 0));refine bodyPost_ret (v:= .tuple #[.agg #[.slice none 0 0,.int .i64 0,.slice none 0 0,.int .i64 0,.int .i64 0],.int .i64 0]) ?_ rfl ?_
   ·simp [results,Tryz.results133,go_sem,e0,e1,e2,e3,e4]
   ·exact ⟨pB hA1 (Nat.le_refl _) _ _ _ _ _,.inl ⟨HP.out,rfl⟩⟩
  ·have q2:¬(end_:Int)-((at_:Int)+3)<(n:Int)+2:=by omega
   have hcp:=HCP.out;rw [if_neg h2] at hcp;have hpt:=zD8 (.slice (some ad) b.length c) b (at_+3) n ((at_:Int)+3) n rfl rfl (by omega) (by omega) w1 (hv.below hA1 (Nat.le_refl _));have z0:=hC1.frozen (j:=0) (by simp);have y0:=hC1.cell' (j:=0) (u:= .slice none 0 0) rfl;have y1:=hC1.cell' (j:=1) (u:= .int .i64 (kb.toNat:Int)) rfl
   have hKL:((b.drop (at_+3)).take n).length=n:=by simp;omega
   have HKL:=Lib.hid hKL;generalize (b.drop (at_+3)).take n=key at*;have HCP2:=Lib.hid hcp;clear HCP hcp hKL r0 r1 r2 r3 r4 f0 f1 f2 f3 f4;go_wp2_with fail;refine hpt.mono ?_;rintro e w2 ⟨g2,rfl,hg2,ho2,hb2⟩;have hC2:=hC1.below hb2 hz1;have hR2:=hR1.below hb2 hR1.lt;have hA2:=hA1.trans (hb2.mono hA1.size);have z0:=hC2.frozen (j:=0) (by simp);have y0:=hC2.cell' (j:=0) (u:= .slice none 0 0) rfl
   have hne:g2≠w.heap.size+1:=by omega
   have hgw:w1.heap.size≤g2:=by omega
   clear hg2;clear hpt hC1 hR1 hA1 z0 y0 y1;have z0:=hC2.frozen (j:=0) (by simp);have y0:=hC2.cell' (j:=0) (u:= .slice none 0 0) rfl;go_upto_region 9 with (fail);have hC3:=hC2.set 0 (.slice (some ⟨g2,0,none⟩) n n);have hR3:=hR2.far (p:=⟨w.heap.size+1,0,none⟩) (show w.heap.size≠w.heap.size+1 by omega) (.slice (some ⟨g2,0,none⟩) n n);have hA3:=hA2.setCell (p:=⟨w.heap.size+1,0,none⟩) (show w.heap.size≤w.heap.size+1 by omega) (.slice (some ⟨g2,0,none⟩) n n);have ho3:OwB (w2.setCell ⟨w.heap.size+1,0,none⟩ (.slice (some ⟨g2,0,none⟩) n n)) w.heap.size (.slice (some ⟨g2,0,none⟩) n n) key:=Own.heap (OwB.base_le ho2 (b:=w.heap.size) fun k hk=>by simp only [Value.ownBlock,Option.some.injEq] at hk;omega) fun k hk=>Below.heap_setCell _ _ _ _ (by simp only [Value.ownBlock,Option.some.injEq] at hk;subst hk;exact hne);have hz3:g2<(w2.setCell ⟨w.heap.size+1,0,none⟩ (.slice (some ⟨g2,0,none⟩) n n)).heap.size:=(Own.lt ho3 g2 rfl).2;simp only [List.set_cons_zero] at hC3;generalize w2.setCell ⟨w.heap.size+1,0,none⟩ (.slice (some ⟨g2,0,none⟩) n n)=w3 at*;clear hC2 hR2 hA2 ho2 hb2 z0 y0;obtain ⟨r0,r1,r2,r3,r4⟩:=zC hR3;have f0:=hR3.frozen (j:=0) (by simp [zeroC]);have f1:=hR3.frozen (j:=1) (by simp [zeroC]);have f2:=hR3.frozen (j:=2) (by simp [zeroC]);have f3:=hR3.frozen (j:=3) (by simp [zeroC]);have f4:=hR3.frozen (j:=4) (by simp [zeroC]);obtain ⟨y0,y1,y2,y3,y4⟩:=zC hC3;have z2:=hC3.frozen (j:=2) (by simp);have z3:=hC3.frozen (j:=3) (by simp);have z4:=hC3.frozen (j:=4) (by simp)
   have q3:IntKind.i64.wrap ((end_:Int)-((at_:Int)+3+(n:Int)))=(end_:Int)-((at_:Int)+3+(n:Int)):=by rw [IntKind.wrap_i64];omega
   clear q1 q2
   by_cases hk1:((kb.toNat:Nat):Int)=1
   ·have hkb:(((kb.toNat:Nat):Int) !=1)=false:=by simp [hk1]
    have hcp:=HCP2.out;rw [if_neg (by simp [hk1])] at hcp;have hN2:=bN 2 2 rfl (by omega) (by omega) (.slice (some ad) b.length c) b (at_+3+n) ((at_:Int)+3+(n:Int)) rfl (by omega) w3 (hv.below hA3 (Nat.le_refl _));have hl2:=vO b (at_+3+n) 2;generalize zL b (at_+3+n) 2=m at*
    have q4:IntKind.i64.wrap ((end_:Int)-((at_:Int)+3+(n:Int)+2))=(end_:Int)-((at_:Int)+3+(n:Int)+2):=by rw [IntKind.wrap_i64];omega
    have HK1:=Lib.hid hk1;have HCP3:=Lib.hid hcp;clear HCP2 hcp hk1;go_wp2_with fail;refine hN2.mono ?_;rintro e w4 ⟨rfl,rfl⟩;clear hN2
    by_cases h3:end_<at_+3+n+2+m
    ·have HP:Hid (vM b at_ end_=none):=by show _=_;rw [HCP3.out,if_pos h3]
     have q2:(end_:Int)-((at_:Int)+3+(n:Int)+2)<(m:Int):=by omega
     clear HCP3;go_wp2_with fail;obtain ⟨e0,e1,e2,e3,e4⟩:=zC (set5 hR3 (.slice none 0 0) (.int .i64 0) (.slice none 0 0) (.int .i64 0) (.int .i64 0));refine bodyPost_ret (v:= .tuple #[.agg #[.slice none 0 0,.int .i64 0,.slice none 0 0,.int .i64 0,.int .i64 0],.int .i64 0]) ?_ rfl ?_
     ·simp [results,Tryz.results133,go_sem,e0,e1,e2,e3,e4]
     ·exact ⟨pB hA3 (Nat.le_refl _) _ _ _ _ _,.inl ⟨HP.out,rfl⟩⟩
    ·have q2:¬(end_:Int)-((at_:Int)+3+(n:Int)+2)<(m:Int):=by omega
     have hcp:=HCP3.out;rw [if_neg h3] at hcp;have hpt:=zD8 (.slice (some ad) b.length c) b (at_+3+n+2) m ((at_:Int)+3+(n:Int)+2) m rfl rfl (by omega) (by omega) w3 (hv.below hA3 (Nat.le_refl _))
     have hVL:((b.drop (at_+3+n+2)).take m).length=m:=by simp;omega
     have HVL:=Lib.hid hVL;generalize (b.drop (at_+3+n+2)).take m=val at*;have HCP4:=Lib.hid hcp;clear HCP3 hcp hVL;go_wp2_with fail;refine hpt.mono ?_;rintro e w4 ⟨g4,rfl,hg4,hv4,hb4⟩;have hC4:=hC3.below hb4 hC3.lt;have hR4:=hR3.below hb4 hR3.lt;have hA4:=hA3.trans (hb4.mono hA3.size);have ho4:=Own.below' ho3 hb4 (Nat.le_refl _);have hzC:=hC3.lt
     have hne4:g4≠w.heap.size+1:=by omega
     have hgw4:w3.heap.size≤g4:=by omega
     clear hg4 hpt hC3 hR3 hA3 ho3 y0 y1 y2 y3 y4 z2 z3 z4 r0 r1 r2 r3 r4 f0 f1 f2 f3 f4;have y2:=hC4.cell' (j:=2) (u:= .slice none 0 0) rfl;have z2:=hC4.frozen (j:=2) (by simp);go_upto_region 20 with (fail);have hC5:=hC4.set 2 (.slice (some ⟨g4,0,none⟩) m m);have hR5:=hR4.far (p:=⟨w.heap.size+1,2,none⟩) (show w.heap.size≠w.heap.size+1 by omega) (.slice (some ⟨g4,0,none⟩) m m);have hA5:=hA4.setCell (p:=⟨w.heap.size+1,2,none⟩) (show w.heap.size≤w.heap.size+1 by omega) (.slice (some ⟨g4,0,none⟩) m m);have ho5:OwB (w4.setCell ⟨w.heap.size+1,2,none⟩ (.slice (some ⟨g4,0,none⟩) m m)) w.heap.size (.slice (some ⟨g2,0,none⟩) n n) key:=Own.heap ho4 fun k hk=>Below.heap_setCell _ _ _ _ (by simp only [Value.ownBlock,Option.some.injEq] at hk;subst hk;exact hne);have hv5:OwB (w4.setCell ⟨w.heap.size+1,2,none⟩ (.slice (some ⟨g4,0,none⟩) m m)) w.heap.size (.slice (some ⟨g4,0,none⟩) m m) val:=Own.heap (OwB.base_le hv4 (b:=w.heap.size) fun k hk=>by simp only [Value.ownBlock,Option.some.injEq] at hk;omega) fun k hk=>Below.heap_setCell _ _ _ _ (by simp only [Value.ownBlock,Option.some.injEq] at hk;subst hk;exact hne4);simp only [List.set_cons_succ,List.set_cons_zero] at hC5;generalize w4.setCell ⟨w.heap.size+1,2,none⟩ (.slice (some ⟨g4,0,none⟩) m m)=w5 at*;clear hC4 hR4 hA4 ho4 hv4 hb4 y2 z2;obtain ⟨r0,r1,r2,r3,r4⟩:=zC hR5
     have f0:=hR5.frozen (j:=0) (by simp [zeroC]);have f1:=hR5.frozen (j:=1) (by simp [zeroC]);have f2:=hR5.frozen (j:=2) (by simp [zeroC]);have f3:=hR5.frozen (j:=3) (by simp [zeroC]);have f4:=hR5.frozen (j:=4) (by simp [zeroC]);obtain ⟨y0,y1,y2,y3,y4⟩:=zC hC5;go_wp2_with fail;obtain ⟨e0,e1,e2,e3,e4⟩:=zC (set5 hR5 (.slice (some ⟨g2,0,none⟩) n n) (.int .i64 (kb.toNat:Int)) (.slice (some ⟨g4,0,none⟩) m m) (.int .i64 0) (.int .i64 0));refine bodyPost_ret (v:= .tuple #[.agg #[(.slice (some ⟨g2,0,none⟩) n n),.int .i64 (kb.toNat:Int),(.slice (some ⟨g4,0,none⟩) m m),.int .i64 0,.int .i64 0],.int .i64 ((at_:Int)+3+(n:Int)+2+(m:Int))]) ?_ rfl ?_
     ·simp [results,Tryz.results133,go_sem,e0,e1,e2,e3,e4]
     ·refine ⟨pB hA5 (Nat.le_refl _) _ _ _ _ _,.inr ⟨⟨(.slice (some ⟨g2,0,none⟩) n n),(.slice (some ⟨g4,0,none⟩) m m),⟨key,kb.toNat,val,0,0⟩⟩,at_+3+n+2+m,HCP4.out,rfl,by omega,by omega,?_⟩⟩;refine ⟨⟨g2,by rw [HKL.out],fun h hh=>by simp only [Value.ownBlock,Option.some.injEq] at hh;omega⟩,⟨_,by rw [HVL.out]⟩,ow5 ho5 (fun k hk=>by simp only [Value.ownBlock,Option.some.injEq] at hk;omega) _ _ _ _ _,ow5 hv5 (fun k hk=>by simp only [Value.ownBlock,Option.some.injEq] at hk;omega) _ _ _ _ _,?_,?_,?_⟩
      ·show _≤_∧_≤_
       simp only;omega
      ·show _≤_∧_≤_
       simp only;omega
      ·show _≤_∧_≤_
       simp only;omega
   ·have hkb:(((kb.toNat:Nat):Int) !=1)=true:=by simp only [bne,beq_eq_false_iff_ne.2 hk1];rfl
    have hcp:=HCP2.out;rw [if_pos hk1] at hcp;clear hk1
    by_cases h3:end_<at_+3+n+8
    ·have HP:Hid (vM b at_ end_=none):=by show _=_;rw [hcp,if_pos h3]
     have q2:(end_:Int)-((at_:Int)+3+(n:Int))<8:=by omega
     clear HCP2 hcp;go_wp2_with fail;obtain ⟨e0,e1,e2,e3,e4⟩:=zC (set5 hR3 (.slice none 0 0) (.int .i64 0) (.slice none 0 0) (.int .i64 0) (.int .i64 0));refine bodyPost_ret (v:= .tuple #[.agg #[.slice none 0 0,.int .i64 0,.slice none 0 0,.int .i64 0,.int .i64 0],.int .i64 0]) ?_ rfl ?_
     ·simp [results,Tryz.results133,go_sem,e0,e1,e2,e3,e4]
     ·exact ⟨pB hA3 (Nat.le_refl _) _ _ _ _ _,.inl ⟨HP.out,rfl⟩⟩
    ·have q2:¬(end_:Int)-((at_:Int)+3+(n:Int))<8:=by omega
     rw [if_neg h3] at hcp;have hN2:=bN 4 4 rfl (by omega) (by omega) (.slice (some ad) b.length c) b (at_+3+n) ((at_:Int)+3+(n:Int)) rfl (by omega) w3 (hv.below hA3 (Nat.le_refl _));have hN3:=bN 4 4 rfl (by omega) (by omega) (.slice (some ad) b.length c) b (at_+3+n+4) ((at_:Int)+3+(n:Int)+4) rfl (by omega) w3 (hv.below hA3 (Nat.le_refl _));have hl2:=vO b (at_+3+n) 4;have hl3:=vO b (at_+3+n+4) 4;generalize zL b (at_+3+n) 4=pn at*;generalize zL b (at_+3+n+4) 4=cn at*;have HCP3:=Lib.hid hcp;clear HCP2 hcp;go_wp2_with fail;refine hN2.mono ?_;rintro e w4 ⟨rfl,rfl⟩;go_wp2_with fail;refine hN3.mono ?_;rintro e w5 ⟨rfl,rfl⟩;clear hN2 hN3;go_upto_region 14 with (fail);have hC4:=(hC3.set 3 (.int .i64 (pn:Int))).set 4 (.int .i64 (cn:Int));have hR4:=(hR3.far (p:=⟨w.heap.size+1,3,none⟩) (show w.heap.size≠w.heap.size+1 by omega) (.int .i64 (pn:Int))).far (p:=⟨w.heap.size+1,4,none⟩) (show w.heap.size≠w.heap.size+1 by omega) (.int .i64 (cn:Int));have hA4:=(hA3.setCell (p:=⟨w.heap.size+1,3,none⟩) (show w.heap.size≤w.heap.size+1 by omega) (.int .i64 (pn:Int))).setCell (p:=⟨w.heap.size+1,4,none⟩) (show w.heap.size≤w.heap.size+1 by omega) (.int .i64 (cn:Int))
     have ho4:OwB ((w3.setCell ⟨w.heap.size+1,3,none⟩ (.int .i64 (pn:Int))).setCell ⟨w.heap.size+1,4,none⟩ (.int .i64 (cn:Int))) w.heap.size (.slice (some ⟨g2,0,none⟩) n n) key:=Own.heap ho3 fun k hk=>by
      simp only [Value.ownBlock,Option.some.injEq] at hk;subst hk;rw [Below.heap_setCell _ _ _ _ hne,Below.heap_setCell _ _ _ _ hne]
     simp only [List.set_cons_succ,List.set_cons_zero] at hC4;generalize (w3.setCell ⟨w.heap.size+1,3,none⟩ (.int .i64 (pn:Int))).setCell ⟨w.heap.size+1,4,none⟩ (.int .i64 (cn:Int))=w4 at*;clear hC3 hR3 hA3 ho3 y0 y1 y2 y3 y4 z2 z3 z4 r0 r1 r2 r3 r4 f0 f1 f2 f3 f4;obtain ⟨r0,r1,r2,r3,r4⟩:=zC hR4;have f0:=hR4.frozen (j:=0) (by simp [zeroC]);have f1:=hR4.frozen (j:=1) (by simp [zeroC]);have f2:=hR4.frozen (j:=2) (by simp [zeroC]);have f3:=hR4.frozen (j:=3) (by simp [zeroC]);have f4:=hR4.frozen (j:=4) (by simp [zeroC]);obtain ⟨y0,y1,y2,y3,y4⟩:=zC hC4;go_wp2_with fail;obtain ⟨e0,e1,e2,e3,e4⟩:=zC (set5 hR4 (.slice (some ⟨g2,0,none⟩) n n) (.int .i64 (kb.toNat:Int)) (.slice none 0 0) (.int .i64 (pn:Int)) (.int .i64 (cn:Int)));refine bodyPost_ret (v:= .tuple #[.agg #[(.slice (some ⟨g2,0,none⟩) n n),.int .i64 (kb.toNat:Int),.slice none 0 0,.int .i64 (pn:Int),.int .i64 (cn:Int)],.int .i64 ((at_:Int)+3+(n:Int)+8)]) ?_ rfl ?_
     ·simp [results,Tryz.results133,go_sem,e0,e1,e2,e3,e4]
     ·refine ⟨pB hA4 (Nat.le_refl _) _ _ _ _ _,.inr ⟨⟨(.slice (some ⟨g2,0,none⟩) n n),.slice none 0 0,⟨key,kb.toNat,[],pn,cn⟩⟩,at_+3+n+8,HCP3.out,rfl,by omega,by omega,?_⟩⟩;refine ⟨⟨g2,by rw [HKL.out],fun h hh=>by simp [Value.ownBlock] at hh⟩,⟨none,rfl⟩,ow5 ho4 (fun k hk=>by simp only [Value.ownBlock,Option.some.injEq] at hk;omega) _ _ _ _ _,OwB.nil _ _,?_,?_,?_⟩
      ·show _≤_∧_≤_
       simp only;omega
      ·show _≤_∧_≤_
       simp only;omega
      ·show _≤_∧_≤_
       simp only;omega
theorem gC (l:List CV):∀n,zF (l.take n)=(zF l).take (n*5):=by
 intro n
 have h:zF l=zF (l.take n)++zF (l.drop n):=by rw [←vK,List.take_append_drop]
 by_cases hn:n≤l.length
 ·rw [h,List.take_left'];rw [jL,List.length_take];omega
 ·rw [List.take_of_length_le (by omega),List.take_of_length_le (by rw [jL];omega)]
theorem gK (l:List CV):∀n,zF (l.drop n)=(zF l).drop (n*5):=by
 intro n
 have h:zF l=zF (l.take n)++zF (l.drop n):=by rw [←vK,List.take_append_drop]
 by_cases hn:n≤l.length
 ·rw [h,List.drop_left'];rw [jL,List.length_take];omega
 ·rw [List.drop_of_length_le (by omega),List.drop_of_length_le (by rw [jL];omega)];rfl
theorem Rd.cut5 {w:World} {A:Option Addr} {n c lo hi:Nat} {xs:List Value} (h:Rd w 5 (.slice A n c) n xs) (hlo:lo≤hi) (hhi:hi≤n):
 Rd w 5 (.slice (if c=lo then A else A.map (·.add (lo*5))) (hi-lo) (c-lo)) (hi-lo) ((xs.take (hi*5)).drop (lo*5)):=by
 obtain ⟨hl,A',c',hv,h1,h2,h3⟩:=h;injection hv with hA _ hc;subst hA;subst hc;refine ⟨by simp only [List.length_drop,List.length_take];omega,_,_,rfl,by omega,by omega,fun j u hj=> ?_⟩;rw [List.getElem?_drop,List.getElem?_take] at hj
 split at hj
 ·obtain ⟨ad,rfl,hc⟩:=h3 _ _ hj;rw [if_neg (by omega)];exact ⟨ad.add (lo*5),rfl,by rw [jW];exact hc⟩
 ·cases hj
theorem RdCs.cut {w:World} {A:Option Addr} {n c lo hi:Nat} {l:List CV} (h:RdCs w (.slice A n c) l) (hlo:lo≤hi) (hhi:hi≤l.length):
 RdCs w (.slice (if c=lo then A else A.map (·.add (lo*5))) (hi-lo) (c-lo)) ((l.take hi).drop lo):=by
 have hn:n=l.length:=by
  obtain ⟨_,A',c',hv,_⟩:=h.form;injection hv
 subst hn;refine ⟨?_,fun x hx=>h.ok x (List.mem_of_mem_take (List.mem_of_mem_drop hx))⟩
 have e:((l.take hi).drop lo).length=hi-lo:=by simp;omega
 rw [e,gK,gC];exact h.form.cut5 hlo hhi
theorem RdCs.len {w:World} {A:Option Addr} {n c:Nat} {l:List CV} (h:RdCs w (.slice A n c) l):n=l.length∧l.length≤c∧c≤9223372036854775807:=by
 obtain ⟨_,A',c',hv,h1,h2,_⟩:=h.form;injection hv with _ hn hc;subst hc;simp only [maxLen] at h2;exact ⟨hn,h1,h2⟩
theorem kU:Tryz.prog.underlying 32=some (.slice (Tryz.prog.elem 32)):=by kernel_rfl
theorem jT (w:World):(sizeOf (Tryz.prog.elem 32)).run Tryz.prog w= .ok 5 w:=by
 have he:Tryz.prog.elem 32=43:=by kernel_rfl
 rw [he];obtain ⟨i,hi,hz0,hz1,hz2⟩:=info_parts vP;simp [sizeOf,typeInfo,hi,hz1]
theorem RdCs.run_lh {w:World} {A:Option Addr} {n c:Nat} {l:List CV} (h:RdCs w (.slice A n c) l) (lo hi:Nat) (h1:lo≤hi) (h2:hi≤l.length):
 ∃A' c',(∀w',(Instr.slice 32 (.slice A n c) (some (.int .i64 (lo:Int))) (some (.int .i64 (hi:Int))) none).run Tryz.prog w'= .ok (.slice A' (hi-lo) c') w')∧RdCs w (.slice A' (hi-lo) c') ((l.take hi).drop lo):=by
 obtain ⟨_,hc,_⟩:=h.len;refine ⟨_,_,fun w'=> ?_,h.cut h1 h2⟩
 have:=run_slice_lh (P:=Tryz.prog) w' 32 A n c kU .i64 .i64 lo hi (by omega) (by omega) (by omega)
 rw [this,jT];simp [Result.andThen,sliced]
theorem RdCs.run_l {w:World} {A:Option Addr} {n c:Nat} {l:List CV} (h:RdCs w (.slice A n c) l) (lo:Nat) (h1:lo≤l.length):
 ∃A' c',(∀w',(Instr.slice 32 (.slice A n c) (some (.int .i64 (lo:Int))) none none).run Tryz.prog w'= .ok (.slice A' (l.length-lo) c') w')∧RdCs w (.slice A' (l.length-lo) c') (l.drop lo):=by
 obtain ⟨rfl,hc,_⟩:=h.len;have hr:=h.cut h1 (Nat.le_refl _);rw [List.take_length] at hr;refine ⟨_,_,fun w'=> ?_,hr⟩
 have:=run_slice_l (P:=Tryz.prog) w' 32 A l.length c kU .i64 lo (by omega) (by omega)
 rw [this,jT];simp [Result.andThen,sliced]
theorem RdCs.run_h {w:World} {A:Option Addr} {n c:Nat} {l:List CV} (h:RdCs w (.slice A n c) l) (hi:Nat) (h2:hi≤l.length):
 ∃A' c',(∀w',(Instr.slice 32 (.slice A n c) none (some (.int .i64 (hi:Int))) none).run Tryz.prog w'= .ok (.slice A' hi c') w')∧RdCs w (.slice A' hi c') (l.take hi):=by
 obtain ⟨_,hc,_⟩:=h.len;have hr:=h.cut (Nat.zero_le hi) h2;rw [List.drop_zero,Nat.sub_zero] at hr;refine ⟨_,_,fun w'=> ?_,hr⟩
 have:=run_slice_h (P:=Tryz.prog) w' 32 A n c kU .i64 hi (by omega) (by omega)
 rw [this,jT];simp [Result.andThen,sliced]
theorem RdB.oneC {w:World} {v:Value} {l:List UInt8} (h:RdB w v l):v.oneCell'=true:=by
 obtain ⟨A,c,rfl,_⟩:=h.form;rfl
theorem CV.ok.one {w:World} {x:CV} (h:x.ok w):∀u∈x.cells,u.oneCell'=true:=by
 intro u hu;simp only [CV.cells,List.mem_cons,List.not_mem_nil,or_false] at hu;rcases hu with rfl|rfl|rfl|rfl|rfl
 ·exact h.k.oneC
 ·rfl
 ·exact h.v.oneC
 ·rfl
 ·rfl
theorem vB {w:World} {l:List CV} (h:∀x∈l,x.ok w):∀u∈zF l,u.oneCell'=true:=by
 intro u hu;obtain ⟨x,hx,hux⟩:=List.mem_flatMap.1 hu;exact (h x hx).one u hux
structure OwL (w:World) (base:Nat) (v:Value) (l:List CV):Prop where
 own:Own w base 43 5 v l.length (zF l)
 ok:∀x∈l,x.ok w
theorem OwL.nil (w:World) (base:Nat):OwL w base (.slice none 0 0) []:=⟨Own.nil _ _ _ _,by simp⟩
theorem OwL.rd {w:World} {base:Nat} {v:Value} {l:List CV} (h:OwL w base v l):RdCs w v l:=⟨h.own.rd,h.ok⟩
theorem OwL.below {w w':World} {base:Nat} {v:Value} {l:List CV} (h:OwL w base v l) (hb:Below w.heap.size w w'):OwL w' base v l:=
 ⟨Own.below' h.own hb (Nat.le_refl _),fun x hx=>(h.ok x hx).below hb⟩
section laws
variable {w:World} {ops:Array Oper} {rest:List Oper} {o:Oper} {a:Act} {Q:Exit→Act→World→Prop}
theorem yP (hgd:o.guard=none) (s x:Operand)
 (ho:o.op= .call {callee:= .builtin .append,args:= #[s,x],argTypes:= #[32,32]})
 (base:Nat) (v:Value) (l:List CV) (hs:a.eval s=v) (hown:Own w base 43 5 v l.length (zF l))
 (vx:Value) (m:List CV) (hx:a.eval x=vx) (hr:Rd w 5 vx m.length (zF m)) (h1:∀u∈zF m,u.oneCell'=true) (hsm:(l.length+m.length)*72≤140737488355328) (hbase:base≤w.heap.size)
 (h:∀v' w',Own w' base 43 5 v' (l++m).length (zF (l++m))→w.grownBy w' v.ownBlock→(v'.ownBlock=v.ownBlock∨v'.ownBlock=some w.heap.size)→wpList Tryz.prog ops Q rest (a.put o.dst v') w'):
 wpList Tryz.prog ops Q (o::rest) a w:=by
 obtain ⟨i,hi,hz0,hz1,hz2⟩:=info_parts vP;refine gA hgd s x _ _ ho base 43 i _ 5 72 Tryz.underlying32 hi hz0 hz1 hz2 rfl v l.length (zF l) hs hown vx m.length (zF m) hx (Rd.src w Tryz.underlying32 (by omega) hr h1) hsm (by omega) hbase ?_;intro v' w' h1 h2 h3;refine h v' w' ?_ h2 h3;rw [List.length_append,vK];exact h1
end laws
def zKZ (k:Int):CV:=⟨.slice none 0 0,.slice none 0 0,⟨[],k,[],0,0⟩⟩
theorem aQ:∀(L:List CV) (i:Nat) (_:i<L.length) (x:CV),
 (((((zF L).set (i*5) x.kv).set (i*5+1) (.int .i64 x.c.kind)).set (i*5+2) x.vv).set (i*5+3) (.int .i64 x.c.page)).set (i*5+4) (.int .i64 x.c.count)=zF (L.set i x)
 |y::s,0,_,x=>by
  have e:zF (y::s)=y.cells++zF s:=rfl;rw [e];rfl
 |y::s,i+1,hi,x=>by
  have e:zF (y::s)=y.kv:: .int .i64 y.c.kind::y.vv:: .int .i64 y.c.page:: .int .i64 y.c.count::zF s:=rfl;have ih:=aQ s i (by simpa using hi) x;have e2:zF ((y::s).set (i+1) x)=y.kv:: .int .i64 y.c.kind::y.vv:: .int .i64 y.c.page:: .int .i64 y.c.count::zF (s.set i x):=rfl;rw [e,e2,←ih,show (i+1)*5=i*5+1+1+1+1+1 by omega];simp only [List.set_cons_succ,Nat.add_assoc,Nat.reduceAdd]
section laws
variable {w:World} {ops:Array Oper} {rest:List Oper} {o:Oper} {a:Act} {Q:Exit→Act→World→Prop}
end laws
theorem zF8 (w:World) (g k:Nat) (a b c d e:Value):w.grownBy (((((w.setCell ⟨g,k*5,none⟩ a).setCell ⟨g,k*5+1,none⟩ b).setCell ⟨g,k*5+2,none⟩ c).setCell ⟨g,k*5+3,none⟩ d).setCell ⟨g,k*5+4,none⟩ e) (some g):=
 xD (xD (xD (xD (zY _ _ _) (zY _ _ _)) (zY _ _ _)) (zY _ _ _)) (zY _ _ _)
theorem Own.ne_Tg {w:World} {b n size:Nat} {v:Value} {xs:List Value} {T T':TypeId} {g:Nat} {cs:List Value} (h:Own w b T size v n xs) (hg:OBlk w g T' cs) (hT:T≠T'):some g≠v.ownBlock:=by
 rcases h.2 with ⟨rfl,_⟩|⟨g',cap,cs',rfl,_,hg',_⟩
 ·simp [Value.ownBlock]
 ·intro e;simp [Value.ownBlock] at e;subst e;exact (hg'.ne hg hT) rfl
theorem OwB.blkU {w:World} {b:Nat} {v:Value} {l:List UInt8} (h:OwB w b v l) {k:Nat} (hk:v.ownBlock=some k):∃cs,OBlk w k 5 cs:=by
 rcases h.2 with ⟨rfl,_⟩|⟨g',cap,cs',rfl,_,hg',_⟩
 ·simp [Value.ownBlock] at hk
 ·simp [Value.ownBlock] at hk;subst hk;exact ⟨cs',hg'⟩
theorem OwCs.nil (w:World) (base:Nat):OwCs w base (.slice none 0 0) []:={own:=Own.nil _ _ _ _,each:=by simp,rng:=by simp,apart:=by simp}
theorem OwCs.rd {w:World} {base:Nat} {v:Value} {l:List CV} (h:OwCs w base v l):RdCs w v l:=
 ⟨h.own.rd,fun x hx=>{k:=(h.each x hx).1.rd,v:=(h.each x hx).2.rd,r1:=(h.rng x hx).1,r2:=(h.rng x hx).2.1,r3:=(h.rng x hx).2.2}⟩
theorem OwCs.below {w w':World} {base:Nat} {v:Value} {l:List CV} (h:OwCs w base v l) (hb:Below w.heap.size w w'):OwCs w' base v l:=
 {h with own:=Own.below' h.own hb (Nat.le_refl _),each:=fun x hx=>⟨Own.below' (h.each x hx).1 hb (Nat.le_refl _),Own.below' (h.each x hx).2 hb (Nat.le_refl _)⟩}
theorem OwCs.snoc {w w1 w2:World} {base:Nat} {v v':Value} {l:List CV} {x:CV} (h:OwCs w base v l) (hb:Below w.heap.size w w1) (hbase:base≤w.heap.size) (hk:OwB w1 w.heap.size x.kv x.c.key) (hv:OwB w1 w.heap.size x.vv x.c.val)
 (hr:yE x.c.kind∧yE x.c.page∧yE x.c.count) (ha:∀g g',x.kv.ownBlock=some g→x.vv.ownBlock=some g'→g<g') (hg:w1.grownBy w2 v.ownBlock) (ho:Own w2 base 43 5 v' (l.length+1) (zF l++x.cells)):OwCs w2 base v' (l++ [x]) where
 own:=by
  have e:zF (l++ [x])=zF l++x.cells:=by rw [vK];simp [zF]
  rw [e,List.length_append];exact ho
 each:=by
  have hown:=Own.below' h.own hb (Nat.le_refl _)
  have step:∀{u:Value} {m:List UInt8},OwB w1 base u m→OwB w2 base u m:=fun {u m} hu=>Own.grown hu hg fun g hg' e=>by
   obtain ⟨cs,hc⟩:=OwB.blkU hu hg';exact Own.ne_Tg hown hc (by decide) e
  intro y hy;rcases List.mem_append.1 hy with hy|hy
  ·exact ⟨step (Own.below' (h.each y hy).1 hb (Nat.le_refl _)),step (Own.below' (h.each y hy).2 hb (Nat.le_refl _))⟩
  ·rw [List.mem_singleton] at hy;subst hy;exact ⟨step (OwB.base_le hk fun g hg'=>Nat.le_trans hbase (Own.lt hk g hg').1),step (OwB.base_le hv fun g hg'=>Nat.le_trans hbase (Own.lt hv g hg').1)⟩
 rng:=by
  intro y hy;rcases List.mem_append.1 hy with hy|hy
  ·exact h.rng y hy
  ·rw [List.mem_singleton] at hy;subst hy;exact hr
 apart:=by
  rw [List.flatMap_append,List.filterMap_append,List.pairwise_append];refine ⟨h.apart,?_,?_⟩
  ·simp only [List.flatMap_cons,List.flatMap_nil,List.append_nil]
   cases h1:x.kv.ownBlock with
   |none=>cases h2:x.vv.ownBlock<;>simp
   |some g=>cases h2:x.vv.ownBlock with
    |none=>simp
    |some g'=>simpa using ha g g' h1 h2
  ·intro g hg1 g' hg2
   have hlt:g<w.heap.size:=by
    obtain ⟨o,ho,he⟩:=List.mem_filterMap.1 hg1;obtain ⟨y,hy,hoy⟩:=List.mem_flatMap.1 ho;simp only [id] at he;rcases List.mem_cons.1 hoy with e|e
    ·exact (Own.lt (h.each y hy).1 g (by rw [←e,he])).2
    ·rw [List.mem_singleton] at e;exact (Own.lt (h.each y hy).2 g (by rw [←e,he])).2
   have hge:w.heap.size≤g':=by
    obtain ⟨o,ho,he⟩:=List.mem_filterMap.1 hg2;simp only [List.flatMap_cons,List.flatMap_nil,List.append_nil] at ho;simp only [id] at he;rcases List.mem_cons.1 ho with e|e
    ·exact (Own.lt hk g' (by rw [←e,he])).1
    ·rw [List.mem_singleton] at e;exact (Own.lt hv g' (by rw [←e,he])).1
   omega
theorem vC {w:World} {b1 b2:Nat} {x:CV} (hk:OwB w b1 x.kv x.c.key) (hv:OwB w b2 x.vv x.c.val):∀u∈x.cells,u.oneCell'=true:=by
 have h:∀{b:Nat} {v:Value} {l:List UInt8},OwB w b v l→v.oneCell'=true:=fun {b v l} h=>by
  rcases Own.form h with ⟨rfl,_⟩|⟨_,_,rfl,_⟩<;>rfl
 intro u hu;simp only [CV.cells,List.mem_cons,List.not_mem_nil,or_false] at hu;rcases hu with rfl|rfl|rfl|rfl|rfl
 ·exact h hk
 ·rfl
 ·exact h hv
 ·rfl
 ·rfl
theorem nY (u v:Value) (a b:List UInt8) (w:World) (hu:RdB w u a) (hv:RdB w v b):
 Calls Tryz.prog 134 #[u,v] w fun e w'=>e= .returned (.bool (a==b))∧w=w':=by
 have q1:=yM hu;have q2:=yM hv;obtain ⟨A,c,rfl,_⟩:=hu.form;obtain ⟨B,d,rfl,_⟩:=hv.form;go_enter Tryz.func134,Tryz.ntmps134;go_wp2_with fail;go_ret;exact ⟨rfl,rfl⟩
def y8 (b:List UInt8) (kind:Int) (l:List PC):Prop:=zT (b.length:Int)=true∧zO kind=true∧kK kind l b.length=0∧yV kind l b.length=b
theorem kR {b:List UInt8} {kind:Int} {l:List PC} (h:y8 b kind l):cN b=some l∧vD b=kind:=by
 obtain ⟨h1,h2,h3,h4⟩:=h;have hP:=(zZ h1).2
 have:=uO (P:=b.length) (by omega) h2 h3
 rw [h4] at this;exact this
def zJ3 (w:World) (b:List UInt8) (e:Ending) (w':World):Prop:=
 Below w.heap.size w w'∧((∃(kind:Int) (l:List CV) (v:Value),y8 b kind (pcs l)∧e= .returned (.tuple #[.int .i64 kind,v,.int .i64 0])∧OwCs w' w.heap.size v l)∨
  ((∀kind l,¬y8 b kind l)∧e= .returned (.tuple #[.int .i64 0,.slice none 0 0,.int .i64 60])))
theorem aW (v:Value) (b:List UInt8) (w:World) (hv:RdB w v b):Calls Tryz.prog 75 #[v] w (zJ3 w b):=by
 obtain ⟨A,c,rfl,hm⟩:=hv.form;have hPa:=fun W=>bW (b.length:Int) (by omega) W
 cases hp:zT (b.length:Int) with
 |false=>
  have HN:Hid (∀kind l,¬y8 b kind l):=Lib.hid fun kind l h=>by have:=h.1;rw [hp] at this;cases this
  rw [hp] at hPa;clear hp;go_enter Tryz.func75,Tryz.ntmps75;go_wp2_with (first|(go_at_call 127;refine (hPa _).mono ?_;rintro e w1 ⟨rfl,rfl⟩)|fail);refine bodyPost_ret (v:= .tuple #[.int .i64 0,.slice none 0 0,.int .i64 60]) ?_ rfl ?_
  ·simp [results,Tryz.results75,go_sem]
  ·exact ⟨Below.refl _ _,.inr ⟨HN.out,rfl⟩⟩
 |true=>
  obtain ⟨hP1,hP2⟩:=zZ hp
  have hb1:512≤b.length:=by omega
  have hb2:b.length≤65536:=by omega
  have HPG:=Lib.hid hp;have HNO:Hid (∀kind l,y8 b kind l→cN b=some l∧vD b=kind):=Lib.hid fun kind l h=>kR h;rw [hp] at hPa;clear hp;have hN1:=bN 2 2 rfl (by omega) (by omega) (.slice A b.length c) b 2 2 rfl (by omega) w hv;have hN2:=bN 2 2 rfl (by omega) (by omega) (.slice A b.length c) b 4 4 rfl (by omega) w hv;have hl1:=vO b 2 2;have hl2:=vO b 4 2
  have hpf:cN b=if b.length-4<4+2*zL b 2 2 then none else k9 b (b.length-4) (fP b (zL b 2 2) (b.length-4)) (zL b 2 2):=rfl
  have hfp:∀n,fP b n (b.length-4)≤65536:=fun n=>by unfold fP;split<;>omega
  have hff:fP b (zL b 2 2) (b.length-4)=if 0<zL b 2 2 then zL b 4 2 else b.length-4:=rfl
  have hfp:=hfp (zL b 2 2);generalize zL b 2 2=n at*;generalize fP b n (b.length-4)=fp at*;have HFF:=Lib.hid hff;generalize zL b 4 2=n4 at*;obtain ⟨en,hen⟩:∃en:Nat,b.length=en+4:=⟨b.length-4,by omega⟩
  have hen2:b.length-4=en:=by omega
  rw [hen2] at hpf hff;have HPF:=Lib.hid hpf;have HEN:=Lib.hid hen
  have e1:(b.length:Int)-4=(en:Int):=by omega
  have e2:IntKind.i64.wrap (en:Int)=(en:Int):=by rw [IntKind.wrap_i64];omega
  have e3:en+4≤b.length:=by omega
  have hff':(0<n→fp=n4)∧(¬0<n→fp=en):=⟨fun h=>by rw [hff,if_pos h],fun h=>by rw [hff,if_neg h]⟩;have HF2:=Lib.hid hff';clear hpf hff HFF hff' hen hen2
  by_cases h1:en<4+2*n
  ·have HN:Hid (∀kind l,¬y8 b kind l):=Lib.hid fun kind l h=>by
    have:=(HNO.out kind l h).1
    rw [HPF.out,if_pos h1] at this
    cases this
   have i1:(en:Int)<4+2*(n:Int):=by omega
   go_enter Tryz.func75,Tryz.ntmps75;go_wp2_with (first|(go_at_call 127;refine (hPa _).mono ?_;rintro e w1 ⟨rfl,rfl⟩)|(go_at_call 132;refine hN1.mono ?_;rintro e w1 ⟨rfl,rfl⟩)|fail);refine bodyPost_ret (v:= .tuple #[.int .i64 0,.slice none 0 0,.int .i64 60]) ?_ rfl ?_
   ·simp [results,Tryz.results75,go_sem]
   ·exact ⟨Below.refl _ _,.inr ⟨HN.out,rfl⟩⟩
  ·have i1:¬(en:Int)<4+2*(n:Int):=by omega
   have HPF2:Hid (cN b=k9 b en fp n):=by show _=_;rw [HPF.out,if_neg h1]
   clear HPF;go_enter Tryz.func75,Tryz.ntmps75
   go_upto_if 30 with (first|(go_at_call 127;refine (hPa _).mono ?_;rintro e w1 ⟨rfl,rfl⟩)|(go_at_call 132;refine hN1.mono ?_;rintro e w1 ⟨rfl,rfl⟩)|fail)
   go_cut [8] (fun s wx=>s= .int .i64 (fp:Int)∧wx=w)
   case first=>
    by_cases hn0:0<n
    ·have i2:(0:Int)<(n:Int):=by omega
     go_wp2_with (first|(go_at_call 132;refine hN2.mono ?_;rintro e w1 ⟨rfl,rfl⟩)|fail);go_meet;exact ⟨by rw [HF2.out.1 hn0],rfl⟩
    ·have i2:¬(0:Int)<(n:Int):=by omega
     go_wp2_with fail;go_meet;exact ⟨by rw [HF2.out.2 hn0],rfl⟩
   case rest=>
    obtain ⟨rfl,rfl⟩:=hcut;clear hPa hN1 hN2;obtain ⟨i0,hi,hz0,hz1,hz2⟩:=info_parts vP;go_wp2_with fail
    go_loopw [7,8,34] (fun cv t i wr=>∃(k:Nat) (l:List CV) (a:Nat),k≤n∧i= .int .i64 (k:Int)∧t= .int .i64 (a:Int)∧a≤65536∧Hid (l.length=k)∧Hid (k9 b en fp n=(k9 b en a (n-k)).map (pcs l++ ·))∧OwCs wr wc.heap.size cv l∧Below wc.heap.size wc wr) (fun _ _ i _=>n-(intOf i).toNat)
    case atStart=>exact ⟨0,[],fp,Nat.zero_le _,rfl,rfl,hfp,Lib.hid rfl,Lib.hid (by simp [pcs]),OwCs.nil _ _,Below.refl _ _⟩
    case round=>
     obtain ⟨k,l,a,hk,rfl,rfl,ha,HLK,HP,hO,hB⟩:=hrel;obtain ⟨B,cc,rfl⟩:=Own.slice hO.own;rw [HLK.out] at hO;rw [HLK.out]
     by_cases hlt:k<n
     ·have ik:(k:Int)<(n:Int):=by omega
      have hstep:k9 b en a (n-k)=match vM b a en with
       |none=>none
       |some (c,t)=>(k9 b en t (n-(k+1))).map (c:: ·):=by rw [show n-k=(n-(k+1))+1 by omega];rfl
      have HST:=Lib.hid hstep;have hce:=zF2 (.slice A b.length c) b a en wr (hv.below hB (Nat.le_refl _)) hb2 (by omega) (by omega);clear hstep;go_wp2_with fail;refine hce.mono ?_;rintro e w2 ⟨hw2,⟨hno,rfl⟩|⟨x,tn,hso,rfl,htn,htp,⟨g,hkv,hgh⟩,⟨A',hvv⟩,hok,hov,hr1,hr2,hr3⟩⟩
      ·have HN:Hid (∀kind l,¬y8 b kind l):=Lib.hid fun kind l' h=>by
        have:=(HNO.out kind l' h).1
        rw [HPF2.out,HP.out,HST.out,hno] at this
        cases this
       clear hno hce;have hB2:=hB.trans (hw2.mono hB.size);go_wp2_with fail;refine bodyPost_ret (v:= .tuple #[.int .i64 0,.slice none 0 0,.int .i64 60]) ?_ rfl ?_
       ·simp [results,Tryz.results75,go_sem]
       ·exact ⟨hB2.alloc hB2.size _,.inr ⟨HN.out,rfl⟩⟩
      ·obtain ⟨kv,vv,key,ck,val,pg,ct⟩:=x;simp only at hkv hvv;subst hkv hvv
       have hP2:k9 b en fp n=(k9 b en tn (n-(k+1))).map (pcs (l++ [⟨.slice (some ⟨g,0,none⟩) key.length key.length,.slice A' val.length val.length,⟨key,ck,val,pg,ct⟩⟩])++ ·):=by
        rw [HP.out,HST.out,hso]
        show Option.map _ (Option.map _ _)=_
        rw [Option.map_map]
        congr 1
        funext z
        simp [pcs]
       have HP2:=Lib.hid hP2;unfold zJ;have htb:(((tn:Nat):Int)==0)=false:=beq_eq_false_iff_ne.2 (by omega);have hB2:=hB.trans (hw2.mono hB.size);have hA2:Below wr.heap.size wr ((w2.alloc (.cells #[.slice (some ⟨g,0,none⟩) key.length key.length,.int .i64 ck,.slice A' val.length val.length,.int .i64 pg,.int .i64 ct] 43)).alloc (.cells #[.slice (some ⟨g,0,none⟩) key.length key.length,.int .i64 ck,.slice A' val.length val.length,.int .i64 pg,.int .i64 ct] 43)):=(hw2.alloc hw2.size _).alloc (by have:=hw2.size;simp;omega) _;have hsrc:=Rd.five (w2.alloc (.cells #[.slice (some ⟨g,0,none⟩) key.length key.length,.int .i64 ck,.slice A' val.length val.length,.int .i64 pg,.int .i64 ct] 43)) (.slice (some ⟨g,0,none⟩) key.length key.length) (.int .i64 ck) (.slice A' val.length val.length) (.int .i64 pg) (.int .i64 ct) 43;rw [World.size_alloc] at hsrc;have hown2:=Own.below' hO.own hA2 (Nat.le_refl _);rw [HLK.out] at hown2;have hone:=vC hok hov;have hcz:wc.heap.size≤((w2.alloc (.cells #[.slice (some ⟨g,0,none⟩) key.length key.length,.int .i64 ck,.slice A' val.length val.length,.int .i64 pg,.int .i64 ct] 43)).alloc (.cells #[.slice (some ⟨g,0,none⟩) key.length key.length,.int .i64 ck,.slice A' val.length val.length,.int .i64 pg,.int .i64 ct] 43)).heap.size:=Nat.le_trans hB.size hA2.size
       have hok2:=Own.below' hok (((Below.refl w2.heap.size w2).alloc (Nat.le_refl _) (.cells #[.slice (some ⟨g,0,none⟩) key.length key.length,.int .i64 ck,.slice A' val.length val.length,.int .i64 pg,.int .i64 ct] 43)).alloc (by simp) (.cells #[.slice (some ⟨g,0,none⟩) key.length key.length,.int .i64 ck,.slice A' val.length val.length,.int .i64 pg,.int .i64 ct] 43)) (Nat.le_refl _);have hov2:=Own.below' hov (((Below.refl w2.heap.size w2).alloc (Nat.le_refl _) (.cells #[.slice (some ⟨g,0,none⟩) key.length key.length,.int .i64 ck,.slice A' val.length val.length,.int .i64 pg,.int .i64 ct] 43)).alloc (by simp) (.cells #[.slice (some ⟨g,0,none⟩) key.length key.length,.int .i64 ck,.slice A' val.length val.length,.int .i64 pg,.int .i64 ct] 43)) (Nat.le_refl _);clear hP2 hso hce
       go_wp2_with (first
        |(at_builtin;refine gA rfl (.tmp 45) (.tmp 47) _ _ rfl wc.heap.size 43 i0 _ 5 72 Tryz.underlying32 hi hz0 hz1 hz2 rfl _ k (zF l) rfl hown2 (.slice (some ⟨w2.heap.size+1,0,none⟩) 1 1) 1 _ rfl (Rd.src _ Tryz.underlying32 (by omega) hsrc hone) (by omega) (by omega) hcz ?_;intro v' w' ho' hg' hk';obtain ⟨B',c',rfl⟩:=Own.slice ho')
        |fail)
       refine ⟨⟨k+1,l++ [⟨.slice (some ⟨g,0,none⟩) key.length key.length,.slice A' val.length val.length,⟨key,ck,val,pg,ct⟩⟩],tn,by omega,by go_num,rfl,by omega,Lib.hid (by rw [List.length_append,HLK.out];rfl),HP2,?_,?_⟩,by simp [intOf];omega⟩
       ·exact hO.snoc hA2 hB.size hok2 hov2 ⟨hr1,hr2,hr3⟩ (fun g1 g' e1 e2=>by simp [Value.ownBlock] at e1;subst e1;exact hgh g' e2) hg' (by rw [HLK.out];exact ho')
       ·exact (hB.trans (hA2.mono hB.size)).grown hg' hcz (fun j hj=>(Own.lt hown2 j hj).1)
     ·obtain rfl:k=n:=by omega
      have hpl:cN b=some (pcs l):=by
       rw [HPF2.out,HP.out,Nat.sub_self];simp [k9]
      have HPL:=Lib.hid hpl;obtain ⟨kb,hkb⟩:∃kb,b[0]? =some kb:=⟨_,List.getElem?_eq_getElem (by omega)⟩
      have hgd:vD b=(kb.toNat:Int):=by unfold vD;rw [List.getD,hkb];rfl
      have HKF:=Lib.hid hgd;obtain ⟨ad,rfl,hcb⟩:=(hv.below hB (Nat.le_refl _)).at_ (j:=0) (by omega)
      have hcb':wr.cell? ad=some (.int .u8 (kb.toNat:Int)):=by
       rw [List.getElem?_eq_getElem (by omega)] at hkb;rw [←Option.some.inj hkb]
       have:=hcb
       rw [show ad.add 0=ad from rfl] at this;exact this
      have hkl:=kb.toNat_lt
      have hkw:IntKind.i64.wrap ((kb.toNat:Nat):Int)=((kb.toNat:Nat):Int):=by rw [IntKind.wrap_i64];omega
      have j1:(0:Int)<(b.length:Int):=by omega
      have j2:0<b.length:=by omega
      have hrd:=hO.rd;have hE:=o6 (kb.toNat:Int) _ l (b.length:Int) (by unfold yE;omega) wr hrd (by rw [HLK.out];omega);have hEQ:=fun v' (a':List UInt8) W (hW:Below wc.heap.size wc W) (h':RdB W v' a')=>nY v' (.slice (some ad) b.length c) a' b W h' (hv.below hW (Nat.le_refl _));have HISP:Hid (zT (b.length:Int)=true):=HPG;clear hcb hkb hgd hpl hrd hkl;go_wp2_with fail;refine hE.mono ?_;unfold zEV;simp only [Int.toNat_natCast];rintro e w2 ⟨hw2,⟨hf,rfl⟩|⟨ht,⟨hne,rfl⟩|⟨hz,g,rfl,hg,hbk⟩⟩⟩
      ·have HN:Hid (∀kind l,¬y8 b kind l):=Lib.hid fun kind l' h=>by
        have h1:=(HNO.out kind l' h).2;have h2:=h.2.1;rw [HKF.out] at h1;rw [←h1] at h2;rw [h2,HISP.out] at hf
        cases hf
       have hB2:=hB.trans (hw2.mono hB.size);clear hf hE hEQ;go_wp2_with fail;refine bodyPost_ret (v:= .tuple #[.int .i64 0,.slice none 0 0,.int .i64 60]) ?_ rfl ?_
       ·simp [results,Tryz.results75,go_sem]
       ·exact ⟨hB2,.inr ⟨HN.out,rfl⟩⟩
      ·have HN:Hid (∀kind l,¬y8 b kind l):=Lib.hid fun kind l' h=>by
        have h1:=HNO.out kind l' h;rw [HKF.out,HPL.out] at h1;obtain ⟨h1,h2⟩:=h1;injection h1 with h1;have h3:=h.2.2.1;rw [←h1,←h2] at h3;exact hne h3
       have hB2:=hB.trans (hw2.mono hB.size)
       have hnb:(kK (kb.toNat:Int) (pcs l) b.length !=0)=true:=by simp only [bne,beq_eq_false_iff_ne.2 hne];rfl
       generalize kK (kb.toNat:Int) (pcs l) b.length=ee at*;clear hne hE hEQ ht;go_wp2_with fail;refine bodyPost_ret (v:= .tuple #[.int .i64 0,.slice none 0 0,.int .i64 60]) ?_ rfl ?_
       ·simp [results,Tryz.results75,go_sem]
       ·exact ⟨hB2,.inr ⟨HN.out,rfl⟩⟩
      ·have hB2:=hB.trans (hw2.mono hB.size);have hll:(yV (kb.toNat:Int) (pcs l) b.length).length=b.length:=kF (vS.1 hz).2;have hEQ2:=hEQ _ _ w2 hB2 (hbk.rdB hll (by omega))
       have hisk:zO (kb.toNat:Int)=true:=by
        rw [Bool.and_eq_true] at ht;exact ht.1
       have HZ:=Lib.hid hz;have hO2:=hO.below hw2;rcases Bool.eq_false_or_eq_true (yV (kb.toNat:Int) (pcs l) b.length==b) with hq|hq
       ·rw [hq] at hEQ2;have HY:Hid (y8 b (kb.toNat:Int) (pcs l)):=Lib.hid ⟨HISP.out,hisk,HZ.out,eq_of_beq hq⟩;clear hq hE hEQ ht hz hll hbk hisk;go_wp2_with fail;refine hEQ2.mono ?_;rintro e w3 ⟨rfl,rfl⟩;go_wp2_with fail;refine bodyPost_ret (v:= .tuple #[.int .i64 (kb.toNat:Int),.slice B k cc,.int .i64 0]) ?_ rfl ?_
        ·simp [results,Tryz.results75,go_sem]
        ·exact ⟨hB2,.inl ⟨_,l,_,HY.out,rfl,hO2⟩⟩
       ·rw [hq] at hEQ2
        have HN:Hid (∀kind l,¬y8 b kind l):=Lib.hid fun kind l' h=>by
         have h1:=HNO.out kind l' h;rw [HKF.out,HPL.out] at h1;obtain ⟨h1,h2⟩:=h1;injection h1 with h1;have h3:=h.2.2.2;rw [←h1,←h2] at h3;rw [h3] at hq;simp at hq
        clear hq hE hEQ ht hz hll hbk hisk;go_wp2_with fail;refine hEQ2.mono ?_;rintro e w3 ⟨rfl,rfl⟩;go_wp2_with fail;refine bodyPost_ret (v:= .tuple #[.int .i64 0,.slice none 0 0,.int .i64 60]) ?_ rfl ?_
        ·simp [results,Tryz.results75,go_sem]
        ·exact ⟨hB2,.inr ⟨HN.out,rfl⟩⟩
theorem sJ (v:Value) (l:List UInt8) (w:World) (hv:RdB w v l) (hl:l.length≤140737488355328):
 Calls Tryz.prog 211 #[v] w fun e w'=>∃v',e= .returned v'∧OwB w' w.heap.size v' l∧Below w.heap.size w w':=by
 obtain ⟨A,c,rfl,hm⟩:=hv.form;have q22:∀(w:World) (a:Option Addr) (n c n' c':Nat),(binOp .eql 41 (.slice a n c) (.slice none n' c')).run Tryz.prog w= .ok (.bool a.isNone) w:=fun w a n c n' c'=>Lib.run_eql_slice_nil w _ _ a n c n' c' Tryz.underlying41
 cases A with
 |none=>
  have:l= []:=by
   cases l with
   |nil=>rfl
   |cons x r=>obtain ⟨ad,h,_⟩:=hv.at_ (j:=0) (by simp);cases h
  subst this;go_enter Tryz.func211,Tryz.ntmps211;go_wp2_with fail;go_ret;exact ⟨_,rfl,OwB.nil _ _,Below.refl _ _⟩
 |some ad=>
  go_enter Tryz.func211,Tryz.ntmps211
  have hbase:OwB (w.alloc (.cells #[] 5)) w.heap.size (.slice (some ⟨w.heap.size,0,none⟩) 0 0) []:=by
   have:=(OBlk.new' w 5 []).owB' (base:=w.heap.size) (m:= []) (Nat.le_refl _) (by simp)
   exact this
  go_wp2_with (first
   |(at_builtin;refine yG rfl (.tmp 5) (.tmp 6) rfl w.heap.size _ [] rfl hbase _ l rfl (hv.alloc _) (by simp;omega) (by simp) ?_;intro v' w' ho hg hbk)
   |fail)
  go_ret;exact ⟨v',rfl,ho,((Below.refl w.heap.size w).alloc (Nat.le_refl _) _).grown hg (by simp) (fun k hk=>Nat.le_of_eq (Option.some.inj hk))⟩
end Go.Proofs.YtfcnkpofcekmgaaGreat
