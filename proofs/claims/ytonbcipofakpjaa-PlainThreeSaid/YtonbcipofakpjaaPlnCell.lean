/- plain.cell: the walk. -/
import Derived.Test.YtonbcipofakpjaaPlnEnc
namespace Go.Proofs.Ytonbcipofakpjaa
open Go.RowKit
theorem set5 {w : World} {g : Nat} {T : TypeId} {b0 b1 b2 b3 b4 : Value} (h : OBlk w g T [b0, b1, b2, b3, b4]) (a0 a1 a2 a3 a4 : Value) :
    OBlk (((((w.setCell ⟨g, 0, none⟩ a0).setCell ⟨g, 1, none⟩ a1).setCell ⟨g, 2, none⟩ a2).setCell ⟨g, 3, none⟩ a3).setCell ⟨g, 4, none⟩ a4) g T [a0, a1, a2, a3, a4] := ((((h.set 0 a0).set 1 a1).set 2 a2).set 3 a3).set 4 a4
theorem below5 {B g : Nat} {w0 w : World} (h : Below B w0 w) (hg : B ≤ g) (a0 a1 a2 a3 a4 : Value) :
    Below B w0 (((((w.setCell ⟨g, 0, none⟩ a0).setCell ⟨g, 1, none⟩ a1).setCell ⟨g, 2, none⟩ a2).setCell ⟨g, 3, none⟩ a3).setCell ⟨g, 4, none⟩ a4) := ((((h.setCell (p := ⟨g, 0, none⟩) hg a0).setCell (p := ⟨g, 1, none⟩) hg a1).setCell (p := ⟨g, 2, none⟩) hg a2).setCell (p := ⟨g, 3, none⟩) hg a3).setCell (p := ⟨g, 4, none⟩) hg a4
theorem ow5 {w : World} {b g : Nat} {v : Value} {l : List UInt8} (h : OwB w b v l) (hg : ∀ k, v.ownBlock = some k → k ≠ g) (a0 a1 a2 a3 a4 : Value) :
    OwB (((((w.setCell ⟨g, 0, none⟩ a0).setCell ⟨g, 1, none⟩ a1).setCell ⟨g, 2, none⟩ a2).setCell ⟨g, 3, none⟩ a3).setCell ⟨g, 4, none⟩ a4) b v l :=
  Own.heap h fun k hk => by
    have hne := hg k hk
    iterate 5 rw [Below.heap_setCell _ _ _ _ (by exact hne)]
def zeroC : List Value := [.slice none 0 0, .int .i64 0, .slice none 0 0, .int .i64 0, .int .i64 0]
def CellAt (w : World) (b : List UInt8) (at_ end_ : Nat) (e : Ending) (w' : World) : Prop :=
  Below w.heap.size w w' ∧ ((cellP b at_ end_ = none ∧ e = .returned (.tuple #[.agg #[.slice none 0 0, .int .i64 0, .slice none 0 0, .int .i64 0, .int .i64 0], .int .i64 0])) ∨
    ∃ (x : CV) (tn : Nat), cellP b at_ end_ = some (x.c, tn) ∧ e = .returned (.tuple #[cellV x, .int .i64 (tn : Int)]) ∧ tn ≤ end_ ∧ 0 < tn ∧ (∃ g, x.kv = .slice (some ⟨g, 0, none⟩) x.c.key.length x.c.key.length ∧ ∀ h, x.vv.ownBlock = some h → g < h) ∧ (∃ A, x.vv = .slice A x.c.val.length x.c.val.length) ∧ OwB w' w.heap.size x.kv x.c.key ∧ OwB w' w.heap.size x.vv x.c.val ∧ i64r x.c.kind ∧ i64r x.c.page ∧ i64r x.c.count)
theorem numAt_lt (b : List UInt8) (at_ w : Nat) : numAt b at_ w < 256 ^ w := by
  unfold numAt
  refine Nat.lt_of_lt_of_le (numF_lt _) (Nat.pow_le_pow_right (by omega) (by simp; omega))
theorem number_w (wd : Nat) (D : Int) (hD : D = (wd : Int)) (h1 : 1 ≤ wd) (h4 : wd ≤ 4) (v : Value) (b : List UInt8) (at_ : Nat) (X : Int) (hX : X = (at_ : Int)) (ha : at_ + wd ≤ b.length) (w : World) (hv : RdB w v b) : Calls Try.prog 56 #[v, .int .i64 X, .int .i64 D] w fun e w' => e = .returned (.int .i64 (numAt b at_ wd : Nat)) ∧ w = w' := by
  subst hX hD
  exact number_any v b at_ wd h1 h4 ha w hv
theorem part_w (v : Value) (b : List UInt8) (at_ n : Nat) (X N : Int) (hX : X = (at_ : Int)) (hN : N = (n : Int)) (ha : at_ + n ≤ b.length) (hb : b.length ≤ 140737488355328) (w : World) (hv : RdB w v b) :
    Calls Try.prog 81 #[v, .int .i64 X, .int .i64 N] w fun e w' => ∃ g, e = .returned (.slice (some ⟨g, 0, none⟩) n n) ∧ g = w.heap.size ∧ OwB w' w.heap.size (.slice (some ⟨g, 0, none⟩) n n) ((b.drop at_).take n) ∧ Below w.heap.size w w' := by
  subst hX hN
  exact part_any v b at_ n ha hb w hv
set_option maxRecDepth 100000 in
set_option maxHeartbeats 8000000 in
theorem cell_any (v : Value) (b : List UInt8) (at_ end_ : Nat) (w : World) (hv : RdB w v b) (hb : b.length ≤ 65536) (he : end_ ≤ b.length) (ha : at_ ≤ 131072) :
    Calls Try.prog 57 #[v, .int .i64 (at_ : Int), .int .i64 (end_ : Int)] w (CellAt w b at_ end_) := by
  have hR0 : OBlk (w.alloc (.cells #[.slice none 0 0, .int .i64 0, .slice none 0 0, .int .i64 0, .int .i64 0] 32)) w.heap.size 32 zeroC := OBlk.new' w _ zeroC
  have hA0 : Below w.heap.size w (w.alloc (.cells #[.slice none 0 0, .int .i64 0, .slice none 0 0, .int .i64 0, .int .i64 0] 32)) := (Below.refl _ _).alloc (Nat.le_refl _) _
  obtain ⟨A, c, rfl, hm⟩ := hv.form
  have i2 : IntKind.i64.wrap ((end_ : Int) - (at_ : Int)) = (end_ : Int) - (at_ : Int) := by rw [IntKind.wrap_i64]; omega
  by_cases h1 : end_ < at_ + 3
  · have HP : Hid (cellP b at_ end_ = none) := by show _ = _; unfold cellP; rw [if_pos h1]
    have i1 : ((end_ : Int) - (at_ : Int)) < 3 := by omega
    obtain ⟨r0, r1, r2, r3, r4⟩ := cells5 hR0
    have f0 := hR0.frozen (j := 0) (by simp [zeroC]); have f1 := hR0.frozen (j := 1) (by simp [zeroC]); have f2 := hR0.frozen (j := 2) (by simp [zeroC]); have f3 := hR0.frozen (j := 3) (by simp [zeroC]); have f4 := hR0.frozen (j := 4) (by simp [zeroC])
    go_enter Try.func57, Try.ntmps57
    go_wp2_with fail
    refine bodyPost_ret (v := .tuple #[.agg #[.slice none 0 0, .int .i64 0, .slice none 0 0, .int .i64 0, .int .i64 0], .int .i64 0]) ?_ rfl ?_
    · simp [results, Try.results57, go_sem, r0, r1, r2, r3, r4]
    · exact ⟨hA0, .inl ⟨HP.out, rfl⟩⟩
  · have i1 : ¬ ((end_ : Int) - (at_ : Int)) < 3 := by omega
    obtain ⟨kb, hkb⟩ : ∃ kb, b[at_]? = some kb := ⟨_, List.getElem?_eq_getElem (by omega)⟩
    have hgd : b.getD at_ 0 = kb := by rw [List.getD, hkb]; rfl
    obtain ⟨ad, rfl, hcb⟩ := (hv.below hA0 (Nat.le_refl _)).at_ (j := at_) (by omega)
    have hcb' : (w.alloc (.cells #[.slice none 0 0, .int .i64 0, .slice none 0 0, .int .i64 0, .int .i64 0] 32)).cell? (ad.add at_) = some (.int .u8 (kb.toNat : Int)) := by
      rw [hcb]
      rw [List.getElem?_eq_getElem (by omega)] at hkb
      rw [Option.some.inj hkb]
    have j1 : (at_ : Int) < (b.length : Int) := by omega
    have j2 : at_ < b.length := by omega
    have hkl := kb.toNat_lt
    have hn := numAt_lt b (at_ + 1) 2
    have hcp : cellP b at_ end_ = (if end_ < at_ + 3 + (numAt b (at_ + 1) 2) + 2 then none
      else if ((kb.toNat : Nat) : Int) ≠ 1 then
        if end_ < at_ + 3 + (numAt b (at_ + 1) 2) + 8 then none
        else some (⟨(b.drop (at_ + 3)).take (numAt b (at_ + 1) 2), (kb.toNat : Nat), [], (numAt b (at_ + 3 + (numAt b (at_ + 1) 2)) 4 : Nat), (numAt b (at_ + 3 + (numAt b (at_ + 1) 2) + 4) 4 : Nat)⟩, at_ + 3 + (numAt b (at_ + 1) 2) + 8)
      else
        if end_ < at_ + 3 + (numAt b (at_ + 1) 2) + 2 + numAt b (at_ + 3 + (numAt b (at_ + 1) 2)) 2 then none
        else some (⟨(b.drop (at_ + 3)).take (numAt b (at_ + 1) 2), (kb.toNat : Nat), (b.drop (at_ + 3 + (numAt b (at_ + 1) 2) + 2)).take (numAt b (at_ + 3 + (numAt b (at_ + 1) 2)) 2), 0, 0⟩, at_ + 3 + (numAt b (at_ + 1) 2) + 2 + numAt b (at_ + 3 + (numAt b (at_ + 1) 2)) 2)) := by
      rw [cellP, if_neg h1, hgd]
    have hN1 := fun W hW => number_w 2 2 rfl (by omega) (by omega) (.slice (some ad) b.length c) b (at_ + 1) ((at_ : Int) + 1) rfl (by omega) W hW
    generalize numAt b (at_ + 1) 2 = n at *
    have HCP := Lib.hid hcp
    have hC1 := OBlk.new' (w.alloc (.cells #[.slice none 0 0, .int .i64 0, .slice none 0 0, .int .i64 0, .int .i64 0] 32)) 32 [.slice none 0 0, .int .i64 (kb.toNat : Int), .slice none 0 0, .int .i64 0, .int .i64 0]
    have hR1 := hR0.alloc (.cells #[.slice none 0 0, .int .i64 (kb.toNat : Int), .slice none 0 0, .int .i64 0, .int .i64 0] 32)
    have hA1 := hA0.alloc hA0.size (.cells #[.slice none 0 0, .int .i64 (kb.toNat : Int), .slice none 0 0, .int .i64 0, .int .i64 0] 32)
    rw [World.size_alloc] at hC1
    have hkw : IntKind.i64.wrap ((kb.toNat : Nat) : Int) = ((kb.toNat : Nat) : Int) := by rw [IntKind.wrap_i64]; omega
    clear hcp hcb hkb hgd
    go_enter Try.func57, Try.ntmps57
    go_wp2_with fail
    refine (hN1 _ (hv.below hA1 (Nat.le_refl _))).mono ?_
    rintro e w1 ⟨rfl, rfl⟩
    generalize (w.alloc (.cells #[.slice none 0 0, .int .i64 0, .slice none 0 0, .int .i64 0, .int .i64 0] 32)).alloc (.cells #[.slice none 0 0, .int .i64 (kb.toNat : Int), .slice none 0 0, .int .i64 0, .int .i64 0] 32) = w1 at *
    clear hN1 hcb' hR0 hA0 i1 i2 j1 j2
    have hz1 := hC1.lt
    obtain ⟨r0, r1, r2, r3, r4⟩ := cells5 hR1
    have f0 := hR1.frozen (j := 0) (by simp [zeroC]); have f1 := hR1.frozen (j := 1) (by simp [zeroC]); have f2 := hR1.frozen (j := 2) (by simp [zeroC]); have f3 := hR1.frozen (j := 3) (by simp [zeroC]); have f4 := hR1.frozen (j := 4) (by simp [zeroC])
    have q1 : IntKind.i64.wrap ((end_ : Int) - ((at_ : Int) + 3)) = (end_ : Int) - ((at_ : Int) + 3) := by rw [IntKind.wrap_i64]; omega
    by_cases h2 : end_ < at_ + 3 + n + 2
    · have HP : Hid (cellP b at_ end_ = none) := by show _ = _; rw [HCP.out, if_pos h2]
      have q2 : (end_ : Int) - ((at_ : Int) + 3) < (n : Int) + 2 := by omega
      clear HCP
      go_wp2_with fail
      obtain ⟨e0, e1, e2, e3, e4⟩ := cells5 (set5 hR1 (.slice none 0 0) (.int .i64 0) (.slice none 0 0) (.int .i64 0) (.int .i64 0))
      refine bodyPost_ret (v := .tuple #[.agg #[.slice none 0 0, .int .i64 0, .slice none 0 0, .int .i64 0, .int .i64 0], .int .i64 0]) ?_ rfl ?_
      · simp [results, Try.results57, go_sem, e0, e1, e2, e3, e4]
      · exact ⟨below5 hA1 (Nat.le_refl _) _ _ _ _ _, .inl ⟨HP.out, rfl⟩⟩
    · have q2 : ¬ (end_ : Int) - ((at_ : Int) + 3) < (n : Int) + 2 := by omega
      have hcp := HCP.out
      rw [if_neg h2] at hcp
      have hpt := part_w (.slice (some ad) b.length c) b (at_ + 3) n ((at_ : Int) + 3) n rfl rfl (by omega) (by omega) w1 (hv.below hA1 (Nat.le_refl _))
      have z0 := hC1.frozen (j := 0) (by simp)
      have y0 := hC1.cell' (j := 0) (u := .slice none 0 0) rfl
      have y1 := hC1.cell' (j := 1) (u := .int .i64 (kb.toNat : Int)) rfl
      have hKL : ((b.drop (at_ + 3)).take n).length = n := by simp; omega
      have HKL := Lib.hid hKL
      generalize (b.drop (at_ + 3)).take n = key at *
      have HCP2 := Lib.hid hcp
      clear HCP hcp hKL r0 r1 r2 r3 r4 f0 f1 f2 f3 f4
      go_wp2_with fail
      refine hpt.mono ?_
      rintro e w2 ⟨g2, rfl, hg2, ho2, hb2⟩
      have hC2 := hC1.below hb2 hz1
      have hR2 := hR1.below hb2 hR1.lt
      have hA2 := hA1.trans (hb2.mono hA1.size)
      have z0 := hC2.frozen (j := 0) (by simp)
      have y0 := hC2.cell' (j := 0) (u := .slice none 0 0) rfl
      have hne : g2 ≠ w.heap.size + 1 := by omega
      have hgw : w1.heap.size ≤ g2 := by omega
      clear hg2
      clear hpt hC1 hR1 hA1 z0 y0 y1
      have z0 := hC2.frozen (j := 0) (by simp)
      have y0 := hC2.cell' (j := 0) (u := .slice none 0 0) rfl
      go_upto_region 9 with (fail)
      have hC3 := hC2.set 0 (.slice (some ⟨g2, 0, none⟩) n n)
      have hR3 := hR2.far (p := ⟨w.heap.size + 1, 0, none⟩) (show w.heap.size ≠ w.heap.size + 1 by omega) (.slice (some ⟨g2, 0, none⟩) n n)
      have hA3 := hA2.setCell (p := ⟨w.heap.size + 1, 0, none⟩) (show w.heap.size ≤ w.heap.size + 1 by omega) (.slice (some ⟨g2, 0, none⟩) n n)
      have ho3 : OwB (w2.setCell ⟨w.heap.size + 1, 0, none⟩ (.slice (some ⟨g2, 0, none⟩) n n)) w.heap.size (.slice (some ⟨g2, 0, none⟩) n n) key := Own.heap (OwB.base_le ho2 (b := w.heap.size) fun k hk => by simp only [Value.ownBlock, if_true, Option.some.injEq] at hk; omega) fun k hk => Below.heap_setCell _ _ _ _ (by simp only [Value.ownBlock, if_true, Option.some.injEq] at hk; subst hk; exact hne)
      have hz3 : g2 < (w2.setCell ⟨w.heap.size + 1, 0, none⟩ (.slice (some ⟨g2, 0, none⟩) n n)).heap.size := (Own.lt ho3 g2 rfl).2
      simp only [List.set_cons_zero] at hC3
      generalize w2.setCell ⟨w.heap.size + 1, 0, none⟩ (.slice (some ⟨g2, 0, none⟩) n n) = w3 at *
      clear hC2 hR2 hA2 ho2 hb2 z0 y0
      obtain ⟨r0, r1, r2, r3, r4⟩ := cells5 hR3
      have f0 := hR3.frozen (j := 0) (by simp [zeroC]); have f1 := hR3.frozen (j := 1) (by simp [zeroC]); have f2 := hR3.frozen (j := 2) (by simp [zeroC]); have f3 := hR3.frozen (j := 3) (by simp [zeroC]); have f4 := hR3.frozen (j := 4) (by simp [zeroC])
      obtain ⟨y0, y1, y2, y3, y4⟩ := cells5 hC3
      have z2 := hC3.frozen (j := 2) (by simp); have z3 := hC3.frozen (j := 3) (by simp); have z4 := hC3.frozen (j := 4) (by simp)
      have q3 : IntKind.i64.wrap ((end_ : Int) - ((at_ : Int) + 3 + (n : Int))) = (end_ : Int) - ((at_ : Int) + 3 + (n : Int)) := by rw [IntKind.wrap_i64]; omega
      clear q1 q2
      by_cases hk1 : ((kb.toNat : Nat) : Int) = 1
      · have hkb : (((kb.toNat : Nat) : Int) != 1) = false := by simp [hk1]
        have hcp := HCP2.out
        rw [if_neg (by simp [hk1])] at hcp
        have hN2 := number_w 2 2 rfl (by omega) (by omega) (.slice (some ad) b.length c) b (at_ + 3 + n) ((at_ : Int) + 3 + (n : Int)) rfl (by omega) w3 (hv.below hA3 (Nat.le_refl _))
        have hl2 := numAt_lt b (at_ + 3 + n) 2
        generalize numAt b (at_ + 3 + n) 2 = m at *
        have q4 : IntKind.i64.wrap ((end_ : Int) - ((at_ : Int) + 3 + (n : Int) + 2)) = (end_ : Int) - ((at_ : Int) + 3 + (n : Int) + 2) := by rw [IntKind.wrap_i64]; omega
        have HK1 := Lib.hid hk1
        have HCP3 := Lib.hid hcp
        clear HCP2 hcp hk1
        go_wp2_with fail
        refine hN2.mono ?_
        rintro e w4 ⟨rfl, rfl⟩
        clear hN2
        by_cases h3 : end_ < at_ + 3 + n + 2 + m
        · have HP : Hid (cellP b at_ end_ = none) := by show _ = _; rw [HCP3.out, if_pos h3]
          have q2 : (end_ : Int) - ((at_ : Int) + 3 + (n : Int) + 2) < (m : Int) := by omega
          clear HCP3
          go_wp2_with fail
          obtain ⟨e0, e1, e2, e3, e4⟩ := cells5 (set5 hR3 (.slice none 0 0) (.int .i64 0) (.slice none 0 0) (.int .i64 0) (.int .i64 0))
          refine bodyPost_ret (v := .tuple #[.agg #[.slice none 0 0, .int .i64 0, .slice none 0 0, .int .i64 0, .int .i64 0], .int .i64 0]) ?_ rfl ?_
          · simp [results, Try.results57, go_sem, e0, e1, e2, e3, e4]
          · exact ⟨below5 hA3 (Nat.le_refl _) _ _ _ _ _, .inl ⟨HP.out, rfl⟩⟩
        · have q2 : ¬ (end_ : Int) - ((at_ : Int) + 3 + (n : Int) + 2) < (m : Int) := by omega
          have hcp := HCP3.out
          rw [if_neg h3] at hcp
          have hpt := part_w (.slice (some ad) b.length c) b (at_ + 3 + n + 2) m ((at_ : Int) + 3 + (n : Int) + 2) m rfl rfl (by omega) (by omega) w3 (hv.below hA3 (Nat.le_refl _))
          have hVL : ((b.drop (at_ + 3 + n + 2)).take m).length = m := by simp; omega
          have HVL := Lib.hid hVL
          generalize (b.drop (at_ + 3 + n + 2)).take m = val at *
          have HCP4 := Lib.hid hcp
          clear HCP3 hcp hVL
          go_wp2_with fail
          refine hpt.mono ?_
          rintro e w4 ⟨g4, rfl, hg4, hv4, hb4⟩
          have hC4 := hC3.below hb4 hC3.lt
          have hR4 := hR3.below hb4 hR3.lt
          have hA4 := hA3.trans (hb4.mono hA3.size)
          have ho4 := Own.below' ho3 hb4 (Nat.le_refl _)
          have hzC := hC3.lt
          have hne4 : g4 ≠ w.heap.size + 1 := by omega
          have hgw4 : w3.heap.size ≤ g4 := by omega
          clear hg4 hpt hC3 hR3 hA3 ho3 y0 y1 y2 y3 y4 z2 z3 z4 r0 r1 r2 r3 r4 f0 f1 f2 f3 f4
          have y2 := hC4.cell' (j := 2) (u := .slice none 0 0) rfl
          have z2 := hC4.frozen (j := 2) (by simp)
          go_upto_region 20 with (fail)
          have hC5 := hC4.set 2 (.slice (some ⟨g4, 0, none⟩) m m)
          have hR5 := hR4.far (p := ⟨w.heap.size + 1, 2, none⟩) (show w.heap.size ≠ w.heap.size + 1 by omega) (.slice (some ⟨g4, 0, none⟩) m m)
          have hA5 := hA4.setCell (p := ⟨w.heap.size + 1, 2, none⟩) (show w.heap.size ≤ w.heap.size + 1 by omega) (.slice (some ⟨g4, 0, none⟩) m m)
          have ho5 : OwB (w4.setCell ⟨w.heap.size + 1, 2, none⟩ (.slice (some ⟨g4, 0, none⟩) m m)) w.heap.size (.slice (some ⟨g2, 0, none⟩) n n) key := Own.heap ho4 fun k hk => Below.heap_setCell _ _ _ _ (by simp only [Value.ownBlock, if_true, Option.some.injEq] at hk; subst hk; exact hne)
          have hv5 : OwB (w4.setCell ⟨w.heap.size + 1, 2, none⟩ (.slice (some ⟨g4, 0, none⟩) m m)) w.heap.size (.slice (some ⟨g4, 0, none⟩) m m) val := Own.heap (OwB.base_le hv4 (b := w.heap.size) fun k hk => by simp only [Value.ownBlock, if_true, Option.some.injEq] at hk; omega) fun k hk => Below.heap_setCell _ _ _ _ (by simp only [Value.ownBlock, if_true, Option.some.injEq] at hk; subst hk; exact hne4)
          simp only [List.set_cons_succ, List.set_cons_zero] at hC5
          generalize w4.setCell ⟨w.heap.size + 1, 2, none⟩ (.slice (some ⟨g4, 0, none⟩) m m) = w5 at *
          clear hC4 hR4 hA4 ho4 hv4 hb4 y2 z2
          obtain ⟨r0, r1, r2, r3, r4⟩ := cells5 hR5
          have f0 := hR5.frozen (j := 0) (by simp [zeroC]); have f1 := hR5.frozen (j := 1) (by simp [zeroC]); have f2 := hR5.frozen (j := 2) (by simp [zeroC]); have f3 := hR5.frozen (j := 3) (by simp [zeroC]); have f4 := hR5.frozen (j := 4) (by simp [zeroC])
          obtain ⟨y0, y1, y2, y3, y4⟩ := cells5 hC5
          go_wp2_with fail
          obtain ⟨e0, e1, e2, e3, e4⟩ := cells5 (set5 hR5 (.slice (some ⟨g2, 0, none⟩) n n) (.int .i64 (kb.toNat : Int)) (.slice (some ⟨g4, 0, none⟩) m m) (.int .i64 0) (.int .i64 0))
          refine bodyPost_ret (v := .tuple #[.agg #[(.slice (some ⟨g2, 0, none⟩) n n), .int .i64 (kb.toNat : Int), (.slice (some ⟨g4, 0, none⟩) m m), .int .i64 0, .int .i64 0], .int .i64 ((at_ : Int) + 3 + (n : Int) + 2 + (m : Int))]) ?_ rfl ?_
          · simp [results, Try.results57, go_sem, e0, e1, e2, e3, e4]
          · refine ⟨below5 hA5 (Nat.le_refl _) _ _ _ _ _, .inr ⟨⟨(.slice (some ⟨g2, 0, none⟩) n n), (.slice (some ⟨g4, 0, none⟩) m m), ⟨key, kb.toNat, val, 0, 0⟩⟩, at_ + 3 + n + 2 + m, HCP4.out, rfl, by omega, by omega, ?_⟩⟩
            refine ⟨⟨g2, by rw [HKL.out], fun h hh => by simp only [Value.ownBlock, if_true, Option.some.injEq] at hh; omega⟩, ⟨_, by rw [HVL.out]⟩, ow5 ho5 (fun k hk => by simp only [Value.ownBlock, if_true, Option.some.injEq] at hk; omega) _ _ _ _ _, ow5 hv5 (fun k hk => by simp only [Value.ownBlock, if_true, Option.some.injEq] at hk; omega) _ _ _ _ _, ?_, ?_, ?_⟩
            · show _ ≤ _ ∧ _ ≤ _
              simp only
              omega
            · show _ ≤ _ ∧ _ ≤ _
              simp only
              omega
            · show _ ≤ _ ∧ _ ≤ _
              simp only
              omega
      · have hkb : (((kb.toNat : Nat) : Int) != 1) = true := by simp only [bne, beq_eq_false_iff_ne.2 hk1]; rfl
        have hcp := HCP2.out
        rw [if_pos hk1] at hcp
        clear hk1
        by_cases h3 : end_ < at_ + 3 + n + 8
        · have HP : Hid (cellP b at_ end_ = none) := by show _ = _; rw [hcp, if_pos h3]
          have q2 : (end_ : Int) - ((at_ : Int) + 3 + (n : Int)) < 8 := by omega
          clear HCP2 hcp
          go_wp2_with fail
          obtain ⟨e0, e1, e2, e3, e4⟩ := cells5 (set5 hR3 (.slice none 0 0) (.int .i64 0) (.slice none 0 0) (.int .i64 0) (.int .i64 0))
          refine bodyPost_ret (v := .tuple #[.agg #[.slice none 0 0, .int .i64 0, .slice none 0 0, .int .i64 0, .int .i64 0], .int .i64 0]) ?_ rfl ?_
          · simp [results, Try.results57, go_sem, e0, e1, e2, e3, e4]
          · exact ⟨below5 hA3 (Nat.le_refl _) _ _ _ _ _, .inl ⟨HP.out, rfl⟩⟩
        · have q2 : ¬ (end_ : Int) - ((at_ : Int) + 3 + (n : Int)) < 8 := by omega
          rw [if_neg h3] at hcp
          have hN2 := number_w 4 4 rfl (by omega) (by omega) (.slice (some ad) b.length c) b (at_ + 3 + n) ((at_ : Int) + 3 + (n : Int)) rfl (by omega) w3 (hv.below hA3 (Nat.le_refl _))
          have hN3 := number_w 4 4 rfl (by omega) (by omega) (.slice (some ad) b.length c) b (at_ + 3 + n + 4) ((at_ : Int) + 3 + (n : Int) + 4) rfl (by omega) w3 (hv.below hA3 (Nat.le_refl _))
          have hl2 := numAt_lt b (at_ + 3 + n) 4
          have hl3 := numAt_lt b (at_ + 3 + n + 4) 4
          generalize numAt b (at_ + 3 + n) 4 = pn at *
          generalize numAt b (at_ + 3 + n + 4) 4 = cn at *
          have HCP3 := Lib.hid hcp
          clear HCP2 hcp
          go_wp2_with fail
          refine hN2.mono ?_
          rintro e w4 ⟨rfl, rfl⟩
          go_wp2_with fail
          refine hN3.mono ?_
          rintro e w5 ⟨rfl, rfl⟩
          clear hN2 hN3
          go_upto_region 14 with (fail)
          have hC4 := (hC3.set 3 (.int .i64 (pn : Int))).set 4 (.int .i64 (cn : Int))
          have hR4 := (hR3.far (p := ⟨w.heap.size + 1, 3, none⟩) (show w.heap.size ≠ w.heap.size + 1 by omega) (.int .i64 (pn : Int))).far (p := ⟨w.heap.size + 1, 4, none⟩) (show w.heap.size ≠ w.heap.size + 1 by omega) (.int .i64 (cn : Int))
          have hA4 := (hA3.setCell (p := ⟨w.heap.size + 1, 3, none⟩) (show w.heap.size ≤ w.heap.size + 1 by omega) (.int .i64 (pn : Int))).setCell (p := ⟨w.heap.size + 1, 4, none⟩) (show w.heap.size ≤ w.heap.size + 1 by omega) (.int .i64 (cn : Int))
          have ho4 : OwB ((w3.setCell ⟨w.heap.size + 1, 3, none⟩ (.int .i64 (pn : Int))).setCell ⟨w.heap.size + 1, 4, none⟩ (.int .i64 (cn : Int))) w.heap.size (.slice (some ⟨g2, 0, none⟩) n n) key := Own.heap ho3 fun k hk => by
            simp only [Value.ownBlock, if_true, Option.some.injEq] at hk; subst hk
            rw [Below.heap_setCell _ _ _ _ hne, Below.heap_setCell _ _ _ _ hne]
          simp only [List.set_cons_succ, List.set_cons_zero] at hC4
          generalize (w3.setCell ⟨w.heap.size + 1, 3, none⟩ (.int .i64 (pn : Int))).setCell ⟨w.heap.size + 1, 4, none⟩ (.int .i64 (cn : Int)) = w4 at *
          clear hC3 hR3 hA3 ho3 y0 y1 y2 y3 y4 z2 z3 z4 r0 r1 r2 r3 r4 f0 f1 f2 f3 f4
          obtain ⟨r0, r1, r2, r3, r4⟩ := cells5 hR4
          have f0 := hR4.frozen (j := 0) (by simp [zeroC]); have f1 := hR4.frozen (j := 1) (by simp [zeroC]); have f2 := hR4.frozen (j := 2) (by simp [zeroC]); have f3 := hR4.frozen (j := 3) (by simp [zeroC]); have f4 := hR4.frozen (j := 4) (by simp [zeroC])
          obtain ⟨y0, y1, y2, y3, y4⟩ := cells5 hC4
          go_wp2_with fail
          obtain ⟨e0, e1, e2, e3, e4⟩ := cells5 (set5 hR4 (.slice (some ⟨g2, 0, none⟩) n n) (.int .i64 (kb.toNat : Int)) (.slice none 0 0) (.int .i64 (pn : Int)) (.int .i64 (cn : Int)))
          refine bodyPost_ret (v := .tuple #[.agg #[(.slice (some ⟨g2, 0, none⟩) n n), .int .i64 (kb.toNat : Int), .slice none 0 0, .int .i64 (pn : Int), .int .i64 (cn : Int)], .int .i64 ((at_ : Int) + 3 + (n : Int) + 8)]) ?_ rfl ?_
          · simp [results, Try.results57, go_sem, e0, e1, e2, e3, e4]
          · refine ⟨below5 hA4 (Nat.le_refl _) _ _ _ _ _, .inr ⟨⟨(.slice (some ⟨g2, 0, none⟩) n n), .slice none 0 0, ⟨key, kb.toNat, [], pn, cn⟩⟩, at_ + 3 + n + 8, HCP3.out, rfl, by omega, by omega, ?_⟩⟩
            refine ⟨⟨g2, by rw [HKL.out], fun h hh => by simp [Value.ownBlock] at hh⟩, ⟨none, rfl⟩, ow5 ho4 (fun k hk => by simp only [Value.ownBlock, if_true, Option.some.injEq] at hk; omega) _ _ _ _ _, OwB.nil _ _, ?_, ?_, ?_⟩
            · show _ ≤ _ ∧ _ ≤ _
              simp only
              omega
            · show _ ≤ _ ∧ _ ≤ _
              simp only
              omega
            · show _ ≤ _ ∧ _ ≤ _
              simp only
              omega
end Go.Proofs.Ytonbcipofakpjaa
