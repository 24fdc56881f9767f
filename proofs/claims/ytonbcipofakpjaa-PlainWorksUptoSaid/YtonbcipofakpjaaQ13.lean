/- Texts joined: espalierref06.number, cellAt; Cells read by their slots; Encode of both sides, told alike.; espalierref06.Decode; Pieces of memory -/
import Derived.Test.YtonbcipofakpjaaQ5
import Derived.Test.YtonbcipofakpjaaQ6
import Derived.Test.YtonbcipofakpjaaQ7
import Derived.Test.YtonbcipofakpjaaQ9
import Derived.Test.YtonbcipofakpjaaQ11
import Derived.Test.YtonbcipofakpjaaQ12
import Derived.Deep.RegionLaw
-- espalierref06.number, cellAt: walks.
namespace Go.Proofs.Ytonbcipofakpjaa
open Go.RowKit
theorem RNumber_any (v : Value) (b : List UInt8) (at_ wd : Nat) (X D : Int) (hX : X = (at_ : Int)) (hD : D = (wd : Int)) (h1 : 1 ≤ wd) (h4 : wd ≤ 4) (ha : at_ + wd ≤ b.length) (w : World) (hv : RdB w v b) :
    Calls Try.prog 82 #[v, .int .i64 X, .int .i64 D] w fun e w' => e = .returned (.int .i64 (numAt b at_ wd : Nat)) ∧ w = w' := by
  subst hX hD
  have hn : numF ((b.drop at_).take wd) < 4294967296 := by
    refine Nat.lt_of_lt_of_le (numF_lt _) ?_
    calc 256 ^ ((b.drop at_).take wd).length ≤ 256 ^ 4 := Nat.pow_le_pow_right (by omega) (by simp; omega)
      _ = 4294967296 := by decide
  have hl := hv.le
  have hr := RReadFixed_any v b at_ wd h1 (by omega) ha w hv
  unfold numAt
  obtain ⟨A, c, rfl, hm⟩ := hv.form
  generalize numF ((b.drop at_).take wd) = q at *
  go_enter Try.func82, Try.ntmps82
  go_wp2_with fail
  refine hr.mono ?_
  rintro e w1 ⟨rfl, rfl⟩
  go_wp2_with fail
  go_ret
  exact ⟨by go_num, rfl⟩
def RCellAt (w : World) (b : List UInt8) (at_ : Nat) (e : Ending) (w' : World) : Prop :=
  Below w.heap.size w w' ∧ ((cellP b at_ b.length = none ∧ e = .returned (.tuple #[.agg #[.slice none 0 0, .int .i64 0, .slice none 0 0, .int .i64 0, .int .i64 0], .bool false])) ∨
    ∃ (x : CV) (tn : Nat), cellP b at_ b.length = some (x.c, tn) ∧ e = .returned (.tuple #[cellV x, .bool true]) ∧ OwB w' 0 x.kv x.c.key ∧ OwB w' 0 x.vv x.c.val ∧ i64r x.c.kind ∧ i64r x.c.page ∧ i64r x.c.count)
theorem Sep.blk {w0 w : World} {g : Nat} {T : TypeId} {cs : List Value} {L : List Ent} (h : Sep w0 w (blkE g T cs :: L)) : OBlk w g T cs := h.head
theorem Sep.set5 {w0 w : World} {g : Nat} {T : TypeId} {b0 b1 b2 b3 b4 : Value} {L : List Ent} (h : Sep w0 w (blkE g T [b0, b1, b2, b3, b4] :: L)) (a0 a1 a2 a3 a4 : Value) :
    Sep w0 (((((w.setCell ⟨g, 0, none⟩ a0).setCell ⟨g, 1, none⟩ a1).setCell ⟨g, 2, none⟩ a2).setCell ⟨g, 3, none⟩ a3).setCell ⟨g, 4, none⟩ a4) (blkE g T [a0, a1, a2, a3, a4] :: L) :=
  ((((h.setCell 0 a0).setCell 1 a1).setCell 2 a2).setCell 3 a3).setCell 4 a4
theorem froz5 {w : World} {g : Nat} {T : TypeId} {a0 a1 a2 a3 a4 : Value} (h : OBlk w g T [a0, a1, a2, a3, a4]) :
    w.frozen? ⟨g, 0, none⟩ = false ∧ w.frozen? ⟨g, 1, none⟩ = false ∧ w.frozen? ⟨g, 2, none⟩ = false ∧ w.frozen? ⟨g, 3, none⟩ = false ∧ w.frozen? ⟨g, 4, none⟩ = false :=
  ⟨h.frozen (j := 0) (by simp), h.frozen (j := 1) (by simp), h.frozen (j := 2) (by simp), h.frozen (j := 3) (by simp), h.frozen (j := 4) (by simp)⟩
set_option maxRecDepth 100000 in
set_option maxHeartbeats 8000000 in
theorem RCellAt_any (v : Value) (b : List UInt8) (at_ : Nat) (w : World) (hv : RdB w v b) (hb : b.length ≤ 65536) (ha : at_ ≤ 131072) :
    Calls Try.prog 83 #[v, .int .i64 (at_ : Int)] w (RCellAt w b at_) := by
  obtain ⟨A, c, rfl, hm⟩ := hv.form
  have hS0 := (Sep.start w).alloc 32 zeroC
  by_cases h1 : b.length < at_ + 3
  · have HP : Hid (cellP b at_ b.length = none) := by show _ = _; unfold cellP; rw [if_pos h1]
    have i1 : (b.length : Int) < (at_ : Int) + 3 := by omega
    obtain ⟨f0, f1, f2, f3, f4⟩ := froz5 hS0.blk
    obtain ⟨r0, r1, r2, r3, r4⟩ := cells5 hS0.blk
    have HS1 := Lib.hid hS0
    unfold zeroC at *
    clear hS0
    go_enter Try.func83, Try.ntmps83
    go_wp2_with fail
    obtain ⟨e0, e1, e2, e3, e4⟩ := cells5 HS1.out.blk
    refine bodyPost_ret (v := .tuple #[.agg #[.slice none 0 0, .int .i64 0, .slice none 0 0, .int .i64 0, .int .i64 0], .bool false]) ?_ rfl ?_
    · simp [results, Try.results83, go_sem, e0, e1, e2, e3, e4]
    · exact ⟨HS1.out.belowOld (v := w) (by simp), .inl ⟨HP.out, rfl⟩⟩
  · have i1 : ¬ (b.length : Int) < (at_ : Int) + 3 := by omega
    obtain ⟨kb, hkb⟩ : ∃ kb, b[at_]? = some kb := ⟨_, List.getElem?_eq_getElem (by omega)⟩
    have hgd : b.getD at_ 0 = kb := by rw [List.getD, hkb]; rfl
    obtain ⟨ad, rfl, hcb⟩ := (hS0.rd (v := w) (by simp) hv).at_ (j := at_) (by omega)
    have hcb' : (w.alloc (.cells zeroC.toArray 32)).cell? (ad.add at_) = some (.int .u8 (kb.toNat : Int)) := by
      rw [hcb]
      rw [List.getElem?_eq_getElem (by omega)] at hkb
      rw [Option.some.inj hkb]
    have j1 : (at_ : Int) < (b.length : Int) := by omega
    have j2 : at_ < b.length := by omega
    have hkl := kb.toNat_lt
    have hn := numAt_lt b (at_ + 1) 2
    have hcp : cellP b at_ b.length = (if b.length < at_ + 3 + (numAt b (at_ + 1) 2) + 2 then none
      else if ((kb.toNat : Nat) : Int) ≠ 1 then
        if b.length < at_ + 3 + (numAt b (at_ + 1) 2) + 8 then none
        else some (⟨(b.drop (at_ + 3)).take (numAt b (at_ + 1) 2), (kb.toNat : Nat), [], (numAt b (at_ + 3 + (numAt b (at_ + 1) 2)) 4 : Nat), (numAt b (at_ + 3 + (numAt b (at_ + 1) 2) + 4) 4 : Nat)⟩, at_ + 3 + (numAt b (at_ + 1) 2) + 8)
      else
        if b.length < at_ + 3 + (numAt b (at_ + 1) 2) + 2 + numAt b (at_ + 3 + (numAt b (at_ + 1) 2)) 2 then none
        else some (⟨(b.drop (at_ + 3)).take (numAt b (at_ + 1) 2), (kb.toNat : Nat), (b.drop (at_ + 3 + (numAt b (at_ + 1) 2) + 2)).take (numAt b (at_ + 3 + (numAt b (at_ + 1) 2)) 2), 0, 0⟩, at_ + 3 + (numAt b (at_ + 1) 2) + 2 + numAt b (at_ + 3 + (numAt b (at_ + 1) 2)) 2)) := by
      rw [cellP, if_neg h1, hgd]
    have hN1 := fun W hW => RNumber_any (.slice (some ad) b.length c) b (at_ + 1) 2 ((at_ : Int) + 1) 2 rfl rfl (by omega) (by omega) (by omega) W hW
    generalize numAt b (at_ + 1) 2 = n at *
    have HCP := Lib.hid hcp
    have hS1 := hS0.alloc 32 [.slice none 0 0, .int .i64 (kb.toNat : Int), .slice none 0 0, .int .i64 0, .int .i64 0]
    rw [World.size_alloc] at hS1
    have hkw : IntKind.i64.wrap ((kb.toNat : Nat) : Int) = ((kb.toNat : Nat) : Int) := by rw [IntKind.wrap_i64]; omega
    unfold zeroC at *
    clear hcp hcb hkb hgd hS0
    go_enter Try.func83, Try.ntmps83
    go_upto_region 4 with (fail)
    generalize (w.alloc (.cells #[.slice none 0 0, .int .i64 0, .slice none 0 0, .int .i64 0, .int .i64 0] 32)).alloc (.cells #[.slice none 0 0, .int .i64 (kb.toNat : Int), .slice none 0 0, .int .i64 0, .int .i64 0] 32) = w1 at *
    have hN := hN1 w1 (hS1.rd (v := w) (by simp) hv)
    clear hN1 hcb'
    go_upto_region 6 with (first | (go_at_call 82; refine hN.mono ?_; rintro e w2 ⟨rfl, rfl⟩) | fail)
    clear hN
    by_cases h2 : b.length < at_ + 3 + n + 2
    · have HP : Hid (cellP b at_ b.length = none) := by show _ = _; rw [HCP.out, if_pos h2]
      have q2 : (b.length : Int) < (at_ : Int) + 3 + (n : Int) + 2 := by omega
      have HS := Lib.hid (hS1.sw1.set5 (.slice none 0 0) (.int .i64 0) (.slice none 0 0) (.int .i64 0) (.int .i64 0))
      obtain ⟨f0, f1, f2, f3, f4⟩ := froz5 hS1.tail.blk
      obtain ⟨r0, r1, r2, r3, r4⟩ := cells5 hS1.tail.blk
      clear HCP hS1
      go_wp2_with fail
      obtain ⟨e0, e1, e2, e3, e4⟩ := cells5 HS.out.blk
      refine bodyPost_ret (v := .tuple #[.agg #[.slice none 0 0, .int .i64 0, .slice none 0 0, .int .i64 0, .int .i64 0], .bool false]) ?_ rfl ?_
      · simp [results, Try.results83, go_sem, e0, e1, e2, e3, e4]
      · exact ⟨HS.out.belowOld (v := w) (by simp), .inl ⟨HP.out, rfl⟩⟩
    · have q2 : ¬ (b.length : Int) < (at_ : Int) + 3 + (n : Int) + 2 := by omega
      have hcp := HCP.out
      rw [if_neg h2] at hcp
      obtain ⟨A1, c1, hrun, hrd⟩ := (hS1.rd (v := w) (by simp) hv).run_lh (at_ + 3) (at_ + 3 + n) (by omega) (by omega)
      rw [show at_ + 3 + n - (at_ + 3) = n by omega] at hrun hrd
      rw [show ((at_ + 3 : Nat) : Int) = (at_ : Int) + 3 by omega, show ((at_ + 3 + n : Nat) : Int) = (at_ : Int) + 3 + (n : Int) by omega] at hrun
      have e1 : (b.take (at_ + 3 + n)).drop (at_ + 3) = (b.drop (at_ + 3)).take n := by rw [List.drop_take]; congr 1; omega
      rw [e1] at hrd
      have hKL : ((b.drop (at_ + 3)).take n).length = n := by simp; omega
      have HKL := Lib.hid hKL
      clear e1
      generalize (b.drop (at_ + 3)).take n = key at *
      have HCP2 := Lib.hid hcp
      obtain ⟨g0, g1, g2, g3, g4⟩ := froz5 hS1.blk
      obtain ⟨y0, y1, y2, y3, y4⟩ := cells5 hS1.blk
      have q3 : IntKind.i64.wrap ((at_ : Int) + 3 + (n : Int)) = (at_ : Int) + 3 + (n : Int) := by rw [IntKind.wrap_i64]; omega
      have hrdw : RdB w1.drew (.slice A1 n c1) key := hrd
      clear HCP hcp hKL hrd
      go_upto_region 8 with (fail)
      go_region_law
        (first
          | (refine step_append_B (by rfl) (.tmp 36) (.tmp 42) (by rfl) 0 _ [] (by rfl) (OwB.nil _ _) _ key (by rfl) hrdw (by simp only [List.length_nil, HKL.out]; omega) (Nat.zero_le _) ?_; intro v3 w3 ho3 hg3 hk3; have hS3 := hS1.drew.nil.appended ho3 hg3 hk3; rw [List.nil_append] at hS3 ho3; obtain ⟨V3, d3, rfl⟩ := Own.slice ho3; rw [HKL.out] at hS3; obtain ⟨z0, z1, z2, z3, z4⟩ := cells5 hS3.tail.blk; obtain ⟨u0, u1, u2, u3, u4⟩ := froz5 hS3.tail.blk)
          | fail)
      all_goals
        rw [HKL.out]
        have hS4 := hS3.sw1.setCell 0 (.slice V3 n d3)
        simp only [List.set_cons_zero] at hS4
        generalize w3.setCell ⟨w.heap.size + 1, 0, none⟩ (.slice V3 n d3) = w4 at *
        clear hS3 hS1 ho3 hg3 hk3 z0 z1 z2 z3 z4 u0 u1 u2 u3 u4 g0 g1 g2 g3 g4 y0 y1 y2 y3 y4 hrun hrdw
        obtain ⟨g0, g1, g2, g3, g4⟩ := froz5 hS4.blk
        obtain ⟨y0, y1, y2, y3, y4⟩ := cells5 hS4.blk
        have hvw := hS4.rd (v := w) (by simp) hv
        have hS4r : Sep w w4 (blkE w.heap.size 32 [.slice none 0 0, .int .i64 0, .slice none 0 0, .int .i64 0, .int .i64 0] :: [blkE (w.heap.size + 1) 32 [.slice V3 n d3, .int .i64 (kb.toNat : Int), .slice none 0 0, .int .i64 0, .int .i64 0], bytesE (.slice V3 n d3) key, oldE w]) := hS4.sw [_, _]
        obtain ⟨f0, f1, f2, f3, f4⟩ := froz5 hS4r.blk
        obtain ⟨r0, r1, r2, r3, r4⟩ := cells5 hS4r.blk
        by_cases hk1 : ((kb.toNat : Nat) : Int) = 1
        · have hkb : (((kb.toNat : Nat) : Int) == 1) = true := by simp [hk1]
          have hcp := HCP2.out
          rw [if_neg (by simp [hk1])] at hcp
          have hN2 := RNumber_any (.slice (some ad) b.length c) b (at_ + 3 + n) 2 ((at_ : Int) + 3 + (n : Int)) 2 (by omega) rfl (by omega) (by omega) (by omega) w4 hvw
          have hl2 := numAt_lt b (at_ + 3 + n) 2
          generalize numAt b (at_ + 3 + n) 2 = m at *
          have HK1 := Lib.hid hk1
          have HCP3 := Lib.hid hcp
          clear HCP2 hcp hk1
          go_upto_region 13 with (first | (go_at_call 82; refine hN2.mono ?_; rintro e w5 ⟨rfl, rfl⟩) | fail)
          clear hN2
          by_cases h3 : b.length < at_ + 3 + n + 2 + m
          · have HP : Hid (cellP b at_ b.length = none) := by show _ = _; rw [HCP3.out, if_pos h3]
            have q4 : (b.length : Int) < (at_ : Int) + 3 + (n : Int) + 2 + (m : Int) := by omega
            have HS := Lib.hid (hS4r.set5 (.slice none 0 0) (.int .i64 0) (.slice none 0 0) (.int .i64 0) (.int .i64 0))
            clear HCP3 hS4 hS4r
            go_wp2_with fail
            obtain ⟨e0, e1, e2, e3, e4⟩ := cells5 HS.out.blk
            refine bodyPost_ret (v := .tuple #[.agg #[.slice none 0 0, .int .i64 0, .slice none 0 0, .int .i64 0, .int .i64 0], .bool false]) ?_ rfl ?_
            · simp [results, Try.results83, go_sem, e0, e1, e2, e3, e4]
            · exact ⟨HS.out.belowOld (v := w) (by simp), .inl ⟨HP.out, rfl⟩⟩
          · have q4 : ¬ (b.length : Int) < (at_ : Int) + 3 + (n : Int) + 2 + (m : Int) := by omega
            have hcp := HCP3.out
            rw [if_neg h3] at hcp
            obtain ⟨A5, c5, hrun, hrd⟩ := hvw.run_lh (at_ + 3 + n + 2) (at_ + 3 + n + 2 + m) (by omega) (by omega)
            rw [show at_ + 3 + n + 2 + m - (at_ + 3 + n + 2) = m by omega] at hrun hrd
            rw [show ((at_ + 3 + n + 2 : Nat) : Int) = (at_ : Int) + 3 + (n : Int) + 2 by omega, show ((at_ + 3 + n + 2 + m : Nat) : Int) = (at_ : Int) + 3 + (n : Int) + 2 + (m : Int) by omega] at hrun
            have e1 : (b.take (at_ + 3 + n + 2 + m)).drop (at_ + 3 + n + 2) = (b.drop (at_ + 3 + n + 2)).take m := by rw [List.drop_take]; congr 1; omega
            rw [e1] at hrd
            have hVL : ((b.drop (at_ + 3 + n + 2)).take m).length = m := by simp; omega
            have HVL := Lib.hid hVL
            clear e1
            generalize (b.drop (at_ + 3 + n + 2)).take m = val at *
            have HCP4 := Lib.hid hcp
            have q5 : IntKind.i64.wrap ((at_ : Int) + 3 + (n : Int) + 2 + (m : Int)) = (at_ : Int) + 3 + (n : Int) + 2 + (m : Int) := by rw [IntKind.wrap_i64]; omega
            have hrdw : RdB w4.drew (.slice A5 m c5) val := hrd
            clear HCP3 hcp hVL hrd hS4r f0 f1 f2 f3 f4 r0 r1 r2 r3 r4
            go_upto_region 15 with (fail)
            go_region_law
              (first
                | (refine step_append_B (by rfl) (.tmp 64) (.tmp 70) (by rfl) 0 _ [] (by rfl) (OwB.nil _ _) _ val (by rfl) hrdw (by simp only [List.length_nil, HVL.out]; omega) (Nat.zero_le _) ?_; intro v5 w5 ho5 hg5 hk5; have hS5 := hS4.drew.nil.appended ho5 hg5 hk5; rw [List.nil_append] at hS5 ho5; obtain ⟨V5, d5, rfl⟩ := Own.slice ho5; rw [HVL.out] at hS5; obtain ⟨z0, z1, z2, z3, z4⟩ := cells5 hS5.tail.blk; obtain ⟨u0, u1, u2, u3, u4⟩ := froz5 hS5.tail.blk)
                | fail)
            all_goals
              rw [HVL.out]
              have hS6 := hS5.sw1.setCell 2 (.slice V5 m d5)
              simp only [List.set_cons_zero, List.set_cons_succ] at hS6
              generalize w5.setCell ⟨w.heap.size + 1, 2, none⟩ (.slice V5 m d5) = w6 at *
              clear hS5 hS4 ho5 hg5 hk5 z0 z1 z2 z3 z4 u0 u1 u2 u3 u4 g0 g1 g2 g3 g4 y0 y1 y2 y3 y4 hrun hrdw
              obtain ⟨y0, y1, y2, y3, y4⟩ := cells5 hS6.blk
              have hS6r : Sep w w6 (blkE w.heap.size 32 [.slice none 0 0, .int .i64 0, .slice none 0 0, .int .i64 0, .int .i64 0] :: [blkE (w.heap.size + 1) 32 [.slice V3 n d3, .int .i64 (kb.toNat : Int), .slice V5 m d5, .int .i64 0, .int .i64 0], bytesE (.slice V5 m d5) val, bytesE (.slice V3 n d3) key, oldE w]) := hS6.sw [_, _, _]
              obtain ⟨f0, f1, f2, f3, f4⟩ := froz5 hS6r.blk
              obtain ⟨r0, r1, r2, r3, r4⟩ := cells5 hS6r.blk
              have HS := Lib.hid (hS6r.set5 (.slice V3 n d3) (.int .i64 (kb.toNat : Int)) (.slice V5 m d5) (.int .i64 0) (.int .i64 0))
              clear hS6 hS6r
              go_wp2_with fail
              obtain ⟨e0, e1, e2, e3, e4⟩ := cells5 HS.out.blk
              refine bodyPost_ret (v := .tuple #[.agg #[.slice V3 n d3, .int .i64 (kb.toNat : Int), .slice V5 m d5, .int .i64 0, .int .i64 0], .bool true]) ?_ rfl ?_
              · simp [results, Try.results83, go_sem, e0, e1, e2, e3, e4]
              · refine ⟨HS.out.belowOld (v := w) (by simp), .inr ⟨⟨.slice V3 n d3, .slice V5 m d5, ⟨key, kb.toNat, val, 0, 0⟩⟩, _, HCP4.out, rfl, HS.out.of_mem (E := bytesE (.slice V3 n d3) key) (by simp), HS.out.of_mem (E := bytesE (.slice V5 m d5) val) (by simp), ?_, ?_, ?_⟩⟩ <;> (show _ ≤ _ ∧ _ ≤ _; simp only; omega)
        · have hkb : (((kb.toNat : Nat) : Int) == 1) = false := beq_eq_false_iff_ne.2 hk1
          have hcp := HCP2.out
          rw [if_pos hk1] at hcp
          clear hk1
          by_cases h3 : b.length < at_ + 3 + n + 8
          · have HP : Hid (cellP b at_ b.length = none) := by show _ = _; rw [hcp, if_pos h3]
            have q4 : (b.length : Int) < (at_ : Int) + 3 + (n : Int) + 8 := by omega
            have HS := Lib.hid (hS4r.set5 (.slice none 0 0) (.int .i64 0) (.slice none 0 0) (.int .i64 0) (.int .i64 0))
            clear HCP2 hcp hS4 hS4r
            go_wp2_with fail
            obtain ⟨e0, e1, e2, e3, e4⟩ := cells5 HS.out.blk
            refine bodyPost_ret (v := .tuple #[.agg #[.slice none 0 0, .int .i64 0, .slice none 0 0, .int .i64 0, .int .i64 0], .bool false]) ?_ rfl ?_
            · simp [results, Try.results83, go_sem, e0, e1, e2, e3, e4]
            · exact ⟨HS.out.belowOld (v := w) (by simp), .inl ⟨HP.out, rfl⟩⟩
          · have q4 : ¬ (b.length : Int) < (at_ : Int) + 3 + (n : Int) + 8 := by omega
            rw [if_neg h3] at hcp
            have hN2 := RNumber_any (.slice (some ad) b.length c) b (at_ + 3 + n) 4 ((at_ : Int) + 3 + (n : Int)) 4 (by omega) rfl (by omega) (by omega) (by omega) w4 hvw
            have hN3 := fun W hW => RNumber_any (.slice (some ad) b.length c) b (at_ + 3 + n + 4) 4 ((at_ : Int) + 3 + (n : Int) + 4) 4 (by omega) rfl (by omega) (by omega) (by omega) W hW
            have hl2 := numAt_lt b (at_ + 3 + n) 4
            have hl3 := numAt_lt b (at_ + 3 + n + 4) 4
            generalize numAt b (at_ + 3 + n) 4 = pn at *
            generalize numAt b (at_ + 3 + n + 4) 4 = cn at *
            have HCP3 := Lib.hid hcp
            have HN3 := Lib.hid hN3
            clear HCP2 hcp hS4r f0 f1 f2 f3 f4 r0 r1 r2 r3 r4 hN3
            go_upto_region 20 with (first | (go_at_call 82; refine hN2.mono ?_; rintro e w5 ⟨rfl, rfl⟩) | fail)
            have hS5 := hS4.setCell 3 (.int .i64 (pn : Int))
            simp only [List.set_cons_zero, List.set_cons_succ] at hS5
            generalize w4.setCell ⟨w.heap.size + 1, 3, none⟩ (.int .i64 (pn : Int)) = w5 at *
            clear hS4 hN2 hvw g0 g1 g2 g3 g4 y0 y1 y2 y3 y4
            have hN := HN3.out w5 (hS5.rd (v := w) (by simp) hv)
            obtain ⟨g0, g1, g2, g3, g4⟩ := froz5 hS5.blk
            obtain ⟨y0, y1, y2, y3, y4⟩ := cells5 hS5.blk
            go_upto_region 21 with (first | (go_at_call 82; refine hN.mono ?_; rintro e w6 ⟨rfl, rfl⟩) | fail)
            have hS6 := hS5.setCell 4 (.int .i64 (cn : Int))
            simp only [List.set_cons_zero, List.set_cons_succ] at hS6
            generalize w5.setCell ⟨w.heap.size + 1, 4, none⟩ (.int .i64 (cn : Int)) = w6 at *
            clear hS5 hN g0 g1 g2 g3 g4 y0 y1 y2 y3 y4
            obtain ⟨y0, y1, y2, y3, y4⟩ := cells5 hS6.blk
            have hS6r : Sep w w6 (blkE w.heap.size 32 [.slice none 0 0, .int .i64 0, .slice none 0 0, .int .i64 0, .int .i64 0] :: [blkE (w.heap.size + 1) 32 [.slice V3 n d3, .int .i64 (kb.toNat : Int), .slice none 0 0, .int .i64 (pn : Int), .int .i64 (cn : Int)], bytesE (.slice V3 n d3) key, oldE w]) := hS6.sw [_, _]
            obtain ⟨f0, f1, f2, f3, f4⟩ := froz5 hS6r.blk
            obtain ⟨r0, r1, r2, r3, r4⟩ := cells5 hS6r.blk
            have HS := Lib.hid (hS6r.set5 (.slice V3 n d3) (.int .i64 (kb.toNat : Int)) (.slice none 0 0) (.int .i64 (pn : Int)) (.int .i64 (cn : Int)))
            clear hS6 hS6r
            go_wp2_with fail
            obtain ⟨e0, e1, e2, e3, e4⟩ := cells5 HS.out.blk
            refine bodyPost_ret (v := .tuple #[.agg #[.slice V3 n d3, .int .i64 (kb.toNat : Int), .slice none 0 0, .int .i64 (pn : Int), .int .i64 (cn : Int)], .bool true]) ?_ rfl ?_
            · simp [results, Try.results83, go_sem, e0, e1, e2, e3, e4]
            · refine ⟨HS.out.belowOld (v := w) (by simp), .inr ⟨⟨.slice V3 n d3, .slice none 0 0, ⟨key, kb.toNat, [], pn, cn⟩⟩, _, HCP3.out, rfl, HS.out.of_mem (E := bytesE (.slice V3 n d3) key) (by simp), OwB.nil _ _, ?_, ?_, ?_⟩⟩ <;> (show _ ≤ _ ∧ _ ≤ _; simp only; omega)
end Go.Proofs.Ytonbcipofakpjaa

-- Cells read by their slots: what was written is read.
namespace Go.Proofs.Ytonbcipofakpjaa
def slotCells (b : List UInt8) : Nat → Option (List PC)
  | 0 => some []
  | k + 1 => match slotCells b k with
    | none => none
    | some l => if b.length < 4 + 2 * k + 2 then none else match cellP b (numAt b (4 + 2 * k) 2) b.length with
      | none => none
      | some (c, _) => some (l ++ [c])
theorem slotCells_len {b : List UInt8} : ∀ {k : Nat} {l : List PC}, slotCells b k = some l → l.length = k
  | 0, l, h => by injection h with h; subst h; rfl
  | k + 1, l, h => by
    rw [slotCells] at h
    split at h
    · cases h
    · rename_i l' hl'
      split at h
      · cases h
      · split at h
        · cases h
        · injection h with h
          subst h
          rw [List.length_append, slotCells_len hl']; rfl
/-- Where the bytes end too early, they do later too. -/
theorem slotCells_none {b : List UInt8} {k : Nat} (h : slotCells b k = none) : ∀ m, k ≤ m → slotCells b m = none
  | 0, hm => by obtain rfl : k = 0 := by omega
                exact h
  | m + 1, hm => by
    by_cases e : k = m + 1
    · subst e; exact h
    · rw [slotCells, slotCells_none h m (by omega)]
theorem longsF_take {l : List PC} {k : Nat} (h : k < l.length) : longsF (l.take (k + 1)) = longsF (l.take k) + longF l[k] ∧ longsF (l.take (k + 1)) ≤ longsF l := by
  have e1 : l.take (k + 1) = l.take k ++ [l[k]] := List.take_succ_eq_append_getElem h
  have e2 : longsF (l.take (k + 1)) = longsF (l.take k) + longF l[k] := by
    rw [← bodyF_length, ← bodyF_length, e1, bodyF_append, List.length_append]
    simp [bodyF, cellF_length]
  have e3 : longsF l = longsF (l.take (k + 1)) + longsF (l.drop (k + 1)) := by
    rw [← bodyF_length, ← bodyF_length, ← bodyF_length, ← List.length_append, ← bodyF_append, List.take_append_drop]
  exact ⟨e2, by omega⟩
theorem slot_laid {kind : Int} {l : List PC} {P : Nat} (hP : P ≤ 65536) (h : encE kind l P = 0) {k : Nat} (hk : k < l.length) :
    4 + 2 * k + 2 ≤ P ∧ numAt (laidF kind l P) (4 + 2 * k) 2 = atF l P + longsF (l.take k) ∧ ∃ t, cellP (laidF kind l P) (atF l P + longsF (l.take k)) P = some (l[k], t) := by
  obtain ⟨h1, h2⟩ := encE_zero.1 h
  have hok : ∀ c ∈ l, OkC P c := fun c hc => may_ok (scan_may h1 c hc)
  have hs := sizeF_eq l
  obtain ⟨ht1, ht2⟩ := longsF_take hk
  have htk : (l.take k).length = k := by rw [List.length_take]; omega
  have hd : l.drop k = l[k] :: l.drop (k + 1) := List.drop_eq_getElem_cons hk
  have hB : laidF kind l P = headF kind l.length ++ (slotsF (atF l P) l ++ (List.replicate (P - 4 - longsF l - 4 - 2 * l.length) 0 ++ bodyF l)) ++ fixedF (sumF (preF kind l P)) 4 := rfl
  have hsl : slotsF (atF l P) l = slotsF (atF l P) (l.take k) ++ (fixedF (atF l P + longsF (l.take k)) 2 ++ slotsF (atF l P + longsF (l.take k) + longF l[k]) (l.drop (k + 1))) := by
    have e : slotsF (atF l P) (l.take k ++ l.drop k) = slotsF (atF l P) (l.take k) ++ slotsF (atF l P + longsF (l.take k)) (l.drop k) := slotsF_append _ _ _
    rw [List.take_append_drop] at e
    rw [e, hd]; rfl
  have hbl : bodyF l = bodyF (l.take k) ++ (cellF l[k] ++ bodyF (l.drop (k + 1))) := by
    have e : bodyF (l.take k ++ l.drop k) = bodyF (l.take k) ++ bodyF (l.drop k) := bodyF_append _ _
    rw [List.take_append_drop] at e
    rw [e, hd]; rfl
  have hat : atF l P = P - 4 - longsF l := rfl
  refine ⟨by omega, ?_, ?_⟩
  · refine numAt_mid (pre := headF kind l.length ++ slotsF (atF l P) (l.take k)) (rest := slotsF (atF l P + longsF (l.take k) + longF l[k]) (l.drop (k + 1)) ++ (List.replicate (P - 4 - longsF l - 4 - 2 * l.length) 0 ++ bodyF l) ++ fixedF (sumF (preF kind l P)) 4) ?_ ?_ ?_
    · rw [hB, hsl]
      simp only [List.append_assoc]
    · rw [List.length_append, headF_length, slotsF_length, htk]
    · have := longF_pos l[k]
      show _ < 65536
      omega
  · refine ⟨_, cellP_mid (P := P) (pre := headF kind l.length ++ (slotsF (atF l P) l ++ (List.replicate (P - 4 - longsF l - 4 - 2 * l.length) 0 ++ bodyF (l.take k)))) (rest := bodyF (l.drop (k + 1)) ++ fixedF (sumF (preF kind l P)) 4) (hok _ (List.getElem_mem hk)) hP ?_ ?_ ?_⟩
    · rw [hB, hbl]
      simp only [List.append_assoc]
    · simp only [List.length_append, headF_length, slotsF_length, List.length_replicate, bodyF_length]
      omega
    · omega
theorem slotCells_laid {kind : Int} {l : List PC} {P : Nat} (hP : P ≤ 65536) (h : encE kind l P = 0) : ∀ k, k ≤ l.length → slotCells (laidF kind l P) k = some (l.take k)
  | 0, _ => rfl
  | k + 1, hk => by
    obtain ⟨h1, h2, t, h3⟩ := slot_laid hP h (show k < l.length by omega)
    have hL : (laidF kind l P).length = P := laidF_length (encE_zero.1 h).2
    rw [slotCells, slotCells_laid hP h k (by omega)]
    simp only [hL]
    rw [if_neg (by omega), h2, h3]
    simp only
    rw [List.take_succ_eq_append_getElem (by omega)]
theorem count_laid {kind : Int} {l : List PC} {P : Nat} (hP : P ≤ 65536) (h : encE kind l P = 0) : numAt (laidF kind l P) 2 2 = l.length := by
  obtain ⟨h1, h2⟩ := encE_zero.1 h
  have hs := sizeF_eq l
  refine numAt_mid (pre := [UInt8.ofNat kind.toNat, 1]) (rest := (slotsF (atF l P) l ++ (List.replicate (P - 4 - longsF l - 4 - 2 * l.length) 0 ++ bodyF l)) ++ fixedF (sumF (preF kind l P)) 4) ?_ rfl (by show _ < 65536; omega)
  show headF kind l.length ++ (slotsF (atF l P) l ++ (List.replicate (P - 4 - longsF l - 4 - 2 * l.length) 0 ++ bodyF l)) ++ fixedF (sumF (preF kind l P)) 4 = _
  simp [headF]
/-- A page's cells, read by their slots. -/
theorem isPln_slots {b : List UInt8} {kind : Int} {l : List PC} (h : isPln b kind l) : slotCells b (numAt b 2 2) = some l ∧ kindF b = kind := by
  have h5 := (isPln_parse h).2
  obtain ⟨h1, h2, h3, h4⟩ := h
  have hP := (isPowB_range h1).2
  have e1 := count_laid (kind := kind) (l := l) (P := b.length) (by omega) h3
  have e2 := slotCells_laid (kind := kind) (l := l) (P := b.length) (by omega) h3 l.length (Nat.le_refl _)
  rw [h4] at e1 e2
  rw [e1, e2, List.take_length]
  exact ⟨rfl, h5⟩
end Go.Proofs.Ytonbcipofakpjaa

-- Encode of both sides, told alike.
namespace Go.Proofs.Ytonbcipofakpjaa
open Go.RowKit
def encZ (kind : Int) (l : List PC) (P : Int) : Int := if (isKindB kind && isPowB P) = true then encE kind l P.toNat else 1
def encL (kind : Int) (l : List PC) (P : Int) : List UInt8 := if encZ kind l P = 0 then laidF kind l P.toNat else []
theorem encL_length (kind : Int) (l : List PC) (P : Int) : (encL kind l P).length ≤ 65536 := by
  unfold encL
  split
  · rename_i h
    unfold encZ at h
    split at h
    · rename_i h2
      rw [Bool.and_eq_true] at h2
      have := isPowB_range h2.2
      rw [laidF_length (encE_zero.1 h).2]; omega
    · cases h
  · simp
theorem encZ_range (kind : Int) (l : List PC) (P : Int) : 0 ≤ encZ kind l P ∧ encZ kind l P ≤ 63 := by
  unfold encZ
  split
  · unfold encE
    rcases scan_range kind P.toNat l none with h | h | h
    · rw [h]; simp; split <;> simp
    · rw [h]; simp
    · rw [h]; simp
  · simp
theorem PEncZ (kind : Int) (v : Value) (l : List CV) (P : Int) (hPr : i64r P) (w : World) (hl : RdCs w v l) (hn : l.length ≤ 2000000000000) :
    Calls Try.prog 15 #[.int .i64 kind, v, .int .i64 P] w fun e w' => ∃ u, e = .returned (.tuple #[u, .int .i64 (encZ kind (pcs l) P)]) ∧ OwB w' w.heap.size u (encL kind (pcs l) P) ∧ Below w.heap.size w w' := by
  refine (PEncode_any kind v l P hPr w hl hn).mono ?_
  unfold EncAt encL encZ
  rintro e w' ⟨hb, ⟨h1, rfl⟩ | ⟨h1, ⟨h2, rfl⟩ | ⟨h2, g, rfl, hg, ho⟩⟩⟩
  · rw [if_neg (by rw [h1]; simp), if_neg (by decide)]
    exact ⟨_, rfl, OwB.nil _ _, hb⟩
  · rw [if_pos h1, if_neg h2]
    exact ⟨_, rfl, OwB.nil _ _, hb⟩
  · rw [if_pos h1, if_pos h2, h2]
    rw [Bool.and_eq_true] at h1
    have hP := isPowB_range h1.2
    have hl := laidF_length (kind := kind) (encE_zero.1 h2).2
    have := ho.owB' (base := w.heap.size) hg (by rw [hl]; simp only [maxLen]; omega)
    rw [hl] at this
    exact ⟨_, rfl, this, hb⟩
theorem REncZ (kind : Int) (v : Value) (l : List CV) (P : Int) (w : World) (hl : RdCs w v l) (hn : l.length ≤ 2000000000000) :
    Calls Try.prog 12 #[.int .i64 kind, v, .int .i64 P] w fun e w' => ∃ u, e = .returned (.tuple #[u, .int .i64 (encZ kind (pcs l) P)]) ∧ OwB w' w.heap.size u (encL kind (pcs l) P) ∧ Below w.heap.size w w' := by
  refine (REncode_any kind v l P w hl hn).mono ?_
  unfold REncAt encL encZ
  rintro e w' ⟨hb, ⟨h1, rfl⟩ | ⟨h1, ⟨h2, rfl⟩ | ⟨h2, u, rfl, ho⟩⟩⟩
  · rw [if_neg (by rw [h1]; simp), if_neg (by decide)]
    exact ⟨_, rfl, OwB.nil _ _, hb⟩
  · rw [if_pos h1, if_neg h2]
    exact ⟨_, rfl, OwB.nil _ _, hb⟩
  · rw [if_pos h1, if_pos h2, h2]
    exact ⟨_, rfl, ho, hb⟩
theorem encZ_pln {kind : Int} {l : List PC} {b : List UInt8} : isPln b kind l ↔ encZ kind l (b.length : Int) = 0 ∧ encL kind l (b.length : Int) = b := by
  unfold isPln encL encZ
  constructor
  · rintro ⟨h1, h2, h3, h4⟩
    rw [if_pos (by rw [h1, h2]; rfl), if_pos (by exact h3)]
    exact ⟨h3, h4⟩
  · rintro ⟨h1, h2⟩
    split at h1
    · rename_i h3
      rw [if_pos h3, if_pos h1] at h2
      rw [Bool.and_eq_true] at h3
      exact ⟨h3.2, h3.1, h1, h2⟩
    · cases h1
end Go.Proofs.Ytonbcipofakpjaa

-- espalierref06.Decode: the walk.
namespace Go.Proofs.Ytonbcipofakpjaa
open Go.RowKit
/-- A list of the call's own, of cells whose bytes are some call's own. -/
structure OwM (w : World) (base : Nat) (v : Value) (l : List CV) : Prop where
  own : Own w base 32 5 v l.length (flatC l)
  each : ∀ x ∈ l, OwB w 0 x.kv x.c.key ∧ OwB w 0 x.vv x.c.val
  rng : ∀ x ∈ l, i64r x.c.kind ∧ i64r x.c.page ∧ i64r x.c.count
theorem OwM.nil (w : World) (base : Nat) : OwM w base (.slice none 0 0) [] := ⟨Own.nil _ _ _ _, by simp, by simp⟩
theorem OwM.rd {w : World} {base : Nat} {v : Value} {l : List CV} (h : OwM w base v l) : RdCs w v l :=
  ⟨h.own.rd, fun x hx => ⟨(h.each x hx).1.rd, (h.each x hx).2.rd, (h.rng x hx).1, (h.rng x hx).2.1, (h.rng x hx).2.2⟩⟩
theorem OwM.below {w w' : World} {base : Nat} {v : Value} {l : List CV} (h : OwM w base v l) (hb : Below w.heap.size w w') : OwM w' base v l :=
  ⟨Own.below' h.own hb (Nat.le_refl _), fun x hx => ⟨Own.below' (h.each x hx).1 hb (Nat.le_refl _), Own.below' (h.each x hx).2 hb (Nat.le_refl _)⟩, h.rng⟩
theorem OwM.snoc {w w1 w2 : World} {base : Nat} {v v' : Value} {l : List CV} {x : CV} (h : OwM w base v l) (hb : Below w.heap.size w w1) (hk : OwB w1 0 x.kv x.c.key) (hv : OwB w1 0 x.vv x.c.val)
    (hr : i64r x.c.kind ∧ i64r x.c.page ∧ i64r x.c.count) (hg : w1.grownBy w2 v.ownBlock) (ho : Own w2 base 32 5 v' (l ++ [x]).length (flatC (l ++ [x]))) : OwM w2 base v' (l ++ [x]) := by
  have h1 := h.below hb
  have key : ∀ {u : Value} {m : List UInt8}, OwB w1 0 u m → OwB w2 0 u m := fun {u m} hu => Own.grown hu hg (fun g hg' e => by
    obtain ⟨cs, hbk⟩ := Own.oblk h1.own e.symm
    exact OwB.ne_blk hu hbk (by decide) hg'.symm)
  refine ⟨ho, fun y hy => ?_, fun y hy => ?_⟩
  · rcases List.mem_append.1 hy with hy | hy
    · exact ⟨key (h1.each y hy).1, key (h1.each y hy).2⟩
    · obtain rfl := List.mem_singleton.1 hy
      exact ⟨key hk, key hv⟩
  · rcases List.mem_append.1 hy with hy | hy
    · exact h1.rng y hy
    · obtain rfl := List.mem_singleton.1 hy
      exact hr
def RDecAt (w : World) (b : List UInt8) (e : Ending) (w' : World) : Prop :=
  Below w.heap.size w w' ∧ ((∃ (kind : Int) (l : List CV) (v : Value), isPln b kind (pcs l) ∧ e = .returned (.tuple #[.int .i64 kind, v, .int .i64 0]) ∧ OwM w' w.heap.size v l) ∨
    ((∀ kind l, ¬ isPln b kind l) ∧ e = .returned (.tuple #[.int .i64 0, .slice none 0 0, .int .i64 60])))
set_option maxRecDepth 100000 in
set_option maxHeartbeats 8000000 in
theorem RDecode_any (v : Value) (b : List UInt8) (w : World) (hv : RdB w v b) : Calls Try.prog 60 #[v] w (RDecAt w b) := by
  obtain ⟨A, c, rfl, hm⟩ := hv.form
  have hPa := fun W => IsPage_any (b.length : Int) W
  cases hp : isPowB (b.length : Int) with
  | false =>
    have HN : Hid (∀ kind l, ¬ isPln b kind l) := Lib.hid fun kind l h => by have := h.1; rw [hp] at this; cases this
    rw [hp] at hPa
    clear hp
    go_enter Try.func60, Try.ntmps60
    go_wp2_with (first | (go_at_call 41; refine (hPa _).mono ?_; rintro e w1 ⟨rfl, rfl⟩) | fail)
    refine bodyPost_ret (v := .tuple #[.int .i64 0, .slice none 0 0, .int .i64 60]) ?_ rfl ?_
    · simp [results, Try.results60, go_sem]
    · exact ⟨Below.refl _ _, .inr ⟨HN.out, rfl⟩⟩
  | true =>
    obtain ⟨hP1, hP2⟩ := isPowB_range hp
    have hb1 : 512 ≤ b.length := by omega
    have hb2 : b.length ≤ 65536 := by omega
    have HPG := Lib.hid hp
    have HNO : Hid (∀ kind l, isPln b kind l → slotCells b (numAt b 2 2) = some l ∧ kindF b = kind) := Lib.hid fun kind l h => isPln_slots h
    rw [hp] at hPa
    clear hp
    have hN1 := RNumber_any (.slice A b.length c) b 2 2 2 2 rfl rfl (by omega) (by omega) (by omega) w hv
    have hl1 := numAt_lt b 2 2
    generalize numAt b 2 2 = n at *
    go_enter Try.func60, Try.ntmps60
    go_wp2_with (first | (go_at_call 41; refine (hPa _).mono ?_; rintro e w1 ⟨rfl, rfl⟩) | (go_at_call 82; refine hN1.mono ?_; rintro e w1 ⟨rfl, rfl⟩) | fail)
    clear hPa hN1
    go_loopw [7, 8] (fun cv i wr => ∃ (k : Nat) (l : List CV) (C : Option Addr) (cc : Nat), k ≤ n ∧ i = .int .i64 (k : Int) ∧ cv = .slice C k cc ∧ Hid (l.length = k) ∧ Hid (slotCells b k = some (pcs l)) ∧ OwM wr w.heap.size (.slice C k cc) l ∧ Below w.heap.size w wr) (fun _ i _ => n - (intOf i).toNat)
    case atStart => exact ⟨0, [], none, 0, Nat.zero_le _, rfl, rfl, Lib.hid rfl, Lib.hid rfl, OwM.nil _ _, Below.refl _ _⟩
    case round =>
      obtain ⟨k, l, C, cc, hk, rfl, rfl, HLK, HSL, hO, hB⟩ := hrel
      have hvr := hv.below hB (Nat.le_refl _)
      by_cases hlt : k < n
      · have ik : (k : Int) < (n : Int) := by omega
        have hstep : slotCells b (k + 1) = if b.length < 4 + 2 * k + 2 then none else match cellP b (numAt b (4 + 2 * k) 2) b.length with
            | none => none
            | some (c, _) => some (pcs l ++ [c]) := by first | (rw [slotCells, HSL.out]; done) | (rw [slotCells, HSL.out]; rfl)
        have HST := Lib.hid hstep
        clear hstep
        by_cases h1 : b.length < 4 + 2 * k + 2
        · have HN : Hid (∀ kind l, ¬ isPln b kind l) := Lib.hid fun kind l' h => by
            have h2 := (HNO.out kind l' h).1
            have h3 : slotCells b (k + 1) = none := by rw [HST.out, if_pos h1]
            rw [slotCells_none h3 n (by omega)] at h2
            cases h2
          have i1 : (b.length : Int) < 4 + 2 * (k : Int) + 2 := by omega
          clear HST
          go_wp2_with fail
          refine bodyPost_ret (v := .tuple #[.int .i64 0, .slice none 0 0, .int .i64 60]) ?_ rfl ?_
          · simp [results, Try.results60, go_sem]
          · exact ⟨hB, .inr ⟨HN.out, rfl⟩⟩
        · have i1 : ¬ (b.length : Int) < 4 + 2 * (k : Int) + 2 := by omega
          have hN2 := RNumber_any (.slice A b.length c) b (4 + 2 * k) 2 (4 + 2 * (k : Int)) 2 (by omega) rfl (by omega) (by omega) (by omega) wr hvr
          have hst := HST.out
          rw [if_neg h1] at hst
          have hla := numAt_lt b (4 + 2 * k) 2
          generalize numAt b (4 + 2 * k) 2 = a at *
          have hce := RCellAt_any (.slice A b.length c) b a wr hvr hb2 (by omega)
          have HST2 := Lib.hid hst
          clear HST hst
          go_wp2_with (first
            | (go_at_call 82; refine hN2.mono ?_; rintro e w1 ⟨rfl, rfl⟩)
            | fail)
          refine hce.mono ?_
          unfold RCellAt
          rintro e w2 ⟨hw2, ⟨hno, rfl⟩ | ⟨x, tn, hso, rfl, hok, hov, hr1, hr2, hr3⟩⟩
          · have HN : Hid (∀ kind l, ¬ isPln b kind l) := Lib.hid fun kind l' h => by
              have h2 := (HNO.out kind l' h).1
              have h3 : slotCells b (k + 1) = none := by rw [HST2.out, hno]
              rw [slotCells_none h3 n (by omega)] at h2
              cases h2
            have hB2 := hB.trans (hw2.mono hB.size)
            clear hno hce HST2 hN2
            go_wp2_with fail
            refine bodyPost_ret (v := .tuple #[.int .i64 0, .slice none 0 0, .int .i64 60]) ?_ rfl ?_
            · simp [results, Try.results60, go_sem]
            · exact ⟨hB2.alloc hB2.size _, .inr ⟨HN.out, rfl⟩⟩
          · have hx : x.ok w2 := ⟨hok.rd, hov.rd, hr1, hr2, hr3⟩
            have HS2 : Hid (slotCells b (k + 1) = some (pcs (l ++ [x]))) := Lib.hid (by rw [HST2.out, hso]; simp [pcs])
            obtain ⟨A2, a2, B2, b2, key, ck, val, pg, ct, rfl, _, _⟩ := CV.form hx
            have hB2 := hB.trans (hw2.mono hB.size)
            have hAA : Below w2.heap.size w2 ((w2.alloc (.cells #[.slice A2 key.length a2, .int .i64 ck, .slice B2 val.length b2, .int .i64 pg, .int .i64 ct] 32)).alloc (.cells #[.slice A2 key.length a2, .int .i64 ck, .slice B2 val.length b2, .int .i64 pg, .int .i64 ct] 32)) := ((Below.refl _ _).alloc (Nat.le_refl _) _).alloc (by simp) _
            have hsrc := Rd.five (w2.alloc (.cells #[.slice A2 key.length a2, .int .i64 ck, .slice B2 val.length b2, .int .i64 pg, .int .i64 ct] 32)) (.slice A2 key.length a2) (.int .i64 ck) (.slice B2 val.length b2) (.int .i64 pg) (.int .i64 ct) 32
            rw [World.size_alloc] at hsrc
            have hsrc' : Rd ((w2.alloc (.cells #[.slice A2 key.length a2, .int .i64 ck, .slice B2 val.length b2, .int .i64 pg, .int .i64 ct] 32)).alloc (.cells #[.slice A2 key.length a2, .int .i64 ck, .slice B2 val.length b2, .int .i64 pg, .int .i64 ct] 32)) 5 (.slice (some ⟨w2.heap.size + 1, 0, none⟩) 1 1) ([(⟨.slice A2 key.length a2, .slice B2 val.length b2, ⟨key, ck, val, pg, ct⟩⟩ : CV)]).length (flatC [(⟨.slice A2 key.length a2, .slice B2 val.length b2, ⟨key, ck, val, pg, ct⟩⟩ : CV)]) := hsrc
            have hone := flatC_one (w := w2) (l := [(⟨.slice A2 key.length a2, .slice B2 val.length b2, ⟨key, ck, val, pg, ct⟩⟩ : CV)]) (fun y hy => by rw [List.mem_singleton] at hy; subst hy; exact hx)
            have hAB := hw2.trans (hAA.mono hw2.size)
            have hok3 := OwB.below2 hok hAA
            have hov3 := OwB.below2 hov hAA
            have hown3 := (hO.below hAB).own
            have hl3 := HLK.out
            have hcz : w.heap.size ≤ ((w2.alloc (.cells #[.slice A2 key.length a2, .int .i64 ck, .slice B2 val.length b2, .int .i64 pg, .int .i64 ct] 32)).alloc (.cells #[.slice A2 key.length a2, .int .i64 ck, .slice B2 val.length b2, .int .i64 pg, .int .i64 ct] 32)).heap.size := Nat.le_trans hB2.size hAA.size
            have HX := Lib.hid hx
            have HSO := Lib.hid hso
            have HL3 := Lib.hid hl3
            clear hso hce HST2 hN2 hsrc hx hl3 hok hov
            unfold cellV
            go_upto_region 8 with (first
              | (at_builtin; refine wp_append_C rfl (.tmp 44) (.tmp 46) rfl w.heap.size _ l rfl hown3 _ _ rfl hsrc' hone (by rw [HL3.out]; simp only [List.length_singleton]; omega) hcz ?_; intro v5 w5 ho5 hg5 hk5; obtain ⟨V5, e5, rfl⟩ := Own.slice ho5)
              | fail)
            have hO5 := hO.snoc hAB hok3 hov3 ⟨hr1, hr2, hr3⟩ hg5 ho5
            have hb5 : Below w.heap.size w w5 := (hB2.trans (hAA.mono hB2.size)).grown hg5 hcz (fun j hj => (Own.lt hown3 j hj).1)
            have hl5 : (l ++ [(⟨.slice A2 key.length a2, .slice B2 val.length b2, ⟨key, ck, val, pg, ct⟩⟩ : CV)]).length = k + 1 := by rw [List.length_append, HL3.out]; rfl
            rw [hl5] at hO5
            have HL5 := Lib.hid hl5
            have hl6 : l.length + 1 = k + 1 := by rw [HL3.out]
            try rw [hl6]
            clear hl6
            clear hl5 ho5 hg5 hk5 hown3 hok3 hov3 hsrc' hone
            go_wp2_with fail
            exact ⟨⟨k + 1, _, V5, e5, by omega, by go_num, rfl, HL5, HS2, hO5, hb5⟩, by simp [intOf]; omega⟩
      · obtain rfl : k = n := by omega
        obtain ⟨kb, hkb⟩ : ∃ kb, b[0]? = some kb := ⟨_, List.getElem?_eq_getElem (by omega)⟩
        have hgd : kindF b = (kb.toNat : Int) := by unfold kindF; rw [List.getD, hkb]; rfl
        have HKF := Lib.hid hgd
        obtain ⟨ad, rfl, hcb⟩ := hvr.at_ (j := 0) (by omega)
        have hcb' : wr.cell? ad = some (.int .u8 (kb.toNat : Int)) := by
          rw [List.getElem?_eq_getElem (by omega)] at hkb
          rw [← Option.some.inj hkb]
          have := hcb
          rw [show ad.add 0 = ad from rfl] at this
          exact this
        have hkl := kb.toNat_lt
        have hkw : IntKind.i64.wrap ((kb.toNat : Nat) : Int) = ((kb.toNat : Nat) : Int) := by rw [IntKind.wrap_i64]; omega
        have j1 : (0 : Int) < (b.length : Int) := by omega
        have j2 : 0 < b.length := by omega
        have hE := REncZ (kb.toNat : Int) _ l (b.length : Int) wr hO.rd (by rw [HLK.out]; omega)
        have HUN : Hid (∀ kind l', isPln b kind l' → kind = (kb.toNat : Int) ∧ l' = pcs l) := Lib.hid fun kind l' h => by
          obtain ⟨h1, h2⟩ := HNO.out kind l' h
          rw [HSL.out] at h1
          injection h1 with h1
          exact ⟨by rw [← h2, HKF.out], h1.symm⟩
        clear hcb hkb hgd
        go_upto_region 16 with (first
          | (go_at_call 12; refine hE.mono ?_; rintro e w2 ⟨u, rfl, hou, hb3⟩)
          | fail)
        have hB3 := hB.trans (hb3.mono hB.size)
        have hO3 := hO.below hb3
        have hcb3 := (hb3.cell (World.block_lt_of_cell? wr _ hcb')).trans hcb'
        have s1 := run_B_string hou.rd
        have s2 := run_B_string (hvr.below hb3 (Nat.le_refl _))
        have HPL := Lib.hid (encZ_pln (kind := (kb.toNat : Int)) (l := pcs l) (b := b))
        clear hE hou hb3 hcb'
        generalize encZ (kb.toNat : Int) (pcs l) (b.length : Int) = z at *
        generalize encL (kb.toNat : Int) (pcs l) (b.length : Int) = el at *
        by_cases hz : z = 0
        · subst hz
          rcases Bool.eq_false_or_eq_true (el == b) with hq | hq
          · have HY : Hid (isPln b (kb.toNat : Int) (pcs l)) := Lib.hid (HPL.out.2 ⟨rfl, eq_of_beq hq⟩)
            have hqn : (el != b) = false := by rw [bne, hq]; rfl
            go_wp2_with fail
            refine bodyPost_ret (v := .tuple #[.int .i64 (kb.toNat : Int), .slice C k cc, .int .i64 0]) ?_ rfl ?_
            · simp [results, Try.results60, go_sem]
            · exact ⟨hB3, .inl ⟨_, l, _, HY.out, rfl, hO3⟩⟩
          · have HN : Hid (∀ kind l, ¬ isPln b kind l) := Lib.hid fun kind l' h => by
              obtain ⟨rfl, rfl⟩ := HUN.out kind l' h
              have := (HPL.out.1 h).2
              rw [this] at hq
              simp at hq
            have hqn : (el != b) = true := by rw [bne, hq]; rfl
            go_wp2_with fail
            refine bodyPost_ret (v := .tuple #[.int .i64 0, .slice none 0 0, .int .i64 60]) ?_ rfl ?_
            · simp [results, Try.results60, go_sem]
            · exact ⟨hB3, .inr ⟨HN.out, rfl⟩⟩
        · have HN : Hid (∀ kind l, ¬ isPln b kind l) := Lib.hid fun kind l' h => by
            obtain ⟨rfl, rfl⟩ := HUN.out kind l' h
            exact hz (HPL.out.1 h).1
          have hzn : (z != 0) = true := by simp only [bne, beq_eq_false_iff_ne.2 hz]; rfl
          clear hz s1 s2
          go_wp2_with fail
          refine bodyPost_ret (v := .tuple #[.int .i64 0, .slice none 0 0, .int .i64 60]) ?_ rfl ?_
          · simp [results, Try.results60, go_sem]
          · exact ⟨hB3, .inr ⟨HN.out, rfl⟩⟩
end Go.Proofs.Ytonbcipofakpjaa

-- Pieces of memory: the book of chapter 6, cells that came out.
namespace Go.Proofs.Ytonbcipofakpjaa
open Go.RowKit
/-- A book in a block of whatever type, at its head. -/
def bookTE (T : TypeId) (bb : Nat) (rest : List Value) (v : Value) (xs : List (Value × List UInt8)) : Ent :=
  ⟨fun g => g = bb ∨ v.ownBlock = some g ∨ InL (xs.map Prod.fst) g, fun w => BookAt w 0 bb v (xs.map Prod.fst) (bkF xs) T rest, fun h k =>
    ⟨k.blk.of_heap (h bb (.inl rfl)), Own.heap k.own (fun g hg => h g (.inr (.inl hg))), fun j u hj => Own.heap (k.each j u hj) (fun g hg => h g (.inr (.inr ⟨j, u, hj, hg⟩))), k.apart⟩⟩
theorem TakeT_sep {T : TypeId} {rest : List Value} (hT1 : 5 ≠ T) (hT2 : 27 ≠ T) {w0 w : World} {L : List Ent} {bb : Nat} {v u : Value} {xs : List (Value × List UInt8)} {l : List UInt8} (h : Sep w0 w (bookTE T bb rest v xs :: bytesE u l :: L)) (hn : xs.length ≤ 100000000) :
    Calls Try.prog 18 #[.pointer (some ⟨bb, 0, none⟩), u] w fun e w' => (∃ x, e = .returned x) ∧ ∃ v', Sep w0 w' (bookTE T bb rest v' (xs ++ [(u, l)]) :: L) := by
  have hB : BookAt w 0 bb v (xs.map Prod.fst) (bkF xs) T rest := h.head
  have hU : OwB w 0 u l := h.tail.head
  refine (Take_gen hT1 hT2 w 0 bb v _ _ u l hB (Nat.zero_le _) (by simpa using hn) hU (fun j y hj g hg hy => h.far (List.mem_cons_self ..) g (.inr (.inr ⟨j, y, hj, hy⟩)) hg)).mono ?_
  rintro e w' ⟨hx, v', hb', ht, hv'⟩
  refine ⟨hx, v', h.join.upd (ht.mono fun b hb => .inl (hb.elim .inl (fun h => .inr (.inl h)))) (E' := bookTE T bb rest v' (xs ++ [(u, l)])) ?_ (fun g hg => ?_)⟩
  · refine ⟨hb'.blk, by simpa using hb'.own, fun j y hj => ?_, by simpa using hb'.apart⟩
    rw [List.map_append] at hj
    have h1 := hb'.each j y hj
    have hlt := (List.getElem?_eq_some_iff.1 hj).1
    simp only [List.length_append, List.length_map, List.map_cons, List.map_nil, List.length_singleton] at hlt
    have e1 : bkF (xs ++ [(u, l)]) j = if j = (xs.map Prod.fst).length then l else bkF xs j := by
      unfold bkF
      rw [List.length_map]
      by_cases hj' : j = xs.length
      · subst hj'; simp [List.getD]
      · rw [if_neg hj']
        simp [List.getD, List.getElem?_append_left (show j < xs.length by omega)]
    rw [e1]; exact h1
  · have hsz := ht.size
    rcases hg with rfl | hg | ⟨j, y, hj, hy⟩
    · exact ⟨.inl (.inl (.inl rfl)), hb'.blk.lt⟩
    · refine ⟨?_, (Own.lt hb'.own g hg).2⟩
      rcases hv' g hg with h1 | h1
      · exact .inl (.inl (.inr (.inl h1)))
      · exact .inr h1
    · refine ⟨.inl ?_, (Own.lt (hb'.each j y (by simpa using hj)) g hy).2⟩
      rw [List.map_append, List.getElem?_append] at hj
      split at hj
      · exact .inl (.inr (.inr ⟨j, y, hj, hy⟩))
      · right
        rw [List.map_cons, List.map_nil, List.getElem?_singleton] at hj
        split at hj
        · injection hj with hj; rw [← hj] at hy; exact hy
        · cases hj
/-! ### lists of cells -/
def lnF (ls : List (Value × Nat)) (j : Nat) : Nat := (ls.getD j (.slice none 0 0, 0)).2
structure ListsAt (w : World) (lv : Value) (ls : List (Value × Nat)) : Prop where
  own : Own w 0 25 1 lv (ls.map Prod.fst).length (ls.map Prod.fst)
  each : ∀ (j : Nat) (u : Value), (ls.map Prod.fst)[j]? = some u → OwQ w u (lnF ls j) 0 0
  apart : ApartL (ls.map Prod.fst)
theorem OwQ.heap {w w' : World} {u : Value} {n q : Nat} {m : Int} (h : OwQ w u n m q) (hk : ∀ g, u.ownBlock = some g → w'.heap[g]? = w.heap[g]?) : OwQ w' u n m q := by
  obtain ⟨xs, h1, h2⟩ := h; exact ⟨xs, h1.heap hk, h2⟩
theorem OwQ.any {w : World} {u : Value} {n : Nat} {m : Int} (h : OwQ w u n m 0) (m' : Int) : OwQ w u n m' 0 := by
  obtain ⟨xs, h1, h2⟩ := h; exact ⟨xs, h1, fun k hk => absurd hk (Nat.not_lt_zero _)⟩
def listsE (lv : Value) (ls : List (Value × Nat)) : Ent :=
  ⟨fun g => lv.ownBlock = some g ∨ InL (ls.map Prod.fst) g, fun w => ListsAt w lv ls, fun h k =>
    ⟨Own.heap k.own (fun g hg => h g (.inl hg)), fun j u hj => OwQ.heap (k.each j u hj) (fun g hg => h g (.inr ⟨j, u, hj, hg⟩)), k.apart⟩⟩
def cellsE (l : List CV) : List Ent := l.flatMap fun x => [bytesE x.kv x.c.key, bytesE x.vv x.c.val]
def pairsC (l : List CV) : List (Value × List UInt8) := l.flatMap fun x => [(x.kv, x.c.key), (x.vv, x.c.val)]
theorem pairsC_length (l : List CV) : (pairsC l).length = 2 * l.length := by
  induction l with
  | nil => rfl
  | cons x r ih => simp only [pairsC, List.flatMap_cons, List.length_append, List.length_cons, List.length_nil] at ih ⊢; omega
theorem pairsC_snoc (l : List CV) {k : Nat} (h : k < l.length) : pairsC (l.take (k + 1)) = pairsC (l.take k) ++ [(l[k].kv, l[k].c.key)] ++ [(l[k].vv, l[k].c.val)] := by
  rw [List.take_succ_eq_append_getElem h]; unfold pairsC; rw [List.flatMap_append, List.append_assoc]; rfl
theorem cellsE_drop (l : List CV) {k : Nat} (h : k < l.length) : cellsE (l.drop k) = bytesE l[k].kv l[k].c.key :: bytesE l[k].vv l[k].c.val :: cellsE (l.drop (k + 1)) := by
  rw [List.drop_eq_getElem_cons h]; rfl
/-- Cells that came out, each piece by itself. -/
theorem Sep.cellsAdd {w0 w : World} {L : List Ent} {base : Nat} {v : Value} {l : List CV} (h : Sep w0 w L) (hL : ∀ E ∈ L, ∀ g, E.F g → g < base) (ho : OwCs w base v l) : Sep w0 w (ownE 32 5 v l.length (flatC l) :: (cellsE l ++ L)) := by
  have hall : ∀ E ∈ cellsE l, E.p w ∧ (∀ g, E.F g → base ≤ g ∧ g < w.heap.size ∧ ∃ cs, OBlk w g 5 cs) := fun E hE => by
    obtain ⟨x, hx, hE⟩ := List.mem_flatMap.1 hE
    obtain ⟨hk, hv⟩ := ho.each x hx
    simp only [List.mem_cons, List.not_mem_nil, or_false] at hE
    rcases hE with rfl | rfl
    · exact ⟨OwB.low hk (Nat.zero_le _), fun g hg => ⟨(Own.lt hk g hg).1, (Own.lt hk g hg).2, OwB.blkU hk hg⟩⟩
    · exact ⟨OwB.low hv (Nat.zero_le _), fun g hg => ⟨(Own.lt hv g hg).1, (Own.lt hv g hg).2, OwB.blkU hv hg⟩⟩
  have key : ∀ (l : List CV) (S : List Ent), Sep w0 w S → (∀ E ∈ S, ∀ g, E.F g → g < base) → (∀ E ∈ cellsE l, E.p w ∧ (∀ g, E.F g → base ≤ g ∧ g < w.heap.size)) → ((l.flatMap fun x => [x.kv.ownBlock, x.vv.ownBlock]).filterMap id).Pairwise (· < ·) → Sep w0 w (cellsE l ++ S) := by
    intro l
    induction l with
    | nil => intro S hS _ _ _; exact hS
    | cons x r ih =>
      intro S hS hSb hp hr
      have hr' : ((r.flatMap fun x => [x.kv.ownBlock, x.vv.ownBlock]).filterMap id).Pairwise (· < ·) := by
        rw [List.flatMap_cons, List.filterMap_append, List.pairwise_append] at hr
        exact hr.2.1
      have hS2 := ih S hS hSb (fun E hE => hp E (by simp only [cellsE, List.flatMap_cons] at hE ⊢; exact List.mem_append_right _ hE)) hr'
      have hmem : ∀ (y : CV), y ∈ r → ∀ g, (y.kv.ownBlock = some g ∨ y.vv.ownBlock = some g) → g ∈ ((r.flatMap fun x => [x.kv.ownBlock, x.vv.ownBlock]).filterMap id) := fun y hy g hg => by
        rw [List.mem_filterMap]
        refine ⟨some g, List.mem_flatMap.2 ⟨y, hy, ?_⟩, rfl⟩
        simp only [List.mem_cons, List.not_mem_nil, or_false]
        exact hg.imp Eq.symm Eq.symm
      rw [List.flatMap_cons, List.filterMap_append, List.pairwise_append] at hr
      obtain ⟨hr1, _, hr3⟩ := hr
      have hkp := hp (bytesE x.kv x.c.key) (by simp [cellsE])
      have hvp := hp (bytesE x.vv x.c.val) (by simp [cellsE])
      have far : ∀ (u : Value), (u = x.kv ∨ u = x.vv) → ∀ A ∈ cellsE r ++ S, ∀ g, u.ownBlock = some g → ¬ A.F g := fun u hu A hA g hg hAg => by
        rcases List.mem_append.1 hA with hA | hA
        · obtain ⟨y, hy, hA⟩ := List.mem_flatMap.1 hA
          have hyg : y.kv.ownBlock = some g ∨ y.vv.ownBlock = some g := by
            simp only [List.mem_cons, List.not_mem_nil, or_false] at hA
            rcases hA with rfl | rfl
            · exact .inl hAg
            · exact .inr hAg
          have h1 : g ∈ [x.kv.ownBlock, x.vv.ownBlock].filterMap id := by
            rw [List.mem_filterMap]
            refine ⟨some g, ?_, rfl⟩
            simp only [List.mem_cons, List.not_mem_nil, or_false]
            rcases hu with rfl | rfl
            · exact .inl hg.symm
            · exact .inr hg.symm
          have := hr3 g h1 g (hmem y hy g hyg)
          omega
        · have h1 := hSb A hA g hAg
          have h2 : base ≤ g := by
            rcases hu with rfl | rfl
            · exact (hkp.2 g hg).1
            · exact (hvp.2 g hg).1
          omega
      have hV := hS2.cons (E := bytesE x.vv x.c.val) hvp.1 (fun g hg => (hvp.2 g hg).2) (fun A hA g hg => far x.vv (.inr rfl) A hA g hg)
      refine hV.cons (E := bytesE x.kv x.c.key) hkp.1 (fun g hg => (hkp.2 g hg).2) (fun A hA g hg => ?_)
      rcases List.mem_cons.1 hA with rfl | hA
      · intro hvg
        have hk' : x.kv.ownBlock = some g := hg
        have hv' : x.vv.ownBlock = some g := hvg
        rw [hk', hv'] at hr1
        simp at hr1
      · exact far x.kv (.inl rfl) A hA g hg
  have hC := key l L h hL (fun E hE => ⟨(hall E hE).1, fun g hg => ⟨((hall E hE).2 g hg).1, ((hall E hE).2 g hg).2.1⟩⟩) ho.apart
  refine hC.cons (E := ownE 32 5 v l.length (flatC l)) (Own.low ho.own (Nat.zero_le _)) (fun g hg => (Own.lt ho.own g hg).2) (fun A hA g hg hAg => ?_)
  rcases List.mem_append.1 hA with hA | hA
  · obtain ⟨cs, h1⟩ := ((hall A hA).2 g hAg).2.2
    exact Own.ne_Tg ho.own h1 (by decide) hg.symm
  · have h1 := hL A hA g hAg
    have h2 := (Own.lt ho.own g hg).1
    omega
theorem Sep.cells {w0 w w' : World} {L : List Ent} {v : Value} {l : List CV} (h : Sep w0 w L) (hb : Below w.heap.size w w') (ho : OwCs w' w.heap.size v l) : Sep w0 w' (ownE 32 5 v l.length (flatC l) :: (cellsE l ++ L)) :=
  (h.below hb).cellsAdd (fun E hE g hg => (h.each E hE).2 g hg) ho
theorem Take6_sep {w0 w : World} {L : List Ent} {bb : Nat} {v : Value} {rest : List Value} {xs : List (Value × List UInt8)} {x : CV} (h : Sep w0 w (bookTE 56 bb rest v xs :: bytesE x.kv x.c.key :: bytesE x.vv x.c.val :: L)) (hn : xs.length ≤ 10000000) :
    Calls Try.prog 61 #[.pointer (some ⟨bb, 0, none⟩), cellV x] w fun e w' => (∃ y, e = .returned y) ∧ ∃ v', Sep w0 w' (bookTE 56 bb rest v' (xs ++ [(x.kv, x.c.key)] ++ [(x.vv, x.c.val)]) :: L) := by
  obtain ⟨kv, vv, key, ck, val, pg, ct⟩ := x
  have hS1 := h.alloc 32 [kv, .int .i64 ck, vv, .int .i64 pg, .int .i64 ct]
  have hS2 : Sep w0 _ (bookTE 56 bb rest v xs :: bytesE kv key :: (blkE w.heap.size 32 [kv, .int .i64 ck, vv, .int .i64 pg, .int .i64 ct] :: bytesE vv val :: L)) := Sep.sn [_] hS1.sw1
  have hlt := hS1.blk.lt
  unfold cellV
  simp only at hS2 ⊢
  clear h hS1
  have c0 := hS2.tail.tail.blk.cell' (j := 0) rfl
  go_enter Try.func61, Try.ntmps61
  go_upto_region 1 with (fail)
  generalize w.alloc (.cells #[kv, .int .i64 ck, vv, .int .i64 pg, .int .i64 ct] 32) = w1 at *
  have hT := fun nq => TakeT_sep (T := 56) (by decide) (by decide) (hS2.drewN nq) (by omega)
  have HT := Lib.hid hT
  clear hT
  refine wp_region_dtail 5 (by kernel_rfl) (by kernel_rfl) ?_
  simp only [List.take_succ_cons, List.take_zero, List.drop_succ_cons, List.drop_zero]
  repeat (quiet_step (fail))
  refine wpQuiet_nil ?_
  rintro _ ⟨nq, rfl⟩
  go_upto_region 2 with (first
    | (go_at_call 18; refine (HT.out nq).mono ?_; rintro e w3 ⟨⟨_, rfl⟩, v3, hS3⟩)
    | fail)
  clear HT hS2 c0
  have c2 := hS3.tail.blk.cell' (j := 2) rfl
  have hS4 : Sep w0 w3 (bookTE 56 bb rest v3 (xs ++ [(kv, key)]) :: bytesE vv val :: (blkE w.heap.size 32 [kv, .int .i64 ck, vv, .int .i64 pg, .int .i64 ct] :: L)) := Sep.sn [_] hS3
  have hT := fun nq => TakeT_sep (T := 56) (by decide) (by decide) (hS4.drewN nq) (by simp; omega)
  have HT := Lib.hid hT
  clear hT hS3
  refine wp_region_dtail 5 (by kernel_rfl) (by kernel_rfl) ?_
  simp only [List.take_succ_cons, List.take_zero, List.drop_succ_cons, List.drop_zero]
  repeat (quiet_step (fail))
  refine wpQuiet_nil ?_
  rintro _ ⟨nq2, rfl⟩
  go_wp2_with (first
    | (go_at_call 18; refine (HT.out nq2).mono ?_; rintro e w5 ⟨⟨_, rfl⟩, v5, hS5⟩)
    | fail)
  refine bodyPost_end (results_none rfl _ _ _) rfl ?_
  exact ⟨⟨_, rfl⟩, v5, (Sep.sw1 hS5).tail⟩
theorem Owned6_sep {w0 w : World} {L : List Ent} {bb : Nat} {v lv : Value} {xs : List (Value × List UInt8)} {ls : List (Value × Nat)} (h : Sep w0 w (bookTE 56 bb [lv] v xs :: listsE lv ls :: L)) (hn : xs.length ≤ 8388608) (hl : ∀ p ∈ xs, p.2.length ≤ 1000000000)
    (hn2 : ls.length ≤ 1000000) (hl2 : ∀ p ∈ ls, p.2 ≤ 1000000000) :
    Calls Try.prog 31 #[.pointer (some ⟨bb, 0, none⟩)] w fun e w' => e = .returned (.bool true) ∧ Sep w0 w' L := by
  have hB : BookAt w 0 bb v (xs.map Prod.fst) (bkF xs) 56 [lv] := h.head
  have hLs : ListsAt w lv ls := h.tail.head
  refine (Lists_any (fun w1 => Sep w0 w1 (blkE bb 56 [v, lv] :: listsE lv ls :: L)) lv (ls.map Prod.fst) (lnF ls) bb w (fun w1 hS => ?_) hLs.apart (by simpa using hn2) (fun j hj => ?_) ?_).mono ?_
  · have hL1 : ListsAt w1 lv ls := hS.tail.head
    refine ⟨v, hS.blk, hL1.own, fun j u hj => ?_⟩
    have := (hL1.each j u hj).any (1000 + (j : Int))
    simpa using this
  · rw [List.length_map] at hj
    have e : lnF ls j = ls[j].2 := by simp [lnF, List.getD, hj]
    rw [e]; exact hl2 _ (List.getElem_mem hj)
  · refine (BookOwned_gen (T := 56) (rest := [lv]) (by decide) (by decide) v _ _ 0 bb w hB (by simpa using hn) (fun j hj => ?_)).mono ?_
    · rw [List.length_map] at hj
      have e : bkF xs j = xs[j].2 := by simp [bkF, List.getD, hj]
      rw [e]; exact hl _ (List.getElem_mem hj)
    · rintro e w1 ⟨rfl, ht, _⟩
      have hbb : ¬ InL (xs.map Prod.fst) bb := fun ⟨j, u, hj, hu⟩ => OwB.ne_blk (hB.each j u hj) hB.blk (by decide) hu.symm
      exact ⟨rfl, h.upd (ht.mono fun b hb => .inr (.inr hb)) (E' := blkE bb 56 [v, lv]) (hB.blk.turn ht hbb) (fun g hg => ⟨.inl (.inl hg), by have h1 := h.lt g (.inl hg); have h2 := ht.size; omega⟩)⟩
  · rintro e w' ⟨rfl, w1, hS, ht⟩
    exact ⟨rfl, hS.tail.kill (ht.mono fun b hb => .inr hb)⟩
end Go.Proofs.Ytonbcipofakpjaa
