/- plain.Insert into a page that is empty, or beyond its end: walks. -/
import Derived.Test.YtonbcipofakpjaaPlnPg
import Derived.Deep.RegionLaw
namespace Go.Proofs.Ytonbcipofakpjaa
open Go.RowKit
set_option maxRecDepth 100000 in
set_option maxHeartbeats 4000000 in
theorem own_any (x : CV) (w : World) (hx : x.ok w) (h1 : x.c.key.length ≤ 140737488355328) (h2 : x.c.val.length ≤ 140737488355328) :
    Calls Try.prog 71 #[cellV x] w fun e w' => ∃ y : CV, e = .returned (cellV y) ∧ y.c = x.c ∧ OwB w' w.heap.size y.kv x.c.key ∧ OwB w' w.heap.size y.vv x.c.val ∧ (∀ g g', y.kv.ownBlock = some g → y.vv.ownBlock = some g' → g < g') ∧ Below w.heap.size w w' := by
  obtain ⟨A, ca, B, cb, key, ck, val, pg, ct, rfl, hk1, hk2⟩ := CV.form hx
  simp only at h1 h2
  have hkr : RdB w (.slice A key.length ca) key := hx.k
  have hvr : RdB w (.slice B val.length cb) val := hx.v
  have hC0 := OBlk.new' w 32 [.slice A key.length ca, .int .i64 ck, .slice B val.length cb, .int .i64 pg, .int .i64 ct]
  have hC := hC0.alloc (.cells #[.slice none 0 0, .int .i64 0, .slice none 0 0, .int .i64 0, .int .i64 0] 32)
  have hR := OBlk.new' (w.alloc (.cells #[.slice A key.length ca, .int .i64 ck, .slice B val.length cb, .int .i64 pg, .int .i64 ct] 32)) 32 [.slice none 0 0, .int .i64 0, .slice none 0 0, .int .i64 0, .int .i64 0]
  rw [World.size_alloc] at hR
  have hA := (((Below.refl w.heap.size w).alloc (Nat.le_refl _) (.cells #[.slice A key.length ca, .int .i64 ck, .slice B val.length cb, .int .i64 pg, .int .i64 ct] 32))).alloc (by simp) (.cells #[.slice none 0 0, .int .i64 0, .slice none 0 0, .int .i64 0, .int .i64 0] 32)
  unfold cellV
  go_enter Try.func71, Try.ntmps71
  go_upto_region 1 with (fail)
  have hkr0 := hkr.below hA (Nat.le_refl _)
  have hvr0 := hvr.below hA (Nat.le_refl _)
  generalize (w.alloc (.cells #[.slice A key.length ca, .int .i64 ck, .slice B val.length cb, .int .i64 pg, .int .i64 ct] 32)).alloc (.cells #[.slice none 0 0, .int .i64 0, .slice none 0 0, .int .i64 0, .int .i64 0] 32) = w0 at *
  obtain ⟨c0, c1, c2, c3, c4⟩ := cells5 hC
  have f0 := hC.frozen (j := 0) (by simp)
  have f2 := hC.frozen (j := 2) (by simp)
  have hcl := hC.lt
  have hrl := hR.lt
  go_region_law
    (first
      | (go_simp; go_at_call 91; refine (CloneB_any _ key _ hkr0.drew h1).mono ?_; rintro e w4 ⟨vd, rfl, hod, hw4⟩; obtain ⟨K2, kc2, rfl⟩ := Own.slice hod; have hC4 := hC.drew.below hw4 hcl; have d2 := hC4.cell' (j := 2) (u := .slice B val.length cb) rfl; have d0 := hC4.cell' (j := 0) (u := .slice A key.length ca) rfl; have hvr4 := hvr0.drew.below hw4 (Nat.le_refl _))
      | (go_simp; go_at_call 91; refine (CloneB_any _ val _ hvr4 h2).mono ?_; rintro e w5 ⟨ve, rfl, hoe, hw5⟩; obtain ⟨V2, vc2, rfl⟩ := Own.slice hoe; have hC5 := hC4.below hw5 hC4.lt; have e2 := hC5.cell' (j := 2) (u := .slice B val.length cb) rfl; have e0 := hC5.cell' (j := 0) (u := .slice A key.length ca) rfl; have g2 := hC5.frozen (j := 2) (by simp); have g0 := hC5.frozen (j := 0) (by simp))
      | fail)
  all_goals
    have hz0 : w.heap.size + 1 < w0.heap.size := hrl
    have hz4 : w0.heap.size ≤ w4.heap.size := hw4.size
    have hC6 := (hC5.set 0 (.slice K2 key.length kc2)).set 2 (.slice V2 val.length vc2)
    simp only [List.set_cons_succ, List.set_cons_zero] at hC6
    have hR5 := (hR.drew.below hw4 hrl).below hw5 (by omega)
    have hR6 := (hR5.far (p := ⟨w.heap.size, 0, none⟩) (show w.heap.size + 1 ≠ w.heap.size by omega) (.slice K2 key.length kc2)).far (p := ⟨w.heap.size, 2, none⟩) (show w.heap.size + 1 ≠ w.heap.size by omega) (.slice V2 val.length vc2)
    have hb5 : Below w.heap.size w w5 := (hA.drew.trans (hw4.mono hA.size)).trans (hw5.mono (by have := hA.size; omega))
    have hb6 := (hb5.setCell (p := ⟨w.heap.size, 0, none⟩) (Nat.le_refl _) (.slice K2 key.length kc2)).setCell (p := ⟨w.heap.size, 2, none⟩) (Nat.le_refl _) (.slice V2 val.length vc2)
    have hod5 := Own.below' hod hw5 (Nat.le_refl _)
    have hgk : ∀ k, Value.ownBlock (.slice K2 key.length kc2) = some k → w.heap.size + 1 < k ∧ k < w4.heap.size := fun k hk => ⟨Nat.lt_of_lt_of_le hz0 (Own.lt hod k hk).1, (Own.lt hod k hk).2⟩
    have hgv : ∀ k, Value.ownBlock (.slice V2 val.length vc2) = some k → w4.heap.size ≤ k := fun k hk => (Own.lt hoe k hk).1
    have hod6 : OwB ((w5.setCell ⟨w.heap.size, 0, none⟩ (.slice K2 key.length kc2)).setCell ⟨w.heap.size, 2, none⟩ (.slice V2 val.length vc2)) w.heap.size (.slice K2 key.length kc2) key := Own.heap (OwB.base_le hod5 (b := w.heap.size) fun k hk => by have := (hgk k hk).1; omega) fun k hk => by
      have := (hgk k hk).1
      rw [Below.heap_setCell _ _ _ _ (show k ≠ w.heap.size by omega), Below.heap_setCell _ _ _ _ (show k ≠ w.heap.size by omega)]
    have hoe6 : OwB ((w5.setCell ⟨w.heap.size, 0, none⟩ (.slice K2 key.length kc2)).setCell ⟨w.heap.size, 2, none⟩ (.slice V2 val.length vc2)) w.heap.size (.slice V2 val.length vc2) val := Own.heap (OwB.base_le hoe (b := w.heap.size) fun k hk => by have := hgv k hk; omega) fun k hk => by
      have := hgv k hk
      rw [Below.heap_setCell _ _ _ _ (show k ≠ w.heap.size by omega), Below.heap_setCell _ _ _ _ (show k ≠ w.heap.size by omega)]
    generalize (w5.setCell ⟨w.heap.size, 0, none⟩ (.slice K2 key.length kc2)).setCell ⟨w.heap.size, 2, none⟩ (.slice V2 val.length vc2) = w6 at *
    clear c0 c1 c2 c3 c4 f0 f2 d0 d2 e0 e2 g0 g2 hC hC4 hC5 hR hR5 hb5 hod5
    obtain ⟨y0, y1, y2, y3, y4⟩ := cells5 hC6
    obtain ⟨r0, r1, r2, r3, r4⟩ := cells5 hR6
    have f0 := hR6.frozen (j := 0) (by simp); have f1 := hR6.frozen (j := 1) (by simp); have f2 := hR6.frozen (j := 2) (by simp); have f3 := hR6.frozen (j := 3) (by simp); have f4 := hR6.frozen (j := 4) (by simp)
    have H1 := Lib.hid hgk
    have H2 := Lib.hid hgv
    clear hgk hgv
    go_wp2_with fail
    obtain ⟨e0, e1, e2, e3, e4⟩ := cells5 (set5 hR6 (.slice K2 key.length kc2) (.int .i64 ck) (.slice V2 val.length vc2) (.int .i64 pg) (.int .i64 ct))
    refine bodyPost_ret (v := .agg #[(.slice K2 key.length kc2), .int .i64 ck, (.slice V2 val.length vc2), .int .i64 pg, .int .i64 ct]) ?_ rfl ?_
    · simp [results, Try.results71, go_sem, e0, e1, e2, e3, e4]
    · exact ⟨⟨(.slice K2 key.length kc2), (.slice V2 val.length vc2), ⟨key, ck, val, pg, ct⟩⟩, rfl, rfl, ow5 hod6 (fun k hk => by have := (H1.out k hk).1; omega) _ _ _ _ _, ow5 hoe6 (fun k hk => by have := H2.out k hk; omega) _ _ _ _ _, fun g g' e e' => by have := (H1.out g e).2; have := H2.out g' e'; omega, below5 hb6 (by omega) _ _ _ _ _⟩
end Go.Proofs.Ytonbcipofakpjaa
