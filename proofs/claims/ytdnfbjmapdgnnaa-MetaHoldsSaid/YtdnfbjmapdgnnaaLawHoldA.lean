/- espalierlaw05.newer, alone: walks. -/
import Derived.Test.YtdnfbjmapdgnnaaLawDecA
namespace Go.Proofs.Ytdnfbjmapdgnnaa
open Go.RowKit
theorem MetaN.pg_meta {m : MetaN} (h : m.okb = true) : isMeta m.pg = true ∧ readM m.pg = m ∧ fldI m.pg 1 = m.txn := by
  obtain ⟨eg, pg, tx, rt, ct, fr, ls, hi, rfl, h1, h2⟩ := m.nat h
  rw [h2]
  refine ⟨isMeta_encF h1, ?_, fldI_encF h1 1 (by omega)⟩
  unfold readM
  rw [engI_encF h1, fldI_encF h1 0 (by omega), fldI_encF h1 1 (by omega), fldI_encF h1 2 (by omega), fldI_encF h1 3 (by omega), fldI_encF h1 4 (by omega), fldI_encF h1 5 (by omega), fldI_encF h1 6 (by omega)]
  rfl
theorem MetaN.txn_range {m : MetaN} (h : m.okb = true) : 0 ≤ m.txn ∧ m.txn ≤ 1099511627776 := by
  simp only [MetaN.okb, okB, Bool.and_eq_true] at h
  exact of_decide_eq_true h.1.1.1.1.2
def isChoice (m : MetaN) (at_ c : Int) (w : World) (e : Ending) (w' : World) : Prop :=
  e = .returned (.tuple #[.agg #[.int .i64 m.engine, .int .i64 m.page, .int .i64 m.txn, .int .i64 m.root, .int .i64 m.count, .int .i64 m.free, .int .i64 m.listed, .int .i64 m.high], .int .i64 at_, .int .i64 c]) ∧ Below w.heap.size w w'
/-- The next one stands in place 1. -/
theorem Choose_up {m n : MetaN} (hm : m.okb = true) (hn : n.okb = true) (he : m.txn % 2 = 0) (hs : n.txn = m.txn + 1) (va vb : Value) (w : World) (ha : RdB w va m.pg) (hb : RdB w vb n.pg) :
    Calls Try.prog 17 #[va, vb] w (isChoice n 1 0 w) := by
  obtain ⟨a1, a2, a3⟩ := MetaN.pg_meta hm
  obtain ⟨b1, b2, b3⟩ := MetaN.pg_meta hn
  have hp : pickB m.pg n.pg = true := by
    have h1 : (n.txn % 2 == 1) = true := by simp; omega
    have h2 : decide (m.txn < n.txn) = true := by simp; omega
    unfold pickB twoB; rw [b1, b3, a3, h1, h2]; simp
  refine (ChooseM va vb _ _ w ha hb).mono fun e w' h => ?_
  obtain ⟨rfl, hw⟩ := h
  have hc : choM m.pg n.pg = n := by unfold choM; rw [hp]; exact b2
  rw [hc, choW, choE, hp]
  exact ⟨rfl, hw⟩
/-- The next one stands in place 0. -/
theorem Choose_down {m n : MetaN} (hm : m.okb = true) (hn : n.okb = true) (he : m.txn % 2 = 1) (hs : n.txn = m.txn + 1) (va vb : Value) (w : World) (ha : RdB w va n.pg) (hb : RdB w vb m.pg) :
    Calls Try.prog 17 #[va, vb] w (isChoice n 0 0 w) := by
  obtain ⟨a1, a2, a3⟩ := MetaN.pg_meta hm
  obtain ⟨b1, b2, b3⟩ := MetaN.pg_meta hn
  have h1 : (n.txn % 2 == 0) = true := by simp; omega
  have h2 : decide (n.txn < m.txn) = false := by simp; omega
  have h3 : oneB n.pg = true := by unfold oneB; rw [b1, b3, h1]; rfl
  have hp : pickB n.pg m.pg = false := by
    unfold pickB; rw [h3, b3, a3, h2]; simp
  refine (ChooseM va vb _ _ w ha hb).mono fun e w' h => ?_
  obtain ⟨rfl, hw⟩ := h
  have hc : choM n.pg m.pg = n := by unfold choM; rw [hp, h3]; exact b2
  rw [hc, choW, choE, hp, h3]
  exact ⟨rfl, hw⟩
/-- Beside one that is none, in its place. -/
theorem Choose_a {m : MetaN} (hm : m.okb = true) (he : m.txn % 2 = 0) {l : List UInt8} (hl : isMeta l = false) (va vb : Value) (w : World) (ha : RdB w va m.pg) (hb : RdB w vb l) :
    Calls Try.prog 17 #[va, vb] w (isChoice m 0 0 w) := by
  obtain ⟨a1, a2, a3⟩ := MetaN.pg_meta hm
  have h1 : (m.txn % 2 == 0) = true := by simp; omega
  have h3 : oneB m.pg = true := by unfold oneB; rw [a1, a3, h1]; rfl
  have hp : pickB m.pg l = false := by unfold pickB twoB; rw [hl]; simp
  refine (ChooseM va vb _ _ w ha hb).mono fun e w' h => ?_
  obtain ⟨rfl, hw⟩ := h
  have hc : choM m.pg l = m := by unfold choM; rw [hp, h3]; exact a2
  rw [hc, choW, choE, hp, h3]
  exact ⟨rfl, hw⟩
theorem Choose_b {m : MetaN} (hm : m.okb = true) (he : m.txn % 2 = 1) {l : List UInt8} (hl : isMeta l = false) (va vb : Value) (w : World) (ha : RdB w va l) (hb : RdB w vb m.pg) :
    Calls Try.prog 17 #[va, vb] w (isChoice m 1 0 w) := by
  obtain ⟨a1, a2, a3⟩ := MetaN.pg_meta hm
  have h1 : (m.txn % 2 == 1) = true := by simp; omega
  have h3 : oneB l = false := by unfold oneB; rw [hl]; rfl
  have hp : pickB l m.pg = true := by unfold pickB twoB; rw [a1, a3, h1, h3]; simp
  refine (ChooseM va vb _ _ w ha hb).mono fun e w' h => ?_
  obtain ⟨rfl, hw⟩ := h
  have hc : choM l m.pg = m := by unfold choM; rw [hp]; exact a2
  rw [hc, choW, choE, hp]
  exact ⟨rfl, hw⟩
/-- Beside one that is none, out of its place: none. -/
theorem Choose_0 {a b : List UInt8} (ha : oneB a = false) (hb : twoB b = false) (va vb : Value) (w : World) (ra : RdB w va a) (rb : RdB w vb b) :
    Calls Try.prog 17 #[va, vb] w (isChoice zeroM 0 51 w) := by
  have hp : pickB a b = false := by unfold pickB; rw [hb]; rfl
  refine (ChooseM va vb _ _ w ra rb).mono fun e w' h => ?_
  obtain ⟨rfl, hw⟩ := h
  have hc : choM a b = zeroM := by unfold choM; rw [hp, ha]; rfl
  rw [hc, choW, choE, hp, ha]
  exact ⟨rfl, hw⟩
theorem none_one {l : List UInt8} (hl : isMeta l = false) : oneB l = false := by unfold oneB; rw [hl]; rfl
theorem none_two {l : List UInt8} (hl : isMeta l = false) : twoB l = false := by unfold twoB; rw [hl]; rfl
theorem odd_one {m : MetaN} (hm : m.okb = true) (h : m.txn % 2 = 1) : oneB m.pg = false := by
  obtain ⟨a1, a2, a3⟩ := MetaN.pg_meta hm
  have h1 : (m.txn % 2 == 0) = false := by simp; omega
  unfold oneB; rw [a1, a3, h1]; rfl
theorem even_two {m : MetaN} (hm : m.okb = true) (h : m.txn % 2 = 0) : twoB m.pg = false := by
  obtain ⟨a1, a2, a3⟩ := MetaN.pg_meta hm
  have h1 : (m.txn % 2 == 1) = false := by simp; omega
  unfold twoB; rw [a1, a3, h1]; rfl
set_option maxRecDepth 100000 in
set_option maxHeartbeats 2000000 in
theorem newer_any {m n : MetaN} (hm : m.okb = true) (hn : n.okb = true) (hs : n.txn = m.txn + 1) (vb vc : Value) (w : World) (rb : RdB w vb m.pg) (rc : RdB w vc n.pg) :
    Calls Try.prog 21 #[vb, vc, .agg #[.int .i64 m.engine, .int .i64 m.page, .int .i64 m.txn, .int .i64 m.root, .int .i64 m.count, .int .i64 m.free, .int .i64 m.listed, .int .i64 m.high], .agg #[.int .i64 n.engine, .int .i64 n.page, .int .i64 n.txn, .int .i64 n.root, .int .i64 n.count, .int .i64 n.free, .int .i64 n.listed, .int .i64 n.high]] w fun e w' =>
      e = .returned (.bool true) ∧ Below w.heap.size w w' := by
  have hr := MetaN.txn_range hm
  have t1 : -9223372036854775808 ≤ m.txn := by omega
  have t2 : m.txn ≤ 9223372036854775807 := by omega
  have HS := Lib.hid hs
  clear hs hr
  rcases (by omega : m.txn % 2 = 0 ∨ m.txn % 2 = 1) with hp | hp
  · go_enter Try.func21, Try.ntmps21
    go_wp2_with (go_at_call 11; refine (Slot_any _ t1 t2 _).mono ?_; rintro e w5 ⟨rfl, rfl⟩)
    refine (Choose_up hm hn hp HS.out _ _ _ ((rb.alloc _).alloc _) ((rc.alloc _).alloc _)).mono ?_
    rintro e w2 ⟨rfl, hw2⟩
    obtain ⟨_, hB, b1⟩ := two_metas m n hw2 (by simp)
    obtain ⟨d0, d1, d2, d3, d4, d5, d6, d7⟩ := MAt.cells hB
    have gB := hB.lt
    clear hw2 hB
    go_wp2_with fail
    go_ret
    exact ⟨rfl, b1.alloc b1.size _⟩
  · go_enter Try.func21, Try.ntmps21
    go_wp2_with (go_at_call 11; refine (Slot_any _ t1 t2 _).mono ?_; rintro e w5 ⟨rfl, rfl⟩)
    refine (Choose_down hm hn hp HS.out _ _ _ ((rc.alloc _).alloc _) ((rb.alloc _).alloc _)).mono ?_
    rintro e w2 ⟨rfl, hw2⟩
    obtain ⟨_, hB, b1⟩ := two_metas m n hw2 (by simp)
    obtain ⟨d0, d1, d2, d3, d4, d5, d6, d7⟩ := MAt.cells hB
    have gB := hB.lt
    clear hw2 hB
    go_wp2_with fail
    go_ret
    exact ⟨rfl, b1.alloc b1.size _⟩
set_option maxRecDepth 100000 in
set_option maxHeartbeats 2000000 in
theorem alone_any {m : MetaN} (hm : m.okb = true) {l : List UInt8} (hl : isMeta l = false) (vb vo : Value) (w : World) (rb : RdB w vb m.pg) (ro : RdB w vo l) :
    Calls Try.prog 22 #[vb, vo, .agg #[.int .i64 m.engine, .int .i64 m.page, .int .i64 m.txn, .int .i64 m.root, .int .i64 m.count, .int .i64 m.free, .int .i64 m.listed, .int .i64 m.high]] w fun e w' =>
      e = .returned (.bool true) ∧ Below w.heap.size w w' := by
  have hr := MetaN.txn_range hm
  have t1 : -9223372036854775808 ≤ m.txn := by omega
  have t2 : m.txn ≤ 9223372036854775807 := by omega
  clear hr
  rcases (by omega : m.txn % 2 = 0 ∨ m.txn % 2 = 1) with hp | hp
  · go_enter Try.func22, Try.ntmps22
    go_wp2_with (go_at_call 11; refine (Slot_any _ t1 t2 _).mono ?_; rintro e w5 ⟨rfl, rfl⟩)
    refine (Choose_a hm hp hl _ _ _ (rb.alloc _) (ro.alloc _)).mono ?_
    rintro e w2 ⟨rfl, hw2⟩
    have hA := (MAt.new m w).below hw2
    have rb2 := (rb.alloc (.cells #[.int .i64 m.engine, .int .i64 m.page, .int .i64 m.txn, .int .i64 m.root, .int .i64 m.count, .int .i64 m.free, .int .i64 m.listed, .int .i64 m.high] 24)).below hw2 (Nat.le_refl _)
    have ro2 := (ro.alloc (.cells #[.int .i64 m.engine, .int .i64 m.page, .int .i64 m.txn, .int .i64 m.root, .int .i64 m.count, .int .i64 m.free, .int .i64 m.listed, .int .i64 m.high] 24)).below hw2 (Nat.le_refl _)
    have b2 := ((Below.refl w.heap.size w).alloc (Nat.le_refl _) (.cells #[.int .i64 m.engine, .int .i64 m.page, .int .i64 m.txn, .int .i64 m.root, .int .i64 m.count, .int .i64 m.free, .int .i64 m.listed, .int .i64 m.high] 24)).trans (hw2.mono (by simp))
    clear hw2
    go_wp2_with fail
    refine (Choose_0 (none_one hl) (even_two hm hp) _ _ _ (ro2.alloc _) (rb2.alloc _)).mono ?_
    rintro e w3 ⟨rfl, hw3⟩
    have hA3 := (hA.alloc (.cells #[.int .i64 m.engine, .int .i64 m.page, .int .i64 m.txn, .int .i64 m.root, .int .i64 m.count, .int .i64 m.free, .int .i64 m.listed, .int .i64 m.high] 24)).below hw3
    have hC3 := (MAt.new m w2).below hw3
    have b3 := (b2.alloc b2.size (.cells #[.int .i64 m.engine, .int .i64 m.page, .int .i64 m.txn, .int .i64 m.root, .int .i64 m.count, .int .i64 m.free, .int .i64 m.listed, .int .i64 m.high] 24)).trans (hw3.mono (by have := b2.size; simp; omega))
    obtain ⟨d0, d1, d2, d3, d4, d5, d6, d7⟩ := MAt.cells hA3
    obtain ⟨e0, e1, e2, e3, e4, e5, e6, e7⟩ := MAt.cells hC3
    have gA := hA3.lt
    have gC := hC3.lt
    clear hw3 hA hA3 hC3
    go_wp2_with fail
    go_ret
    exact ⟨rfl, b3.alloc b3.size _⟩
  · go_enter Try.func22, Try.ntmps22
    go_wp2_with (go_at_call 11; refine (Slot_any _ t1 t2 _).mono ?_; rintro e w5 ⟨rfl, rfl⟩)
    refine (Choose_b hm hp hl _ _ _ (ro.alloc _) (rb.alloc _)).mono ?_
    rintro e w2 ⟨rfl, hw2⟩
    have hA := (MAt.new m w).below hw2
    have rb2 := (rb.alloc (.cells #[.int .i64 m.engine, .int .i64 m.page, .int .i64 m.txn, .int .i64 m.root, .int .i64 m.count, .int .i64 m.free, .int .i64 m.listed, .int .i64 m.high] 24)).below hw2 (Nat.le_refl _)
    have ro2 := (ro.alloc (.cells #[.int .i64 m.engine, .int .i64 m.page, .int .i64 m.txn, .int .i64 m.root, .int .i64 m.count, .int .i64 m.free, .int .i64 m.listed, .int .i64 m.high] 24)).below hw2 (Nat.le_refl _)
    have b2 := ((Below.refl w.heap.size w).alloc (Nat.le_refl _) (.cells #[.int .i64 m.engine, .int .i64 m.page, .int .i64 m.txn, .int .i64 m.root, .int .i64 m.count, .int .i64 m.free, .int .i64 m.listed, .int .i64 m.high] 24)).trans (hw2.mono (by simp))
    clear hw2
    go_wp2_with fail
    refine (Choose_0 (odd_one hm hp) (none_two hl) _ _ _ (rb2.alloc _) (ro2.alloc _)).mono ?_
    rintro e w3 ⟨rfl, hw3⟩
    have hA3 := (hA.alloc (.cells #[.int .i64 m.engine, .int .i64 m.page, .int .i64 m.txn, .int .i64 m.root, .int .i64 m.count, .int .i64 m.free, .int .i64 m.listed, .int .i64 m.high] 24)).below hw3
    have hC3 := (MAt.new m w2).below hw3
    have b3 := (b2.alloc b2.size (.cells #[.int .i64 m.engine, .int .i64 m.page, .int .i64 m.txn, .int .i64 m.root, .int .i64 m.count, .int .i64 m.free, .int .i64 m.listed, .int .i64 m.high] 24)).trans (hw3.mono (by have := b2.size; simp; omega))
    obtain ⟨d0, d1, d2, d3, d4, d5, d6, d7⟩ := MAt.cells hA3
    obtain ⟨e0, e1, e2, e3, e4, e5, e6, e7⟩ := MAt.cells hC3
    have gA := hA3.lt
    have gC := hC3.lt
    clear hw3 hA hA3 hC3
    go_wp2_with fail
    go_ret
    exact ⟨rfl, b3.alloc b3.size _⟩
end Go.Proofs.Ytdnfbjmapdgnnaa
