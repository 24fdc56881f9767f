/- espalierref05.Choose: the walk. -/
import Derived.Test.YtdnfbjmapdgnnaaMetaChoose
import Derived.Test.YtdnfbjmapdgnnaaRefMetaDec2
namespace Go.Proofs.Ytdnfbjmapdgnnaa
open Go.RowKit
theorem isMeta_txn {l : List UInt8} (h : isMeta l = true) : 0 ≤ fldI l 1 ∧ fldI l 1 ≤ 1099511627776 := by
  simp only [isMeta, Bool.and_eq_true] at h
  obtain ⟨eg, pg, tx, rt, ct, fr, ls, hi, _, _, h3, _, _, _, _, _, _, hok⟩ := okL_nat h.2.1
  have := (okB_bounds hok).2.2.1
  omega
theorem RDecode_y (v : Value) (l : List UInt8) (h : isMeta l = true) (w : World) (hv : RdB w v l) : Calls Try.prog 18 #[v] w fun e w' => e = .returned (.tuple #[.agg #[.int .i64 (engI l), .int .i64 (fldI l 0), .int .i64 (fldI l 1), .int .i64 (fldI l 2), .int .i64 (fldI l 3), .int .i64 (fldI l 4), .int .i64 (fldI l 5), .int .i64 (fldI l 6)], .int .i64 0]) ∧ Below w.heap.size w w' :=
  (RDecode_any v l w hv).mono fun e w' hh => by
    obtain ⟨he, hw⟩ := hh
    rw [h] at he
    exact ⟨he, hw⟩
theorem RDecode_n (v : Value) (l : List UInt8) (h : isMeta l = false) (w : World) (hv : RdB w v l) : Calls Try.prog 18 #[v] w fun e w' => e = .returned (.tuple #[.agg #[.int .i64 0, .int .i64 0, .int .i64 0, .int .i64 0, .int .i64 0, .int .i64 0, .int .i64 0, .int .i64 0], .int .i64 50]) ∧ Below w.heap.size w w' :=
  (RDecode_any v l w hv).mono fun e w' hh => by
    obtain ⟨he, hw⟩ := hh
    rw [h] at he
    exact ⟨he, hw⟩
set_option maxRecDepth 100000 in
set_option maxHeartbeats 1000000 in
theorem rcho_nn (va vb : Value) (a b : List UInt8) (w : World) (ha : RdB w va a) (hb : RdB w vb b) (a0 : isMeta a = false) (b0 : isMeta b = false) :
    Calls Try.prog 19 #[va, vb] w (ChoPost a b w) := by
  have HV : Hid (choV a b = zeroV) := by show _ = _; simp [choV, choW, choE, pickB, oneB, twoB, a0, b0]
  have HW : Hid (choW a b = 0) := by show _ = _; simp [choV, choW, choE, pickB, oneB, twoB, a0, b0]
  have HE : Hid (choE a b = 51) := by show _ = _; simp [choV, choW, choE, pickB, oneB, twoB, a0, b0]
  have h0 : RdB (w.alloc (.cells #[.int .i64 0, .int .i64 0, .int .i64 0, .int .i64 0, .int .i64 0, .int .i64 0, .int .i64 0, .int .i64 0] 24)) va a := ha.alloc _
  have hr0 : OBlk (w.alloc (.cells #[.int .i64 0, .int .i64 0, .int .i64 0, .int .i64 0, .int .i64 0, .int .i64 0, .int .i64 0, .int .i64 0] 24)) w.heap.size 24 zeroV := OBlk.new' w 24 zeroV
  have hl0 : Below w.heap.size w (w.alloc (.cells #[.int .i64 0, .int .i64 0, .int .i64 0, .int .i64 0, .int .i64 0, .int .i64 0, .int .i64 0, .int .i64 0] 24)) := (Below.refl _ _).alloc (Nat.le_refl _) _
  have A0 := Lib.hid a0
  have B0 := Lib.hid b0
  clear a0 b0
  go_enter Try.func19, Try.ntmps19
  go_upto_region 1 with (fail)
  go_cut [7, 8] from 13 to 17 (fun s t wx => ∃ gm : Nat, s = .pointer (some ⟨gm, 0, none⟩) ∧ t = .int .i64 50 ∧ OBlk wx gm 24 zeroV ∧ OBlk wx w.heap.size 24 zeroV ∧ Below w.heap.size w wx)
  case first =>
    go_wp2_with fail
    refine (RDecode_n va a A0.out _ h0).mono ?_
    rintro e w5 ⟨rfl, hw5⟩
    have hl5 := hl0.trans (hw5.mono hl0.size)
    have hr5 := hr0.below hw5 hr0.lt
    go_wp2_with fail
    go_meet
    exact ⟨_, rfl, rfl, OBlk.new' w5 24 zeroV, hr5.alloc _, hl5.alloc hl5.size _⟩
  case rest =>
    obtain ⟨gm, rfl, rfl, hm6, hr6, hl6⟩ := hcut
    clear h0 hr0 hl0
    go_upto_region 2 with (fail)
    go_cut [9, 10] from 18 to 22 (fun s t wx => ∃ gn : Nat, s = .pointer (some ⟨gn, 0, none⟩) ∧ t = .int .i64 50 ∧ OBlk wx gm 24 zeroV ∧ OBlk wx gn 24 zeroV ∧ OBlk wx w.heap.size 24 zeroV ∧ Below w.heap.size w wx)
    case first =>
      go_wp2_with fail
      refine (RDecode_n vb b B0.out _ (hb.below hl6 (Nat.le_refl _))).mono ?_
      rintro e w7 ⟨rfl, hw7⟩
      have hl7 := hl6.trans (hw7.mono hl6.size)
      have hr7 := hr6.below hw7 hr6.lt
      have hm7 := hm6.below hw7 hm6.lt
      go_wp2_with fail
      go_meet
      exact ⟨_, rfl, rfl, hm7.alloc _, OBlk.new' w7 24 zeroV, hr7.alloc _, hl7.alloc hl7.size _⟩
    case rest =>
      obtain ⟨gn, rfl, rfl, hm8, hn8, hr8, hl8⟩ := hcut
      clear hm6 hr6 hl6
      obtain ⟨c0, c1, c2, c3, c4, c5, c6, c7⟩ := cells8 hm8
      obtain ⟨d0, d1, d2, d3, d4, d5, d6, d7⟩ := cells8 hn8
      have f5 : ∀ j, j < 8 → wc.frozen? ⟨w.heap.size, j, none⟩ = false := fun j hj => hr8.frozen hj
      have f0 := f5 0 (by omega); have f1 := f5 1 (by omega); have f2 := f5 2 (by omega); have f3 := f5 3 (by omega)
      have f4 := f5 4 (by omega); have f6 := f5 6 (by omega); have f7 := f5 7 (by omega); have f5 := f5 5 (by omega)
      obtain ⟨e0, e1, e2, e3, e4, e5, e6, e7⟩ := cells8 hr8
      go_wp2_with fail
      obtain ⟨e0, e1, e2, e3, e4, e5, e6, e7⟩ := cells8 (set8 hr8 (.int .i64 0) (.int .i64 0) (.int .i64 0) (.int .i64 0) (.int .i64 0) (.int .i64 0) (.int .i64 0) (.int .i64 0))
      refine bodyPost_ret (v := .tuple #[.agg zeroV.toArray, .int .i64 0, .int .i64 51]) ?_ rfl ⟨by rw [HV.out, HW.out, HE.out], below8 hl8 (Nat.le_refl _) (.int .i64 0) (.int .i64 0) (.int .i64 0) (.int .i64 0) (.int .i64 0) (.int .i64 0) (.int .i64 0) (.int .i64 0)⟩
      simp [results, Try.results19, go_sem, e0, e1, e2, e3, e4, e5, e6, e7]
set_option maxRecDepth 100000 in
set_option maxHeartbeats 1000000 in
theorem rcho_no (va vb : Value) (a b : List UInt8) (w : World) (ha : RdB w va a) (hb : RdB w vb b) (a0 : isMeta a = false) (b0 : isMeta b = true) (b1 : (fldI b 1 % 2 == 1) = true) :
    Calls Try.prog 19 #[va, vb] w (ChoPost a b w) := by
  have HV : Hid (choV a b = (metaV b)) := by show _ = _; simp [choV, choW, choE, pickB, oneB, twoB, a0, b0, b1]
  have HW : Hid (choW a b = 1) := by show _ = _; simp [choV, choW, choE, pickB, oneB, twoB, a0, b0, b1]
  have HE : Hid (choE a b = 0) := by show _ = _; simp [choV, choW, choE, pickB, oneB, twoB, a0, b0, b1]
  obtain ⟨b3, b4⟩ := isMeta_txn b0
  have h0 : RdB (w.alloc (.cells #[.int .i64 0, .int .i64 0, .int .i64 0, .int .i64 0, .int .i64 0, .int .i64 0, .int .i64 0, .int .i64 0] 24)) va a := ha.alloc _
  have hr0 : OBlk (w.alloc (.cells #[.int .i64 0, .int .i64 0, .int .i64 0, .int .i64 0, .int .i64 0, .int .i64 0, .int .i64 0, .int .i64 0] 24)) w.heap.size 24 zeroV := OBlk.new' w 24 zeroV
  have hl0 : Below w.heap.size w (w.alloc (.cells #[.int .i64 0, .int .i64 0, .int .i64 0, .int .i64 0, .int .i64 0, .int .i64 0, .int .i64 0, .int .i64 0] 24)) := (Below.refl _ _).alloc (Nat.le_refl _) _
  have A0 := Lib.hid a0
  have B0 := Lib.hid b0
  clear a0 b0
  go_enter Try.func19, Try.ntmps19
  go_upto_region 1 with (fail)
  go_cut [7, 8] from 13 to 17 (fun s t wx => ∃ gm : Nat, s = .pointer (some ⟨gm, 0, none⟩) ∧ t = .int .i64 50 ∧ OBlk wx gm 24 zeroV ∧ OBlk wx w.heap.size 24 zeroV ∧ Below w.heap.size w wx)
  case first =>
    go_wp2_with fail
    refine (RDecode_n va a A0.out _ h0).mono ?_
    rintro e w5 ⟨rfl, hw5⟩
    have hl5 := hl0.trans (hw5.mono hl0.size)
    have hr5 := hr0.below hw5 hr0.lt
    go_wp2_with fail
    go_meet
    exact ⟨_, rfl, rfl, OBlk.new' w5 24 zeroV, hr5.alloc _, hl5.alloc hl5.size _⟩
  case rest =>
    obtain ⟨gm, rfl, rfl, hm6, hr6, hl6⟩ := hcut
    clear h0 hr0 hl0
    go_upto_region 2 with (fail)
    go_cut [9, 10] from 18 to 22 (fun s t wx => ∃ gn : Nat, s = .pointer (some ⟨gn, 0, none⟩) ∧ t = .int .i64 0 ∧ OBlk wx gm 24 zeroV ∧ OBlk wx gn 24 (metaV b) ∧ OBlk wx w.heap.size 24 zeroV ∧ Below w.heap.size w wx)
    case first =>
      go_wp2_with fail
      refine (RDecode_y vb b B0.out _ (hb.below hl6 (Nat.le_refl _))).mono ?_
      rintro e w7 ⟨rfl, hw7⟩
      have hl7 := hl6.trans (hw7.mono hl6.size)
      have hr7 := hr6.below hw7 hr6.lt
      have hm7 := hm6.below hw7 hm6.lt
      go_wp2_with fail
      go_meet
      exact ⟨_, rfl, rfl, hm7.alloc _, OBlk.new' w7 24 (metaV b), hr7.alloc _, hl7.alloc hl7.size _⟩
    case rest =>
      obtain ⟨gn, rfl, rfl, hm8, hn8, hr8, hl8⟩ := hcut
      clear hm6 hr6 hl6
      obtain ⟨c0, c1, c2, c3, c4, c5, c6, c7⟩ := cells8 hm8
      obtain ⟨d0, d1, d2, d3, d4, d5, d6, d7⟩ := cells8 hn8
      have f5 : ∀ j, j < 8 → wc.frozen? ⟨w.heap.size, j, none⟩ = false := fun j hj => hr8.frozen hj
      have f0 := f5 0 (by omega); have f1 := f5 1 (by omega); have f2 := f5 2 (by omega); have f3 := f5 3 (by omega)
      have f4 := f5 4 (by omega); have f6 := f5 6 (by omega); have f7 := f5 7 (by omega); have f5 := f5 5 (by omega)
      obtain ⟨e0, e1, e2, e3, e4, e5, e6, e7⟩ := cells8 hr8
      go_wp2_with fail
      obtain ⟨e0, e1, e2, e3, e4, e5, e6, e7⟩ := cells8 (set8 hr8 (.int .i64 (engI b)) (.int .i64 (fldI b 0)) (.int .i64 (fldI b 1)) (.int .i64 (fldI b 2)) (.int .i64 (fldI b 3)) (.int .i64 (fldI b 4)) (.int .i64 (fldI b 5)) (.int .i64 (fldI b 6)))
      refine bodyPost_ret (v := .tuple #[.agg (metaV b).toArray, .int .i64 1, .int .i64 0]) ?_ rfl ⟨by rw [HV.out, HW.out, HE.out], below8 hl8 (Nat.le_refl _) (.int .i64 (engI b)) (.int .i64 (fldI b 0)) (.int .i64 (fldI b 1)) (.int .i64 (fldI b 2)) (.int .i64 (fldI b 3)) (.int .i64 (fldI b 4)) (.int .i64 (fldI b 5)) (.int .i64 (fldI b 6))⟩
      simp [results, Try.results19, go_sem, e0, e1, e2, e3, e4, e5, e6, e7, metaV]
set_option maxRecDepth 100000 in
set_option maxHeartbeats 1000000 in
theorem rcho_ne (va vb : Value) (a b : List UInt8) (w : World) (ha : RdB w va a) (hb : RdB w vb b) (a0 : isMeta a = false) (b0 : isMeta b = true) (b1 : (fldI b 1 % 2 == 1) = false) :
    Calls Try.prog 19 #[va, vb] w (ChoPost a b w) := by
  have HV : Hid (choV a b = zeroV) := by show _ = _; simp [choV, choW, choE, pickB, oneB, twoB, a0, b0, b1]
  have HW : Hid (choW a b = 0) := by show _ = _; simp [choV, choW, choE, pickB, oneB, twoB, a0, b0, b1]
  have HE : Hid (choE a b = 51) := by show _ = _; simp [choV, choW, choE, pickB, oneB, twoB, a0, b0, b1]
  obtain ⟨b3, b4⟩ := isMeta_txn b0
  have h0 : RdB (w.alloc (.cells #[.int .i64 0, .int .i64 0, .int .i64 0, .int .i64 0, .int .i64 0, .int .i64 0, .int .i64 0, .int .i64 0] 24)) va a := ha.alloc _
  have hr0 : OBlk (w.alloc (.cells #[.int .i64 0, .int .i64 0, .int .i64 0, .int .i64 0, .int .i64 0, .int .i64 0, .int .i64 0, .int .i64 0] 24)) w.heap.size 24 zeroV := OBlk.new' w 24 zeroV
  have hl0 : Below w.heap.size w (w.alloc (.cells #[.int .i64 0, .int .i64 0, .int .i64 0, .int .i64 0, .int .i64 0, .int .i64 0, .int .i64 0, .int .i64 0] 24)) := (Below.refl _ _).alloc (Nat.le_refl _) _
  have A0 := Lib.hid a0
  have B0 := Lib.hid b0
  clear a0 b0
  go_enter Try.func19, Try.ntmps19
  go_upto_region 1 with (fail)
  go_cut [7, 8] from 13 to 17 (fun s t wx => ∃ gm : Nat, s = .pointer (some ⟨gm, 0, none⟩) ∧ t = .int .i64 50 ∧ OBlk wx gm 24 zeroV ∧ OBlk wx w.heap.size 24 zeroV ∧ Below w.heap.size w wx)
  case first =>
    go_wp2_with fail
    refine (RDecode_n va a A0.out _ h0).mono ?_
    rintro e w5 ⟨rfl, hw5⟩
    have hl5 := hl0.trans (hw5.mono hl0.size)
    have hr5 := hr0.below hw5 hr0.lt
    go_wp2_with fail
    go_meet
    exact ⟨_, rfl, rfl, OBlk.new' w5 24 zeroV, hr5.alloc _, hl5.alloc hl5.size _⟩
  case rest =>
    obtain ⟨gm, rfl, rfl, hm6, hr6, hl6⟩ := hcut
    clear h0 hr0 hl0
    go_upto_region 2 with (fail)
    go_cut [9, 10] from 18 to 22 (fun s t wx => ∃ gn : Nat, s = .pointer (some ⟨gn, 0, none⟩) ∧ t = .int .i64 0 ∧ OBlk wx gm 24 zeroV ∧ OBlk wx gn 24 (metaV b) ∧ OBlk wx w.heap.size 24 zeroV ∧ Below w.heap.size w wx)
    case first =>
      go_wp2_with fail
      refine (RDecode_y vb b B0.out _ (hb.below hl6 (Nat.le_refl _))).mono ?_
      rintro e w7 ⟨rfl, hw7⟩
      have hl7 := hl6.trans (hw7.mono hl6.size)
      have hr7 := hr6.below hw7 hr6.lt
      have hm7 := hm6.below hw7 hm6.lt
      go_wp2_with fail
      go_meet
      exact ⟨_, rfl, rfl, hm7.alloc _, OBlk.new' w7 24 (metaV b), hr7.alloc _, hl7.alloc hl7.size _⟩
    case rest =>
      obtain ⟨gn, rfl, rfl, hm8, hn8, hr8, hl8⟩ := hcut
      clear hm6 hr6 hl6
      obtain ⟨c0, c1, c2, c3, c4, c5, c6, c7⟩ := cells8 hm8
      obtain ⟨d0, d1, d2, d3, d4, d5, d6, d7⟩ := cells8 hn8
      have f5 : ∀ j, j < 8 → wc.frozen? ⟨w.heap.size, j, none⟩ = false := fun j hj => hr8.frozen hj
      have f0 := f5 0 (by omega); have f1 := f5 1 (by omega); have f2 := f5 2 (by omega); have f3 := f5 3 (by omega)
      have f4 := f5 4 (by omega); have f6 := f5 6 (by omega); have f7 := f5 7 (by omega); have f5 := f5 5 (by omega)
      obtain ⟨e0, e1, e2, e3, e4, e5, e6, e7⟩ := cells8 hr8
      go_wp2_with fail
      obtain ⟨e0, e1, e2, e3, e4, e5, e6, e7⟩ := cells8 (set8 hr8 (.int .i64 0) (.int .i64 0) (.int .i64 0) (.int .i64 0) (.int .i64 0) (.int .i64 0) (.int .i64 0) (.int .i64 0))
      refine bodyPost_ret (v := .tuple #[.agg zeroV.toArray, .int .i64 0, .int .i64 51]) ?_ rfl ⟨by rw [HV.out, HW.out, HE.out], below8 hl8 (Nat.le_refl _) (.int .i64 0) (.int .i64 0) (.int .i64 0) (.int .i64 0) (.int .i64 0) (.int .i64 0) (.int .i64 0) (.int .i64 0)⟩
      simp [results, Try.results19, go_sem, e0, e1, e2, e3, e4, e5, e6, e7]
set_option maxRecDepth 100000 in
set_option maxHeartbeats 1000000 in
theorem rcho_en (va vb : Value) (a b : List UInt8) (w : World) (ha : RdB w va a) (hb : RdB w vb b) (a0 : isMeta a = true) (a1 : (fldI a 1 % 2 == 0) = true) (b0 : isMeta b = false) :
    Calls Try.prog 19 #[va, vb] w (ChoPost a b w) := by
  have HV : Hid (choV a b = (metaV a)) := by show _ = _; simp [choV, choW, choE, pickB, oneB, twoB, a0, a1, b0]
  have HW : Hid (choW a b = 0) := by show _ = _; simp [choV, choW, choE, pickB, oneB, twoB, a0, a1, b0]
  have HE : Hid (choE a b = 0) := by show _ = _; simp [choV, choW, choE, pickB, oneB, twoB, a0, a1, b0]
  obtain ⟨a3, a4⟩ := isMeta_txn a0
  have h0 : RdB (w.alloc (.cells #[.int .i64 0, .int .i64 0, .int .i64 0, .int .i64 0, .int .i64 0, .int .i64 0, .int .i64 0, .int .i64 0] 24)) va a := ha.alloc _
  have hr0 : OBlk (w.alloc (.cells #[.int .i64 0, .int .i64 0, .int .i64 0, .int .i64 0, .int .i64 0, .int .i64 0, .int .i64 0, .int .i64 0] 24)) w.heap.size 24 zeroV := OBlk.new' w 24 zeroV
  have hl0 : Below w.heap.size w (w.alloc (.cells #[.int .i64 0, .int .i64 0, .int .i64 0, .int .i64 0, .int .i64 0, .int .i64 0, .int .i64 0, .int .i64 0] 24)) := (Below.refl _ _).alloc (Nat.le_refl _) _
  have A0 := Lib.hid a0
  have B0 := Lib.hid b0
  clear a0 b0
  go_enter Try.func19, Try.ntmps19
  go_upto_region 1 with (fail)
  go_cut [7, 8] from 13 to 17 (fun s t wx => ∃ gm : Nat, s = .pointer (some ⟨gm, 0, none⟩) ∧ t = .int .i64 0 ∧ OBlk wx gm 24 (metaV a) ∧ OBlk wx w.heap.size 24 zeroV ∧ Below w.heap.size w wx)
  case first =>
    go_wp2_with fail
    refine (RDecode_y va a A0.out _ h0).mono ?_
    rintro e w5 ⟨rfl, hw5⟩
    have hl5 := hl0.trans (hw5.mono hl0.size)
    have hr5 := hr0.below hw5 hr0.lt
    go_wp2_with fail
    go_meet
    exact ⟨_, rfl, rfl, OBlk.new' w5 24 (metaV a), hr5.alloc _, hl5.alloc hl5.size _⟩
  case rest =>
    obtain ⟨gm, rfl, rfl, hm6, hr6, hl6⟩ := hcut
    clear h0 hr0 hl0
    go_upto_region 2 with (fail)
    go_cut [9, 10] from 18 to 22 (fun s t wx => ∃ gn : Nat, s = .pointer (some ⟨gn, 0, none⟩) ∧ t = .int .i64 50 ∧ OBlk wx gm 24 (metaV a) ∧ OBlk wx gn 24 zeroV ∧ OBlk wx w.heap.size 24 zeroV ∧ Below w.heap.size w wx)
    case first =>
      go_wp2_with fail
      refine (RDecode_n vb b B0.out _ (hb.below hl6 (Nat.le_refl _))).mono ?_
      rintro e w7 ⟨rfl, hw7⟩
      have hl7 := hl6.trans (hw7.mono hl6.size)
      have hr7 := hr6.below hw7 hr6.lt
      have hm7 := hm6.below hw7 hm6.lt
      go_wp2_with fail
      go_meet
      exact ⟨_, rfl, rfl, hm7.alloc _, OBlk.new' w7 24 zeroV, hr7.alloc _, hl7.alloc hl7.size _⟩
    case rest =>
      obtain ⟨gn, rfl, rfl, hm8, hn8, hr8, hl8⟩ := hcut
      clear hm6 hr6 hl6
      obtain ⟨c0, c1, c2, c3, c4, c5, c6, c7⟩ := cells8 hm8
      obtain ⟨d0, d1, d2, d3, d4, d5, d6, d7⟩ := cells8 hn8
      have f5 : ∀ j, j < 8 → wc.frozen? ⟨w.heap.size, j, none⟩ = false := fun j hj => hr8.frozen hj
      have f0 := f5 0 (by omega); have f1 := f5 1 (by omega); have f2 := f5 2 (by omega); have f3 := f5 3 (by omega)
      have f4 := f5 4 (by omega); have f6 := f5 6 (by omega); have f7 := f5 7 (by omega); have f5 := f5 5 (by omega)
      obtain ⟨e0, e1, e2, e3, e4, e5, e6, e7⟩ := cells8 hr8
      go_wp2_with fail
      obtain ⟨e0, e1, e2, e3, e4, e5, e6, e7⟩ := cells8 (set8 hr8 (.int .i64 (engI a)) (.int .i64 (fldI a 0)) (.int .i64 (fldI a 1)) (.int .i64 (fldI a 2)) (.int .i64 (fldI a 3)) (.int .i64 (fldI a 4)) (.int .i64 (fldI a 5)) (.int .i64 (fldI a 6)))
      refine bodyPost_ret (v := .tuple #[.agg (metaV a).toArray, .int .i64 0, .int .i64 0]) ?_ rfl ⟨by rw [HV.out, HW.out, HE.out], below8 hl8 (Nat.le_refl _) (.int .i64 (engI a)) (.int .i64 (fldI a 0)) (.int .i64 (fldI a 1)) (.int .i64 (fldI a 2)) (.int .i64 (fldI a 3)) (.int .i64 (fldI a 4)) (.int .i64 (fldI a 5)) (.int .i64 (fldI a 6))⟩
      simp [results, Try.results19, go_sem, e0, e1, e2, e3, e4, e5, e6, e7, metaV]
set_option maxRecDepth 100000 in
set_option maxHeartbeats 1000000 in
theorem rcho_eo1 (va vb : Value) (a b : List UInt8) (w : World) (ha : RdB w va a) (hb : RdB w vb b) (a0 : isMeta a = true) (a1 : (fldI a 1 % 2 == 0) = true) (b0 : isMeta b = true) (b1 : (fldI b 1 % 2 == 1) = true) (hlt : fldI a 1 < fldI b 1) :
    Calls Try.prog 19 #[va, vb] w (ChoPost a b w) := by
  have HV : Hid (choV a b = (metaV b)) := by show _ = _; simp [choV, choW, choE, pickB, oneB, twoB, a0, a1, b0, b1, hlt]
  have HW : Hid (choW a b = 1) := by show _ = _; simp [choV, choW, choE, pickB, oneB, twoB, a0, a1, b0, b1, hlt]
  have HE : Hid (choE a b = 0) := by show _ = _; simp [choV, choW, choE, pickB, oneB, twoB, a0, a1, b0, b1, hlt]
  obtain ⟨a3, a4⟩ := isMeta_txn a0
  obtain ⟨b3, b4⟩ := isMeta_txn b0
  have hgt : ¬ fldI b 1 < fldI a 1 := by omega
  have h0 : RdB (w.alloc (.cells #[.int .i64 0, .int .i64 0, .int .i64 0, .int .i64 0, .int .i64 0, .int .i64 0, .int .i64 0, .int .i64 0] 24)) va a := ha.alloc _
  have hr0 : OBlk (w.alloc (.cells #[.int .i64 0, .int .i64 0, .int .i64 0, .int .i64 0, .int .i64 0, .int .i64 0, .int .i64 0, .int .i64 0] 24)) w.heap.size 24 zeroV := OBlk.new' w 24 zeroV
  have hl0 : Below w.heap.size w (w.alloc (.cells #[.int .i64 0, .int .i64 0, .int .i64 0, .int .i64 0, .int .i64 0, .int .i64 0, .int .i64 0, .int .i64 0] 24)) := (Below.refl _ _).alloc (Nat.le_refl _) _
  have A0 := Lib.hid a0
  have B0 := Lib.hid b0
  clear a0 b0
  go_enter Try.func19, Try.ntmps19
  go_upto_region 1 with (fail)
  go_cut [7, 8] from 13 to 17 (fun s t wx => ∃ gm : Nat, s = .pointer (some ⟨gm, 0, none⟩) ∧ t = .int .i64 0 ∧ OBlk wx gm 24 (metaV a) ∧ OBlk wx w.heap.size 24 zeroV ∧ Below w.heap.size w wx)
  case first =>
    go_wp2_with fail
    refine (RDecode_y va a A0.out _ h0).mono ?_
    rintro e w5 ⟨rfl, hw5⟩
    have hl5 := hl0.trans (hw5.mono hl0.size)
    have hr5 := hr0.below hw5 hr0.lt
    go_wp2_with fail
    go_meet
    exact ⟨_, rfl, rfl, OBlk.new' w5 24 (metaV a), hr5.alloc _, hl5.alloc hl5.size _⟩
  case rest =>
    obtain ⟨gm, rfl, rfl, hm6, hr6, hl6⟩ := hcut
    clear h0 hr0 hl0
    go_upto_region 2 with (fail)
    go_cut [9, 10] from 18 to 22 (fun s t wx => ∃ gn : Nat, s = .pointer (some ⟨gn, 0, none⟩) ∧ t = .int .i64 0 ∧ OBlk wx gm 24 (metaV a) ∧ OBlk wx gn 24 (metaV b) ∧ OBlk wx w.heap.size 24 zeroV ∧ Below w.heap.size w wx)
    case first =>
      go_wp2_with fail
      refine (RDecode_y vb b B0.out _ (hb.below hl6 (Nat.le_refl _))).mono ?_
      rintro e w7 ⟨rfl, hw7⟩
      have hl7 := hl6.trans (hw7.mono hl6.size)
      have hr7 := hr6.below hw7 hr6.lt
      have hm7 := hm6.below hw7 hm6.lt
      go_wp2_with fail
      go_meet
      exact ⟨_, rfl, rfl, hm7.alloc _, OBlk.new' w7 24 (metaV b), hr7.alloc _, hl7.alloc hl7.size _⟩
    case rest =>
      obtain ⟨gn, rfl, rfl, hm8, hn8, hr8, hl8⟩ := hcut
      clear hm6 hr6 hl6
      obtain ⟨c0, c1, c2, c3, c4, c5, c6, c7⟩ := cells8 hm8
      obtain ⟨d0, d1, d2, d3, d4, d5, d6, d7⟩ := cells8 hn8
      have f5 : ∀ j, j < 8 → wc.frozen? ⟨w.heap.size, j, none⟩ = false := fun j hj => hr8.frozen hj
      have f0 := f5 0 (by omega); have f1 := f5 1 (by omega); have f2 := f5 2 (by omega); have f3 := f5 3 (by omega)
      have f4 := f5 4 (by omega); have f6 := f5 6 (by omega); have f7 := f5 7 (by omega); have f5 := f5 5 (by omega)
      obtain ⟨e0, e1, e2, e3, e4, e5, e6, e7⟩ := cells8 hr8
      go_wp2_with fail
      obtain ⟨e0, e1, e2, e3, e4, e5, e6, e7⟩ := cells8 (set8 hr8 (.int .i64 (engI b)) (.int .i64 (fldI b 0)) (.int .i64 (fldI b 1)) (.int .i64 (fldI b 2)) (.int .i64 (fldI b 3)) (.int .i64 (fldI b 4)) (.int .i64 (fldI b 5)) (.int .i64 (fldI b 6)))
      refine bodyPost_ret (v := .tuple #[.agg (metaV b).toArray, .int .i64 1, .int .i64 0]) ?_ rfl ⟨by rw [HV.out, HW.out, HE.out], below8 hl8 (Nat.le_refl _) (.int .i64 (engI b)) (.int .i64 (fldI b 0)) (.int .i64 (fldI b 1)) (.int .i64 (fldI b 2)) (.int .i64 (fldI b 3)) (.int .i64 (fldI b 4)) (.int .i64 (fldI b 5)) (.int .i64 (fldI b 6))⟩
      simp [results, Try.results19, go_sem, e0, e1, e2, e3, e4, e5, e6, e7, metaV]
set_option maxRecDepth 100000 in
set_option maxHeartbeats 1000000 in
theorem rcho_eo2 (va vb : Value) (a b : List UInt8) (w : World) (ha : RdB w va a) (hb : RdB w vb b) (a0 : isMeta a = true) (a1 : (fldI a 1 % 2 == 0) = true) (b0 : isMeta b = true) (b1 : (fldI b 1 % 2 == 1) = true) (hlt : ¬ fldI a 1 < fldI b 1) :
    Calls Try.prog 19 #[va, vb] w (ChoPost a b w) := by
  have HV : Hid (choV a b = (metaV a)) := by show _ = _; simp [choV, choW, choE, pickB, oneB, twoB, a0, a1, b0, b1, hlt]
  have HW : Hid (choW a b = 0) := by show _ = _; simp [choV, choW, choE, pickB, oneB, twoB, a0, a1, b0, b1, hlt]
  have HE : Hid (choE a b = 0) := by show _ = _; simp [choV, choW, choE, pickB, oneB, twoB, a0, a1, b0, b1, hlt]
  obtain ⟨a3, a4⟩ := isMeta_txn a0
  obtain ⟨b3, b4⟩ := isMeta_txn b0
  have hgt : fldI b 1 < fldI a 1 := by simp at a1 b1; omega
  have h0 : RdB (w.alloc (.cells #[.int .i64 0, .int .i64 0, .int .i64 0, .int .i64 0, .int .i64 0, .int .i64 0, .int .i64 0, .int .i64 0] 24)) va a := ha.alloc _
  have hr0 : OBlk (w.alloc (.cells #[.int .i64 0, .int .i64 0, .int .i64 0, .int .i64 0, .int .i64 0, .int .i64 0, .int .i64 0, .int .i64 0] 24)) w.heap.size 24 zeroV := OBlk.new' w 24 zeroV
  have hl0 : Below w.heap.size w (w.alloc (.cells #[.int .i64 0, .int .i64 0, .int .i64 0, .int .i64 0, .int .i64 0, .int .i64 0, .int .i64 0, .int .i64 0] 24)) := (Below.refl _ _).alloc (Nat.le_refl _) _
  have A0 := Lib.hid a0
  have B0 := Lib.hid b0
  clear a0 b0
  go_enter Try.func19, Try.ntmps19
  go_upto_region 1 with (fail)
  go_cut [7, 8] from 13 to 17 (fun s t wx => ∃ gm : Nat, s = .pointer (some ⟨gm, 0, none⟩) ∧ t = .int .i64 0 ∧ OBlk wx gm 24 (metaV a) ∧ OBlk wx w.heap.size 24 zeroV ∧ Below w.heap.size w wx)
  case first =>
    go_wp2_with fail
    refine (RDecode_y va a A0.out _ h0).mono ?_
    rintro e w5 ⟨rfl, hw5⟩
    have hl5 := hl0.trans (hw5.mono hl0.size)
    have hr5 := hr0.below hw5 hr0.lt
    go_wp2_with fail
    go_meet
    exact ⟨_, rfl, rfl, OBlk.new' w5 24 (metaV a), hr5.alloc _, hl5.alloc hl5.size _⟩
  case rest =>
    obtain ⟨gm, rfl, rfl, hm6, hr6, hl6⟩ := hcut
    clear h0 hr0 hl0
    go_upto_region 2 with (fail)
    go_cut [9, 10] from 18 to 22 (fun s t wx => ∃ gn : Nat, s = .pointer (some ⟨gn, 0, none⟩) ∧ t = .int .i64 0 ∧ OBlk wx gm 24 (metaV a) ∧ OBlk wx gn 24 (metaV b) ∧ OBlk wx w.heap.size 24 zeroV ∧ Below w.heap.size w wx)
    case first =>
      go_wp2_with fail
      refine (RDecode_y vb b B0.out _ (hb.below hl6 (Nat.le_refl _))).mono ?_
      rintro e w7 ⟨rfl, hw7⟩
      have hl7 := hl6.trans (hw7.mono hl6.size)
      have hr7 := hr6.below hw7 hr6.lt
      have hm7 := hm6.below hw7 hm6.lt
      go_wp2_with fail
      go_meet
      exact ⟨_, rfl, rfl, hm7.alloc _, OBlk.new' w7 24 (metaV b), hr7.alloc _, hl7.alloc hl7.size _⟩
    case rest =>
      obtain ⟨gn, rfl, rfl, hm8, hn8, hr8, hl8⟩ := hcut
      clear hm6 hr6 hl6
      obtain ⟨c0, c1, c2, c3, c4, c5, c6, c7⟩ := cells8 hm8
      obtain ⟨d0, d1, d2, d3, d4, d5, d6, d7⟩ := cells8 hn8
      have f5 : ∀ j, j < 8 → wc.frozen? ⟨w.heap.size, j, none⟩ = false := fun j hj => hr8.frozen hj
      have f0 := f5 0 (by omega); have f1 := f5 1 (by omega); have f2 := f5 2 (by omega); have f3 := f5 3 (by omega)
      have f4 := f5 4 (by omega); have f6 := f5 6 (by omega); have f7 := f5 7 (by omega); have f5 := f5 5 (by omega)
      obtain ⟨e0, e1, e2, e3, e4, e5, e6, e7⟩ := cells8 hr8
      go_wp2_with fail
      obtain ⟨e0, e1, e2, e3, e4, e5, e6, e7⟩ := cells8 (set8 hr8 (.int .i64 (engI a)) (.int .i64 (fldI a 0)) (.int .i64 (fldI a 1)) (.int .i64 (fldI a 2)) (.int .i64 (fldI a 3)) (.int .i64 (fldI a 4)) (.int .i64 (fldI a 5)) (.int .i64 (fldI a 6)))
      refine bodyPost_ret (v := .tuple #[.agg (metaV a).toArray, .int .i64 0, .int .i64 0]) ?_ rfl ⟨by rw [HV.out, HW.out, HE.out], below8 hl8 (Nat.le_refl _) (.int .i64 (engI a)) (.int .i64 (fldI a 0)) (.int .i64 (fldI a 1)) (.int .i64 (fldI a 2)) (.int .i64 (fldI a 3)) (.int .i64 (fldI a 4)) (.int .i64 (fldI a 5)) (.int .i64 (fldI a 6))⟩
      simp [results, Try.results19, go_sem, e0, e1, e2, e3, e4, e5, e6, e7, metaV]
set_option maxRecDepth 100000 in
set_option maxHeartbeats 1000000 in
theorem rcho_ee (va vb : Value) (a b : List UInt8) (w : World) (ha : RdB w va a) (hb : RdB w vb b) (a0 : isMeta a = true) (a1 : (fldI a 1 % 2 == 0) = true) (b0 : isMeta b = true) (b1 : (fldI b 1 % 2 == 1) = false) :
    Calls Try.prog 19 #[va, vb] w (ChoPost a b w) := by
  have HV : Hid (choV a b = (metaV a)) := by show _ = _; simp [choV, choW, choE, pickB, oneB, twoB, a0, a1, b0, b1]
  have HW : Hid (choW a b = 0) := by show _ = _; simp [choV, choW, choE, pickB, oneB, twoB, a0, a1, b0, b1]
  have HE : Hid (choE a b = 0) := by show _ = _; simp [choV, choW, choE, pickB, oneB, twoB, a0, a1, b0, b1]
  obtain ⟨a3, a4⟩ := isMeta_txn a0
  obtain ⟨b3, b4⟩ := isMeta_txn b0
  have h0 : RdB (w.alloc (.cells #[.int .i64 0, .int .i64 0, .int .i64 0, .int .i64 0, .int .i64 0, .int .i64 0, .int .i64 0, .int .i64 0] 24)) va a := ha.alloc _
  have hr0 : OBlk (w.alloc (.cells #[.int .i64 0, .int .i64 0, .int .i64 0, .int .i64 0, .int .i64 0, .int .i64 0, .int .i64 0, .int .i64 0] 24)) w.heap.size 24 zeroV := OBlk.new' w 24 zeroV
  have hl0 : Below w.heap.size w (w.alloc (.cells #[.int .i64 0, .int .i64 0, .int .i64 0, .int .i64 0, .int .i64 0, .int .i64 0, .int .i64 0, .int .i64 0] 24)) := (Below.refl _ _).alloc (Nat.le_refl _) _
  have A0 := Lib.hid a0
  have B0 := Lib.hid b0
  clear a0 b0
  go_enter Try.func19, Try.ntmps19
  go_upto_region 1 with (fail)
  go_cut [7, 8] from 13 to 17 (fun s t wx => ∃ gm : Nat, s = .pointer (some ⟨gm, 0, none⟩) ∧ t = .int .i64 0 ∧ OBlk wx gm 24 (metaV a) ∧ OBlk wx w.heap.size 24 zeroV ∧ Below w.heap.size w wx)
  case first =>
    go_wp2_with fail
    refine (RDecode_y va a A0.out _ h0).mono ?_
    rintro e w5 ⟨rfl, hw5⟩
    have hl5 := hl0.trans (hw5.mono hl0.size)
    have hr5 := hr0.below hw5 hr0.lt
    go_wp2_with fail
    go_meet
    exact ⟨_, rfl, rfl, OBlk.new' w5 24 (metaV a), hr5.alloc _, hl5.alloc hl5.size _⟩
  case rest =>
    obtain ⟨gm, rfl, rfl, hm6, hr6, hl6⟩ := hcut
    clear h0 hr0 hl0
    go_upto_region 2 with (fail)
    go_cut [9, 10] from 18 to 22 (fun s t wx => ∃ gn : Nat, s = .pointer (some ⟨gn, 0, none⟩) ∧ t = .int .i64 0 ∧ OBlk wx gm 24 (metaV a) ∧ OBlk wx gn 24 (metaV b) ∧ OBlk wx w.heap.size 24 zeroV ∧ Below w.heap.size w wx)
    case first =>
      go_wp2_with fail
      refine (RDecode_y vb b B0.out _ (hb.below hl6 (Nat.le_refl _))).mono ?_
      rintro e w7 ⟨rfl, hw7⟩
      have hl7 := hl6.trans (hw7.mono hl6.size)
      have hr7 := hr6.below hw7 hr6.lt
      have hm7 := hm6.below hw7 hm6.lt
      go_wp2_with fail
      go_meet
      exact ⟨_, rfl, rfl, hm7.alloc _, OBlk.new' w7 24 (metaV b), hr7.alloc _, hl7.alloc hl7.size _⟩
    case rest =>
      obtain ⟨gn, rfl, rfl, hm8, hn8, hr8, hl8⟩ := hcut
      clear hm6 hr6 hl6
      obtain ⟨c0, c1, c2, c3, c4, c5, c6, c7⟩ := cells8 hm8
      obtain ⟨d0, d1, d2, d3, d4, d5, d6, d7⟩ := cells8 hn8
      have f5 : ∀ j, j < 8 → wc.frozen? ⟨w.heap.size, j, none⟩ = false := fun j hj => hr8.frozen hj
      have f0 := f5 0 (by omega); have f1 := f5 1 (by omega); have f2 := f5 2 (by omega); have f3 := f5 3 (by omega)
      have f4 := f5 4 (by omega); have f6 := f5 6 (by omega); have f7 := f5 7 (by omega); have f5 := f5 5 (by omega)
      obtain ⟨e0, e1, e2, e3, e4, e5, e6, e7⟩ := cells8 hr8
      go_wp2_with fail
      obtain ⟨e0, e1, e2, e3, e4, e5, e6, e7⟩ := cells8 (set8 hr8 (.int .i64 (engI a)) (.int .i64 (fldI a 0)) (.int .i64 (fldI a 1)) (.int .i64 (fldI a 2)) (.int .i64 (fldI a 3)) (.int .i64 (fldI a 4)) (.int .i64 (fldI a 5)) (.int .i64 (fldI a 6)))
      refine bodyPost_ret (v := .tuple #[.agg (metaV a).toArray, .int .i64 0, .int .i64 0]) ?_ rfl ⟨by rw [HV.out, HW.out, HE.out], below8 hl8 (Nat.le_refl _) (.int .i64 (engI a)) (.int .i64 (fldI a 0)) (.int .i64 (fldI a 1)) (.int .i64 (fldI a 2)) (.int .i64 (fldI a 3)) (.int .i64 (fldI a 4)) (.int .i64 (fldI a 5)) (.int .i64 (fldI a 6))⟩
      simp [results, Try.results19, go_sem, e0, e1, e2, e3, e4, e5, e6, e7, metaV]
set_option maxRecDepth 100000 in
set_option maxHeartbeats 1000000 in
theorem rcho_on (va vb : Value) (a b : List UInt8) (w : World) (ha : RdB w va a) (hb : RdB w vb b) (a0 : isMeta a = true) (a1 : (fldI a 1 % 2 == 0) = false) (b0 : isMeta b = false) :
    Calls Try.prog 19 #[va, vb] w (ChoPost a b w) := by
  have HV : Hid (choV a b = zeroV) := by show _ = _; simp [choV, choW, choE, pickB, oneB, twoB, a0, a1, b0]
  have HW : Hid (choW a b = 0) := by show _ = _; simp [choV, choW, choE, pickB, oneB, twoB, a0, a1, b0]
  have HE : Hid (choE a b = 51) := by show _ = _; simp [choV, choW, choE, pickB, oneB, twoB, a0, a1, b0]
  obtain ⟨a3, a4⟩ := isMeta_txn a0
  have h0 : RdB (w.alloc (.cells #[.int .i64 0, .int .i64 0, .int .i64 0, .int .i64 0, .int .i64 0, .int .i64 0, .int .i64 0, .int .i64 0] 24)) va a := ha.alloc _
  have hr0 : OBlk (w.alloc (.cells #[.int .i64 0, .int .i64 0, .int .i64 0, .int .i64 0, .int .i64 0, .int .i64 0, .int .i64 0, .int .i64 0] 24)) w.heap.size 24 zeroV := OBlk.new' w 24 zeroV
  have hl0 : Below w.heap.size w (w.alloc (.cells #[.int .i64 0, .int .i64 0, .int .i64 0, .int .i64 0, .int .i64 0, .int .i64 0, .int .i64 0, .int .i64 0] 24)) := (Below.refl _ _).alloc (Nat.le_refl _) _
  have A0 := Lib.hid a0
  have B0 := Lib.hid b0
  clear a0 b0
  go_enter Try.func19, Try.ntmps19
  go_upto_region 1 with (fail)
  go_cut [7, 8] from 13 to 17 (fun s t wx => ∃ gm : Nat, s = .pointer (some ⟨gm, 0, none⟩) ∧ t = .int .i64 0 ∧ OBlk wx gm 24 (metaV a) ∧ OBlk wx w.heap.size 24 zeroV ∧ Below w.heap.size w wx)
  case first =>
    go_wp2_with fail
    refine (RDecode_y va a A0.out _ h0).mono ?_
    rintro e w5 ⟨rfl, hw5⟩
    have hl5 := hl0.trans (hw5.mono hl0.size)
    have hr5 := hr0.below hw5 hr0.lt
    go_wp2_with fail
    go_meet
    exact ⟨_, rfl, rfl, OBlk.new' w5 24 (metaV a), hr5.alloc _, hl5.alloc hl5.size _⟩
  case rest =>
    obtain ⟨gm, rfl, rfl, hm6, hr6, hl6⟩ := hcut
    clear h0 hr0 hl0
    go_upto_region 2 with (fail)
    go_cut [9, 10] from 18 to 22 (fun s t wx => ∃ gn : Nat, s = .pointer (some ⟨gn, 0, none⟩) ∧ t = .int .i64 50 ∧ OBlk wx gm 24 (metaV a) ∧ OBlk wx gn 24 zeroV ∧ OBlk wx w.heap.size 24 zeroV ∧ Below w.heap.size w wx)
    case first =>
      go_wp2_with fail
      refine (RDecode_n vb b B0.out _ (hb.below hl6 (Nat.le_refl _))).mono ?_
      rintro e w7 ⟨rfl, hw7⟩
      have hl7 := hl6.trans (hw7.mono hl6.size)
      have hr7 := hr6.below hw7 hr6.lt
      have hm7 := hm6.below hw7 hm6.lt
      go_wp2_with fail
      go_meet
      exact ⟨_, rfl, rfl, hm7.alloc _, OBlk.new' w7 24 zeroV, hr7.alloc _, hl7.alloc hl7.size _⟩
    case rest =>
      obtain ⟨gn, rfl, rfl, hm8, hn8, hr8, hl8⟩ := hcut
      clear hm6 hr6 hl6
      obtain ⟨c0, c1, c2, c3, c4, c5, c6, c7⟩ := cells8 hm8
      obtain ⟨d0, d1, d2, d3, d4, d5, d6, d7⟩ := cells8 hn8
      have f5 : ∀ j, j < 8 → wc.frozen? ⟨w.heap.size, j, none⟩ = false := fun j hj => hr8.frozen hj
      have f0 := f5 0 (by omega); have f1 := f5 1 (by omega); have f2 := f5 2 (by omega); have f3 := f5 3 (by omega)
      have f4 := f5 4 (by omega); have f6 := f5 6 (by omega); have f7 := f5 7 (by omega); have f5 := f5 5 (by omega)
      obtain ⟨e0, e1, e2, e3, e4, e5, e6, e7⟩ := cells8 hr8
      go_wp2_with fail
      obtain ⟨e0, e1, e2, e3, e4, e5, e6, e7⟩ := cells8 (set8 hr8 (.int .i64 0) (.int .i64 0) (.int .i64 0) (.int .i64 0) (.int .i64 0) (.int .i64 0) (.int .i64 0) (.int .i64 0))
      refine bodyPost_ret (v := .tuple #[.agg zeroV.toArray, .int .i64 0, .int .i64 51]) ?_ rfl ⟨by rw [HV.out, HW.out, HE.out], below8 hl8 (Nat.le_refl _) (.int .i64 0) (.int .i64 0) (.int .i64 0) (.int .i64 0) (.int .i64 0) (.int .i64 0) (.int .i64 0) (.int .i64 0)⟩
      simp [results, Try.results19, go_sem, e0, e1, e2, e3, e4, e5, e6, e7]
set_option maxRecDepth 100000 in
set_option maxHeartbeats 1000000 in
theorem rcho_oo (va vb : Value) (a b : List UInt8) (w : World) (ha : RdB w va a) (hb : RdB w vb b) (a0 : isMeta a = true) (a1 : (fldI a 1 % 2 == 0) = false) (b0 : isMeta b = true) (b1 : (fldI b 1 % 2 == 1) = true) :
    Calls Try.prog 19 #[va, vb] w (ChoPost a b w) := by
  have HV : Hid (choV a b = (metaV b)) := by show _ = _; simp [choV, choW, choE, pickB, oneB, twoB, a0, a1, b0, b1]
  have HW : Hid (choW a b = 1) := by show _ = _; simp [choV, choW, choE, pickB, oneB, twoB, a0, a1, b0, b1]
  have HE : Hid (choE a b = 0) := by show _ = _; simp [choV, choW, choE, pickB, oneB, twoB, a0, a1, b0, b1]
  obtain ⟨a3, a4⟩ := isMeta_txn a0
  obtain ⟨b3, b4⟩ := isMeta_txn b0
  have h0 : RdB (w.alloc (.cells #[.int .i64 0, .int .i64 0, .int .i64 0, .int .i64 0, .int .i64 0, .int .i64 0, .int .i64 0, .int .i64 0] 24)) va a := ha.alloc _
  have hr0 : OBlk (w.alloc (.cells #[.int .i64 0, .int .i64 0, .int .i64 0, .int .i64 0, .int .i64 0, .int .i64 0, .int .i64 0, .int .i64 0] 24)) w.heap.size 24 zeroV := OBlk.new' w 24 zeroV
  have hl0 : Below w.heap.size w (w.alloc (.cells #[.int .i64 0, .int .i64 0, .int .i64 0, .int .i64 0, .int .i64 0, .int .i64 0, .int .i64 0, .int .i64 0] 24)) := (Below.refl _ _).alloc (Nat.le_refl _) _
  have A0 := Lib.hid a0
  have B0 := Lib.hid b0
  clear a0 b0
  go_enter Try.func19, Try.ntmps19
  go_upto_region 1 with (fail)
  go_cut [7, 8] from 13 to 17 (fun s t wx => ∃ gm : Nat, s = .pointer (some ⟨gm, 0, none⟩) ∧ t = .int .i64 0 ∧ OBlk wx gm 24 (metaV a) ∧ OBlk wx w.heap.size 24 zeroV ∧ Below w.heap.size w wx)
  case first =>
    go_wp2_with fail
    refine (RDecode_y va a A0.out _ h0).mono ?_
    rintro e w5 ⟨rfl, hw5⟩
    have hl5 := hl0.trans (hw5.mono hl0.size)
    have hr5 := hr0.below hw5 hr0.lt
    go_wp2_with fail
    go_meet
    exact ⟨_, rfl, rfl, OBlk.new' w5 24 (metaV a), hr5.alloc _, hl5.alloc hl5.size _⟩
  case rest =>
    obtain ⟨gm, rfl, rfl, hm6, hr6, hl6⟩ := hcut
    clear h0 hr0 hl0
    go_upto_region 2 with (fail)
    go_cut [9, 10] from 18 to 22 (fun s t wx => ∃ gn : Nat, s = .pointer (some ⟨gn, 0, none⟩) ∧ t = .int .i64 0 ∧ OBlk wx gm 24 (metaV a) ∧ OBlk wx gn 24 (metaV b) ∧ OBlk wx w.heap.size 24 zeroV ∧ Below w.heap.size w wx)
    case first =>
      go_wp2_with fail
      refine (RDecode_y vb b B0.out _ (hb.below hl6 (Nat.le_refl _))).mono ?_
      rintro e w7 ⟨rfl, hw7⟩
      have hl7 := hl6.trans (hw7.mono hl6.size)
      have hr7 := hr6.below hw7 hr6.lt
      have hm7 := hm6.below hw7 hm6.lt
      go_wp2_with fail
      go_meet
      exact ⟨_, rfl, rfl, hm7.alloc _, OBlk.new' w7 24 (metaV b), hr7.alloc _, hl7.alloc hl7.size _⟩
    case rest =>
      obtain ⟨gn, rfl, rfl, hm8, hn8, hr8, hl8⟩ := hcut
      clear hm6 hr6 hl6
      obtain ⟨c0, c1, c2, c3, c4, c5, c6, c7⟩ := cells8 hm8
      obtain ⟨d0, d1, d2, d3, d4, d5, d6, d7⟩ := cells8 hn8
      have f5 : ∀ j, j < 8 → wc.frozen? ⟨w.heap.size, j, none⟩ = false := fun j hj => hr8.frozen hj
      have f0 := f5 0 (by omega); have f1 := f5 1 (by omega); have f2 := f5 2 (by omega); have f3 := f5 3 (by omega)
      have f4 := f5 4 (by omega); have f6 := f5 6 (by omega); have f7 := f5 7 (by omega); have f5 := f5 5 (by omega)
      obtain ⟨e0, e1, e2, e3, e4, e5, e6, e7⟩ := cells8 hr8
      go_wp2_with fail
      obtain ⟨e0, e1, e2, e3, e4, e5, e6, e7⟩ := cells8 (set8 hr8 (.int .i64 (engI b)) (.int .i64 (fldI b 0)) (.int .i64 (fldI b 1)) (.int .i64 (fldI b 2)) (.int .i64 (fldI b 3)) (.int .i64 (fldI b 4)) (.int .i64 (fldI b 5)) (.int .i64 (fldI b 6)))
      refine bodyPost_ret (v := .tuple #[.agg (metaV b).toArray, .int .i64 1, .int .i64 0]) ?_ rfl ⟨by rw [HV.out, HW.out, HE.out], below8 hl8 (Nat.le_refl _) (.int .i64 (engI b)) (.int .i64 (fldI b 0)) (.int .i64 (fldI b 1)) (.int .i64 (fldI b 2)) (.int .i64 (fldI b 3)) (.int .i64 (fldI b 4)) (.int .i64 (fldI b 5)) (.int .i64 (fldI b 6))⟩
      simp [results, Try.results19, go_sem, e0, e1, e2, e3, e4, e5, e6, e7, metaV]
set_option maxRecDepth 100000 in
set_option maxHeartbeats 1000000 in
theorem rcho_oe (va vb : Value) (a b : List UInt8) (w : World) (ha : RdB w va a) (hb : RdB w vb b) (a0 : isMeta a = true) (a1 : (fldI a 1 % 2 == 0) = false) (b0 : isMeta b = true) (b1 : (fldI b 1 % 2 == 1) = false) :
    Calls Try.prog 19 #[va, vb] w (ChoPost a b w) := by
  have HV : Hid (choV a b = zeroV) := by show _ = _; simp [choV, choW, choE, pickB, oneB, twoB, a0, a1, b0, b1]
  have HW : Hid (choW a b = 0) := by show _ = _; simp [choV, choW, choE, pickB, oneB, twoB, a0, a1, b0, b1]
  have HE : Hid (choE a b = 51) := by show _ = _; simp [choV, choW, choE, pickB, oneB, twoB, a0, a1, b0, b1]
  obtain ⟨a3, a4⟩ := isMeta_txn a0
  obtain ⟨b3, b4⟩ := isMeta_txn b0
  have h0 : RdB (w.alloc (.cells #[.int .i64 0, .int .i64 0, .int .i64 0, .int .i64 0, .int .i64 0, .int .i64 0, .int .i64 0, .int .i64 0] 24)) va a := ha.alloc _
  have hr0 : OBlk (w.alloc (.cells #[.int .i64 0, .int .i64 0, .int .i64 0, .int .i64 0, .int .i64 0, .int .i64 0, .int .i64 0, .int .i64 0] 24)) w.heap.size 24 zeroV := OBlk.new' w 24 zeroV
  have hl0 : Below w.heap.size w (w.alloc (.cells #[.int .i64 0, .int .i64 0, .int .i64 0, .int .i64 0, .int .i64 0, .int .i64 0, .int .i64 0, .int .i64 0] 24)) := (Below.refl _ _).alloc (Nat.le_refl _) _
  have A0 := Lib.hid a0
  have B0 := Lib.hid b0
  clear a0 b0
  go_enter Try.func19, Try.ntmps19
  go_upto_region 1 with (fail)
  go_cut [7, 8] from 13 to 17 (fun s t wx => ∃ gm : Nat, s = .pointer (some ⟨gm, 0, none⟩) ∧ t = .int .i64 0 ∧ OBlk wx gm 24 (metaV a) ∧ OBlk wx w.heap.size 24 zeroV ∧ Below w.heap.size w wx)
  case first =>
    go_wp2_with fail
    refine (RDecode_y va a A0.out _ h0).mono ?_
    rintro e w5 ⟨rfl, hw5⟩
    have hl5 := hl0.trans (hw5.mono hl0.size)
    have hr5 := hr0.below hw5 hr0.lt
    go_wp2_with fail
    go_meet
    exact ⟨_, rfl, rfl, OBlk.new' w5 24 (metaV a), hr5.alloc _, hl5.alloc hl5.size _⟩
  case rest =>
    obtain ⟨gm, rfl, rfl, hm6, hr6, hl6⟩ := hcut
    clear h0 hr0 hl0
    go_upto_region 2 with (fail)
    go_cut [9, 10] from 18 to 22 (fun s t wx => ∃ gn : Nat, s = .pointer (some ⟨gn, 0, none⟩) ∧ t = .int .i64 0 ∧ OBlk wx gm 24 (metaV a) ∧ OBlk wx gn 24 (metaV b) ∧ OBlk wx w.heap.size 24 zeroV ∧ Below w.heap.size w wx)
    case first =>
      go_wp2_with fail
      refine (RDecode_y vb b B0.out _ (hb.below hl6 (Nat.le_refl _))).mono ?_
      rintro e w7 ⟨rfl, hw7⟩
      have hl7 := hl6.trans (hw7.mono hl6.size)
      have hr7 := hr6.below hw7 hr6.lt
      have hm7 := hm6.below hw7 hm6.lt
      go_wp2_with fail
      go_meet
      exact ⟨_, rfl, rfl, hm7.alloc _, OBlk.new' w7 24 (metaV b), hr7.alloc _, hl7.alloc hl7.size _⟩
    case rest =>
      obtain ⟨gn, rfl, rfl, hm8, hn8, hr8, hl8⟩ := hcut
      clear hm6 hr6 hl6
      obtain ⟨c0, c1, c2, c3, c4, c5, c6, c7⟩ := cells8 hm8
      obtain ⟨d0, d1, d2, d3, d4, d5, d6, d7⟩ := cells8 hn8
      have f5 : ∀ j, j < 8 → wc.frozen? ⟨w.heap.size, j, none⟩ = false := fun j hj => hr8.frozen hj
      have f0 := f5 0 (by omega); have f1 := f5 1 (by omega); have f2 := f5 2 (by omega); have f3 := f5 3 (by omega)
      have f4 := f5 4 (by omega); have f6 := f5 6 (by omega); have f7 := f5 7 (by omega); have f5 := f5 5 (by omega)
      obtain ⟨e0, e1, e2, e3, e4, e5, e6, e7⟩ := cells8 hr8
      go_wp2_with fail
      obtain ⟨e0, e1, e2, e3, e4, e5, e6, e7⟩ := cells8 (set8 hr8 (.int .i64 0) (.int .i64 0) (.int .i64 0) (.int .i64 0) (.int .i64 0) (.int .i64 0) (.int .i64 0) (.int .i64 0))
      refine bodyPost_ret (v := .tuple #[.agg zeroV.toArray, .int .i64 0, .int .i64 51]) ?_ rfl ⟨by rw [HV.out, HW.out, HE.out], below8 hl8 (Nat.le_refl _) (.int .i64 0) (.int .i64 0) (.int .i64 0) (.int .i64 0) (.int .i64 0) (.int .i64 0) (.int .i64 0) (.int .i64 0)⟩
      simp [results, Try.results19, go_sem, e0, e1, e2, e3, e4, e5, e6, e7]
theorem RChoose_any (va vb : Value) (a b : List UInt8) (w : World) (ha : RdB w va a) (hb : RdB w vb b) :
    Calls Try.prog 19 #[va, vb] w (ChoPost a b w) := by
  rcases tf (isMeta a) with a0 | a0
  · rcases tf (fldI a 1 % 2 == 0) with a1 | a1
    · rcases tf (isMeta b) with b0 | b0
      · rcases tf (fldI b 1 % 2 == 1) with b1 | b1
        · by_cases hlt : fldI a 1 < fldI b 1
          · exact rcho_eo1 va vb a b w ha hb a0 a1 b0 b1 hlt
          · exact rcho_eo2 va vb a b w ha hb a0 a1 b0 b1 hlt
        · exact rcho_ee va vb a b w ha hb a0 a1 b0 b1
      · exact rcho_en va vb a b w ha hb a0 a1 b0
    · rcases tf (isMeta b) with b0 | b0
      · rcases tf (fldI b 1 % 2 == 1) with b1 | b1
        · exact rcho_oo va vb a b w ha hb a0 a1 b0 b1
        · exact rcho_oe va vb a b w ha hb a0 a1 b0 b1
      · exact rcho_on va vb a b w ha hb a0 a1 b0
  · rcases tf (isMeta b) with b0 | b0
    · rcases tf (fldI b 1 % 2 == 1) with b1 | b1
      · exact rcho_no va vb a b w ha hb a0 b0 b1
      · exact rcho_ne va vb a b w ha hb a0 b0 b1
    · exact rcho_nn va vb a b w ha hb a0 b0
end Go.Proofs.Ytdnfbjmapdgnnaa
