/- espalierlaw05.MetaDecodes: the walk. -/
import Derived.Test.YtdnfbjmapdgnnaaLawDecA
namespace Go.Proofs.Ytdnfbjmapdgnnaa
open Go.RowKit
set_option maxRecDepth 100000 in
set_option maxHeartbeats 8000000 in
theorem decodes_any (va vb : Value) (a b : List UInt8) (w : World) (ha : RdB w va a) (hb : RdB w vb b) (la : a.length ≤ 140737488351232) (lb : b.length ≤ 140737488351232) :
    Calls Try.prog 5 #[va, vb] w fun e w' => e = .returned (.bool true) ∧ Below w.heap.size w w' := by
  obtain ⟨A, ca, rfl, hma⟩ := ha.form
  obtain ⟨B, cb, rfl, hmb⟩ := hb.form
  go_enter Try.func5, Try.ntmps5
  go_wp2_with fail
  refine (awakeN _).mono ?_
  rintro e w1 ⟨rfl, hw1⟩
  go_wp2_with fail
  refine (lent_any _ a _ (ha.below hw1 (Nat.le_refl _)) la).mono ?_
  rintro e w2 ⟨gx, cx, rfl, ox, hw2⟩
  go_wp2_with fail
  refine (lent_any _ b _ ((hb.below hw1 (Nat.le_refl _)).below hw2 (Nat.le_refl _)) lb).mono ?_
  rintro e w3 ⟨gy, cy, rfl, oy, hw3⟩
  have hI := DecI.new hw1 ox hw2 oy hw3
  clear hw1 hw2 hw3 ox oy
  go_wp2_with fail
  refine (DecodeM _ _ _ hI.rx).mono ?_
  rintro e u0 ⟨rfl, hw⟩
  replace hI := hI.below hw
  clear hw
  have s0 : w.heap.size ≤ u0.heap.size := hI.hb.size
  go_wp2_with fail
  replace hI := hI.alloc (.cells #[.int .i64 (decM a).engine, .int .i64 (decM a).page, .int .i64 (decM a).txn, .int .i64 (decM a).root, .int .i64 (decM a).count, .int .i64 (decM a).free, .int .i64 (decM a).listed, .int .i64 (decM a).high] 24)
  have m0 := MAt.new (decM a) u0
  generalize u0.alloc (.cells #[.int .i64 (decM a).engine, .int .i64 (decM a).page, .int .i64 (decM a).txn, .int .i64 (decM a).root, .int .i64 (decM a).count, .int .i64 (decM a).free, .int .i64 (decM a).listed, .int .i64 (decM a).high] 24) = v0 at *
  refine (DecodeM _ _ _ hI.ry).mono ?_
  rintro e u1 ⟨rfl, hw⟩
  replace hI := hI.below hw
  replace m0 := m0.below hw
  clear hw
  go_wp2_with fail
  replace hI := hI.alloc (.cells #[.int .i64 (decM b).engine, .int .i64 (decM b).page, .int .i64 (decM b).txn, .int .i64 (decM b).root, .int .i64 (decM b).count, .int .i64 (decM b).free, .int .i64 (decM b).listed, .int .i64 (decM b).high] 24)
  replace m0 := m0.alloc (.cells #[.int .i64 (decM b).engine, .int .i64 (decM b).page, .int .i64 (decM b).txn, .int .i64 (decM b).root, .int .i64 (decM b).count, .int .i64 (decM b).free, .int .i64 (decM b).listed, .int .i64 (decM b).high] 24)
  have m1 := MAt.new (decM b) u1
  generalize u1.alloc (.cells #[.int .i64 (decM b).engine, .int .i64 (decM b).page, .int .i64 (decM b).txn, .int .i64 (decM b).root, .int .i64 (decM b).count, .int .i64 (decM b).free, .int .i64 (decM b).listed, .int .i64 (decM b).high] 24) = v1 at *
  refine (ChooseM _ _ _ _ _ hI.rx hI.ry).mono ?_
  rintro e u2 ⟨rfl, hw⟩
  replace hI := hI.below hw
  replace m0 := m0.below hw
  replace m1 := m1.below hw
  clear hw
  have s2 : w.heap.size ≤ u2.heap.size := hI.hb.size
  have n02 := m0.lt
  go_wp2_with fail
  replace hI := hI.alloc (.cells #[.int .i64 (choM a b).engine, .int .i64 (choM a b).page, .int .i64 (choM a b).txn, .int .i64 (choM a b).root, .int .i64 (choM a b).count, .int .i64 (choM a b).free, .int .i64 (choM a b).listed, .int .i64 (choM a b).high] 24)
  replace m0 := m0.alloc (.cells #[.int .i64 (choM a b).engine, .int .i64 (choM a b).page, .int .i64 (choM a b).txn, .int .i64 (choM a b).root, .int .i64 (choM a b).count, .int .i64 (choM a b).free, .int .i64 (choM a b).listed, .int .i64 (choM a b).high] 24)
  replace m1 := m1.alloc (.cells #[.int .i64 (choM a b).engine, .int .i64 (choM a b).page, .int .i64 (choM a b).txn, .int .i64 (choM a b).root, .int .i64 (choM a b).count, .int .i64 (choM a b).free, .int .i64 (choM a b).listed, .int .i64 (choM a b).high] 24)
  have m2 := MAt.new (choM a b) u2
  generalize u2.alloc (.cells #[.int .i64 (choM a b).engine, .int .i64 (choM a b).page, .int .i64 (choM a b).txn, .int .i64 (choM a b).root, .int .i64 (choM a b).count, .int .i64 (choM a b).free, .int .i64 (choM a b).listed, .int .i64 (choM a b).high] 24) = v2 at *
  refine (ChooseM _ _ _ _ _ hI.ry hI.rx).mono ?_
  rintro e u3 ⟨rfl, hw⟩
  replace hI := hI.below hw
  replace m0 := m0.below hw
  replace m1 := m1.below hw
  replace m2 := m2.below hw
  clear hw
  go_wp2_with fail
  replace hI := hI.alloc (.cells #[.int .i64 (choM b a).engine, .int .i64 (choM b a).page, .int .i64 (choM b a).txn, .int .i64 (choM b a).root, .int .i64 (choM b a).count, .int .i64 (choM b a).free, .int .i64 (choM b a).listed, .int .i64 (choM b a).high] 24)
  replace m0 := m0.alloc (.cells #[.int .i64 (choM b a).engine, .int .i64 (choM b a).page, .int .i64 (choM b a).txn, .int .i64 (choM b a).root, .int .i64 (choM b a).count, .int .i64 (choM b a).free, .int .i64 (choM b a).listed, .int .i64 (choM b a).high] 24)
  replace m1 := m1.alloc (.cells #[.int .i64 (choM b a).engine, .int .i64 (choM b a).page, .int .i64 (choM b a).txn, .int .i64 (choM b a).root, .int .i64 (choM b a).count, .int .i64 (choM b a).free, .int .i64 (choM b a).listed, .int .i64 (choM b a).high] 24)
  replace m2 := m2.alloc (.cells #[.int .i64 (choM b a).engine, .int .i64 (choM b a).page, .int .i64 (choM b a).txn, .int .i64 (choM b a).root, .int .i64 (choM b a).count, .int .i64 (choM b a).free, .int .i64 (choM b a).listed, .int .i64 (choM b a).high] 24)
  have m3 := MAt.new (choM b a) u3
  generalize u3.alloc (.cells #[.int .i64 (choM b a).engine, .int .i64 (choM b a).page, .int .i64 (choM b a).txn, .int .i64 (choM b a).root, .int .i64 (choM b a).count, .int .i64 (choM b a).free, .int .i64 (choM b a).listed, .int .i64 (choM b a).high] 24) = v3 at *
  refine (RDecodeM _ _ _ (hI.arg ha)).mono ?_
  rintro e u4 ⟨rfl, hw⟩
  replace hI := hI.below hw
  replace m0 := m0.below hw
  replace m1 := m1.below hw
  replace m2 := m2.below hw
  replace m3 := m3.below hw
  clear hw
  go_wp2_with fail
  replace hI := hI.alloc (.cells #[.int .i64 (decM a).engine, .int .i64 (decM a).page, .int .i64 (decM a).txn, .int .i64 (decM a).root, .int .i64 (decM a).count, .int .i64 (decM a).free, .int .i64 (decM a).listed, .int .i64 (decM a).high] 24)
  replace m0 := m0.alloc (.cells #[.int .i64 (decM a).engine, .int .i64 (decM a).page, .int .i64 (decM a).txn, .int .i64 (decM a).root, .int .i64 (decM a).count, .int .i64 (decM a).free, .int .i64 (decM a).listed, .int .i64 (decM a).high] 24)
  replace m1 := m1.alloc (.cells #[.int .i64 (decM a).engine, .int .i64 (decM a).page, .int .i64 (decM a).txn, .int .i64 (decM a).root, .int .i64 (decM a).count, .int .i64 (decM a).free, .int .i64 (decM a).listed, .int .i64 (decM a).high] 24)
  replace m2 := m2.alloc (.cells #[.int .i64 (decM a).engine, .int .i64 (decM a).page, .int .i64 (decM a).txn, .int .i64 (decM a).root, .int .i64 (decM a).count, .int .i64 (decM a).free, .int .i64 (decM a).listed, .int .i64 (decM a).high] 24)
  replace m3 := m3.alloc (.cells #[.int .i64 (decM a).engine, .int .i64 (decM a).page, .int .i64 (decM a).txn, .int .i64 (decM a).root, .int .i64 (decM a).count, .int .i64 (decM a).free, .int .i64 (decM a).listed, .int .i64 (decM a).high] 24)
  have m4 := MAt.new (decM a) u4
  generalize u4.alloc (.cells #[.int .i64 (decM a).engine, .int .i64 (decM a).page, .int .i64 (decM a).txn, .int .i64 (decM a).root, .int .i64 (decM a).count, .int .i64 (decM a).free, .int .i64 (decM a).listed, .int .i64 (decM a).high] 24) = v4 at *
  refine (RDecodeM _ _ _ (hI.arg hb)).mono ?_
  rintro e u5 ⟨rfl, hw⟩
  replace hI := hI.below hw
  replace m0 := m0.below hw
  replace m1 := m1.below hw
  replace m2 := m2.below hw
  replace m3 := m3.below hw
  replace m4 := m4.below hw
  clear hw
  have n05 := m0.lt
  have n25 := m2.lt
  go_wp2_with fail
  replace hI := hI.alloc (.cells #[.int .i64 (decM b).engine, .int .i64 (decM b).page, .int .i64 (decM b).txn, .int .i64 (decM b).root, .int .i64 (decM b).count, .int .i64 (decM b).free, .int .i64 (decM b).listed, .int .i64 (decM b).high] 24)
  replace m0 := m0.alloc (.cells #[.int .i64 (decM b).engine, .int .i64 (decM b).page, .int .i64 (decM b).txn, .int .i64 (decM b).root, .int .i64 (decM b).count, .int .i64 (decM b).free, .int .i64 (decM b).listed, .int .i64 (decM b).high] 24)
  replace m1 := m1.alloc (.cells #[.int .i64 (decM b).engine, .int .i64 (decM b).page, .int .i64 (decM b).txn, .int .i64 (decM b).root, .int .i64 (decM b).count, .int .i64 (decM b).free, .int .i64 (decM b).listed, .int .i64 (decM b).high] 24)
  replace m2 := m2.alloc (.cells #[.int .i64 (decM b).engine, .int .i64 (decM b).page, .int .i64 (decM b).txn, .int .i64 (decM b).root, .int .i64 (decM b).count, .int .i64 (decM b).free, .int .i64 (decM b).listed, .int .i64 (decM b).high] 24)
  replace m3 := m3.alloc (.cells #[.int .i64 (decM b).engine, .int .i64 (decM b).page, .int .i64 (decM b).txn, .int .i64 (decM b).root, .int .i64 (decM b).count, .int .i64 (decM b).free, .int .i64 (decM b).listed, .int .i64 (decM b).high] 24)
  replace m4 := m4.alloc (.cells #[.int .i64 (decM b).engine, .int .i64 (decM b).page, .int .i64 (decM b).txn, .int .i64 (decM b).root, .int .i64 (decM b).count, .int .i64 (decM b).free, .int .i64 (decM b).listed, .int .i64 (decM b).high] 24)
  have m5 := MAt.new (decM b) u5
  generalize u5.alloc (.cells #[.int .i64 (decM b).engine, .int .i64 (decM b).page, .int .i64 (decM b).txn, .int .i64 (decM b).root, .int .i64 (decM b).count, .int .i64 (decM b).free, .int .i64 (decM b).listed, .int .i64 (decM b).high] 24) = v5 at *
  refine (RChooseM _ _ _ _ _ (hI.arg ha) (hI.arg hb)).mono ?_
  rintro e u6 ⟨rfl, hw⟩
  replace hI := hI.below hw
  replace m0 := m0.below hw
  replace m1 := m1.below hw
  replace m2 := m2.below hw
  replace m3 := m3.below hw
  replace m4 := m4.below hw
  replace m5 := m5.below hw
  clear hw
  go_wp2_with fail
  replace hI := hI.alloc (.cells #[.int .i64 (choM a b).engine, .int .i64 (choM a b).page, .int .i64 (choM a b).txn, .int .i64 (choM a b).root, .int .i64 (choM a b).count, .int .i64 (choM a b).free, .int .i64 (choM a b).listed, .int .i64 (choM a b).high] 24)
  replace m0 := m0.alloc (.cells #[.int .i64 (choM a b).engine, .int .i64 (choM a b).page, .int .i64 (choM a b).txn, .int .i64 (choM a b).root, .int .i64 (choM a b).count, .int .i64 (choM a b).free, .int .i64 (choM a b).listed, .int .i64 (choM a b).high] 24)
  replace m1 := m1.alloc (.cells #[.int .i64 (choM a b).engine, .int .i64 (choM a b).page, .int .i64 (choM a b).txn, .int .i64 (choM a b).root, .int .i64 (choM a b).count, .int .i64 (choM a b).free, .int .i64 (choM a b).listed, .int .i64 (choM a b).high] 24)
  replace m2 := m2.alloc (.cells #[.int .i64 (choM a b).engine, .int .i64 (choM a b).page, .int .i64 (choM a b).txn, .int .i64 (choM a b).root, .int .i64 (choM a b).count, .int .i64 (choM a b).free, .int .i64 (choM a b).listed, .int .i64 (choM a b).high] 24)
  replace m3 := m3.alloc (.cells #[.int .i64 (choM a b).engine, .int .i64 (choM a b).page, .int .i64 (choM a b).txn, .int .i64 (choM a b).root, .int .i64 (choM a b).count, .int .i64 (choM a b).free, .int .i64 (choM a b).listed, .int .i64 (choM a b).high] 24)
  replace m4 := m4.alloc (.cells #[.int .i64 (choM a b).engine, .int .i64 (choM a b).page, .int .i64 (choM a b).txn, .int .i64 (choM a b).root, .int .i64 (choM a b).count, .int .i64 (choM a b).free, .int .i64 (choM a b).listed, .int .i64 (choM a b).high] 24)
  replace m5 := m5.alloc (.cells #[.int .i64 (choM a b).engine, .int .i64 (choM a b).page, .int .i64 (choM a b).txn, .int .i64 (choM a b).root, .int .i64 (choM a b).count, .int .i64 (choM a b).free, .int .i64 (choM a b).listed, .int .i64 (choM a b).high] 24)
  have m6 := MAt.new (choM a b) u6
  generalize u6.alloc (.cells #[.int .i64 (choM a b).engine, .int .i64 (choM a b).page, .int .i64 (choM a b).txn, .int .i64 (choM a b).root, .int .i64 (choM a b).count, .int .i64 (choM a b).free, .int .i64 (choM a b).listed, .int .i64 (choM a b).high] 24) = v6 at *
  refine (RChooseM _ _ _ _ _ (hI.arg hb) (hI.arg ha)).mono ?_
  rintro e u7 ⟨rfl, hw⟩
  replace hI := hI.below hw
  replace m0 := m0.below hw
  replace m1 := m1.below hw
  replace m2 := m2.below hw
  replace m3 := m3.below hw
  replace m4 := m4.below hw
  replace m5 := m5.below hw
  replace m6 := m6.below hw
  clear hw
  have n07 := m0.lt
  have n27 := m2.lt
  go_upto_region 14 with (fail)
  replace hI := hI.alloc (.cells #[.int .i64 (choM b a).engine, .int .i64 (choM b a).page, .int .i64 (choM b a).txn, .int .i64 (choM b a).root, .int .i64 (choM b a).count, .int .i64 (choM b a).free, .int .i64 (choM b a).listed, .int .i64 (choM b a).high] 24)
  replace m0 := m0.alloc (.cells #[.int .i64 (choM b a).engine, .int .i64 (choM b a).page, .int .i64 (choM b a).txn, .int .i64 (choM b a).root, .int .i64 (choM b a).count, .int .i64 (choM b a).free, .int .i64 (choM b a).listed, .int .i64 (choM b a).high] 24)
  replace m1 := m1.alloc (.cells #[.int .i64 (choM b a).engine, .int .i64 (choM b a).page, .int .i64 (choM b a).txn, .int .i64 (choM b a).root, .int .i64 (choM b a).count, .int .i64 (choM b a).free, .int .i64 (choM b a).listed, .int .i64 (choM b a).high] 24)
  replace m2 := m2.alloc (.cells #[.int .i64 (choM b a).engine, .int .i64 (choM b a).page, .int .i64 (choM b a).txn, .int .i64 (choM b a).root, .int .i64 (choM b a).count, .int .i64 (choM b a).free, .int .i64 (choM b a).listed, .int .i64 (choM b a).high] 24)
  replace m3 := m3.alloc (.cells #[.int .i64 (choM b a).engine, .int .i64 (choM b a).page, .int .i64 (choM b a).txn, .int .i64 (choM b a).root, .int .i64 (choM b a).count, .int .i64 (choM b a).free, .int .i64 (choM b a).listed, .int .i64 (choM b a).high] 24)
  replace m4 := m4.alloc (.cells #[.int .i64 (choM b a).engine, .int .i64 (choM b a).page, .int .i64 (choM b a).txn, .int .i64 (choM b a).root, .int .i64 (choM b a).count, .int .i64 (choM b a).free, .int .i64 (choM b a).listed, .int .i64 (choM b a).high] 24)
  replace m5 := m5.alloc (.cells #[.int .i64 (choM b a).engine, .int .i64 (choM b a).page, .int .i64 (choM b a).txn, .int .i64 (choM b a).root, .int .i64 (choM b a).count, .int .i64 (choM b a).free, .int .i64 (choM b a).listed, .int .i64 (choM b a).high] 24)
  replace m6 := m6.alloc (.cells #[.int .i64 (choM b a).engine, .int .i64 (choM b a).page, .int .i64 (choM b a).txn, .int .i64 (choM b a).root, .int .i64 (choM b a).count, .int .i64 (choM b a).free, .int .i64 (choM b a).listed, .int .i64 (choM b a).high] 24)
  have m7 := MAt.new (choM b a) u7
  generalize u7.alloc (.cells #[.int .i64 (choM b a).engine, .int .i64 (choM b a).page, .int .i64 (choM b a).txn, .int .i64 (choM b a).root, .int .i64 (choM b a).count, .int .i64 (choM b a).free, .int .i64 (choM b a).listed, .int .i64 (choM b a).high] 24) = v7 at *
  obtain ⟨c0_0, c0_1, c0_2, c0_3, c0_4, c0_5, c0_6, c0_7⟩ := m0.cells
  have l0 := m0.lt
  obtain ⟨c1_0, c1_1, c1_2, c1_3, c1_4, c1_5, c1_6, c1_7⟩ := m1.cells
  have l1 := m1.lt
  obtain ⟨c2_0, c2_1, c2_2, c2_3, c2_4, c2_5, c2_6, c2_7⟩ := m2.cells
  have l2 := m2.lt
  obtain ⟨c3_0, c3_1, c3_2, c3_3, c3_4, c3_5, c3_6, c3_7⟩ := m3.cells
  have l3 := m3.lt
  obtain ⟨c4_0, c4_1, c4_2, c4_3, c4_4, c4_5, c4_6, c4_7⟩ := m4.cells
  have l4 := m4.lt
  obtain ⟨c5_0, c5_1, c5_2, c5_3, c5_4, c5_5, c5_6, c5_7⟩ := m5.cells
  have l5 := m5.lt
  obtain ⟨c6_0, c6_1, c6_2, c6_3, c6_4, c6_5, c6_6, c6_7⟩ := m6.cells
  have l6 := m6.lt
  obtain ⟨c7_0, c7_1, c7_2, c7_3, c7_4, c7_5, c7_6, c7_7⟩ := m7.cells
  have l7 := m7.lt
  go_upto_region 16 with (fail)
  clear c0_0 c0_1 c0_2 c0_3 c0_4 c0_5 c0_6 c0_7 c1_0 c1_1 c1_2 c1_3 c1_4 c1_5 c1_6 c1_7 c2_0 c2_1 c2_2 c2_3 c2_4 c2_5 c2_6 c2_7 c3_0 c3_1 c3_2 c3_3 c3_4 c3_5 c3_6 c3_7 c4_0 c4_1 c4_2 c4_3 c4_4 c4_5 c4_6 c4_7 c5_0 c5_1 c5_2 c5_3 c5_4 c5_5 c5_6 c5_7 c6_0 c6_1 c6_2 c6_3 c6_4 c6_5 c6_6 c6_7 c7_0 c7_1 c7_2 c7_3 c7_4 c7_5 c7_6 c7_7
  clear l0 l1 l2 l3 l4 l5 l6 l7
  by_cases hl : a.length = b.length
  · have HL := Lib.hid hl
    have hq : ((a.length : Int) == (b.length : Int)) = true := by simp [hl]
    clear hl
    clear m1 m3 m4 m6
    go_wp2_with (first
      | ((with_reducible refine at_copy ?_); refine wp_copy_Ow rfl (.tmp 150) (.tmp 151) rfl w.heap.size gx a.length 8 cx cx a spareL rfl hI.ox rfl rfl _ b rfl (hI.arg hb) HL.out.symm ?_; intro u8 ox8 hg8; have hJ := hI.setx hg8 ox8 HL.out.symm)
      | ((with_reducible refine at_copy ?_); refine wp_copy_Ow rfl (.tmp 153) (.tmp 154) rfl w.heap.size gy b.length 8 cy cy b spareL rfl hJ.oy rfl rfl _ a rfl (hJ.arg ha) HL.out ?_; intro u9 oy9 hg9; have hK := hJ.sety hg9 oy9 HL.out)
      | fail)
    have m08 := m0.grown hg8 (Ne.symm (m0.ne_bytes hI.ox))
    have m09 := m08.grown hg9 (Ne.symm (m08.ne_bytes hJ.oy))
    have m28 := m2.grown hg8 (Ne.symm (m2.ne_bytes hI.ox))
    have m29 := m28.grown hg9 (Ne.symm (m28.ne_bytes hJ.oy))
    have m58 := m5.grown hg8 (Ne.symm (m5.ne_bytes hI.ox))
    have m59 := m58.grown hg9 (Ne.symm (m58.ne_bytes hJ.oy))
    have m78 := m7.grown hg8 (Ne.symm (m7.ne_bytes hI.ox))
    have m79 := m78.grown hg9 (Ne.symm (m78.ne_bytes hJ.oy))
    clear m0 m2 m5 m7 m08 m28 m58 m78 hI hJ ox8 oy9 hg8 hg9
    refine (DecodeM _ _ _ hK.rx).mono ?_
    rintro e u10 ⟨rfl, hw⟩
    replace hK := hK.below hw
    replace m09 := m09.below hw
    replace m29 := m29.below hw
    replace m59 := m59.below hw
    replace m79 := m79.below hw
    clear hw
    obtain ⟨f0, f1, f2, f3, f4, f5, f6, f7⟩ := m09.frozen
    obtain ⟨c0, c1, c2, c3, c4, c5, c6, c7⟩ := m09.cells
    go_wp2_with fail
    clear f0 f1 f2 f3 f4 f5 f6 f7 c0 c1 c2 c3 c4 c5 c6 c7
    obtain ⟨v10, ev, mA, hg⟩ := m09.put (decM b)
    rw [← ev]
    clear ev
    replace hK := hK.grown hg s0 (m09.ne_bytes hK.ox) (m09.ne_bytes hK.oy)
    replace m29 := m29.grown hg (by omega)
    replace m59 := m59.grown hg (by omega)
    replace m79 := m79.grown hg (by omega)
    clear hg m09
    refine (ChooseM _ _ _ _ _ hK.rx hK.ry).mono ?_
    rintro e u11 ⟨rfl, hw⟩
    replace hK := hK.below hw
    replace mA := mA.below hw
    replace m29 := m29.below hw
    replace m59 := m59.below hw
    replace m79 := m79.below hw
    clear hw
    obtain ⟨f0, f1, f2, f3, f4, f5, f6, f7⟩ := m29.frozen
    obtain ⟨c0, c1, c2, c3, c4, c5, c6, c7⟩ := m29.cells
    go_wp2_with fail
    clear f0 f1 f2 f3 f4 f5 f6 f7 c0 c1 c2 c3 c4 c5 c6 c7
    obtain ⟨v11, ev, mC, hg⟩ := m29.put (choM b a)
    rw [← ev]
    clear ev
    replace hK := hK.grown hg s2 (m29.ne_bytes hK.ox) (m29.ne_bytes hK.oy)
    replace mA := mA.grown hg (by omega)
    replace m59 := m59.grown hg (by omega)
    replace m79 := m79.grown hg (by omega)
    clear hg m29
    refine (kept_any gx cx a.length _ b w.heap.size _ HL.out.symm hK.ox (hK.arg hb) lb).mono ?_
    rintro e u12 ⟨rfl, hg⟩
    have oy := hK.oy.grown hg (fun k hk he => hK.ne ((Option.some.inj hk).trans (Option.some.inj he)).symm)
    have hb12 := hK.hb.grown hg hK.hb.size (fun k hk => (Option.some.inj hk) ▸ hK.bx.1)
    replace mA := mA.grown hg (Ne.symm (mA.ne_bytes hK.ox))
    replace mC := mC.grown hg (Ne.symm (mC.ne_bytes hK.ox))
    replace m59 := m59.grown hg (Ne.symm (m59.ne_bytes hK.ox))
    replace m79 := m79.grown hg (Ne.symm (m79.ne_bytes hK.ox))
    go_wp2_with fail
    refine (kept_any gy cy b.length _ a w.heap.size _ HL.out oy (ha.below hb12 (Nat.le_refl _)) la).mono ?_
    rintro e u13 ⟨rfl, hg9⟩
    have hb13 := hb12.grown hg9 hb12.size (fun k hk => (Option.some.inj hk) ▸ hK.by'.1)
    replace mA := mA.grown hg9 (Ne.symm (mA.ne_bytes oy))
    replace mC := mC.grown hg9 (Ne.symm (mC.ne_bytes oy))
    replace m59 := m59.grown hg9 (Ne.symm (m59.ne_bytes oy))
    replace m79 := m79.grown hg9 (Ne.symm (m79.ne_bytes oy))
    clear hK oy hb12 hg hg9
    obtain ⟨cmA0, cmA1, cmA2, cmA3, cmA4, cmA5, cmA6, cmA7⟩ := mA.cells
    obtain ⟨cmC0, cmC1, cmC2, cmC3, cmC4, cmC5, cmC6, cmC7⟩ := mC.cells
    obtain ⟨cm590, cm591, cm592, cm593, cm594, cm595, cm596, cm597⟩ := m59.cells
    obtain ⟨cm790, cm791, cm792, cm793, cm794, cm795, cm796, cm797⟩ := m79.cells
    go_wp2_with fail
    go_ret
    exact ⟨rfl, hb13⟩
  · have hq : ((a.length : Int) == (b.length : Int)) = false := by simp; omega
    clear hl m0 m1 m2 m3 m4 m5 m6 m7
    go_wp2_with fail
    refine (kept_any gx cx a.length _ a w.heap.size _ rfl hI.ox (hI.arg ha) la).mono ?_
    rintro e u8 ⟨rfl, hg⟩
    have oy := hI.oy.grown hg (fun k hk he => hI.ne ((Option.some.inj hk).trans (Option.some.inj he)).symm)
    have hb8 := hI.hb.grown hg hI.hb.size (fun k hk => (Option.some.inj hk) ▸ hI.bx.1)
    go_wp2_with fail
    refine (kept_any gy cy b.length _ b w.heap.size _ rfl oy (hb.below hb8 (Nat.le_refl _)) lb).mono ?_
    rintro e u9 ⟨rfl, hg9⟩
    have hb9 := hb8.grown hg9 hb8.size (fun k hk => (Option.some.inj hk) ▸ hI.by'.1)
    go_wp2_with fail
    go_ret
    exact ⟨rfl, hb9⟩
end Go.Proofs.Ytdnfbjmapdgnnaa
