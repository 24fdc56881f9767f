/- espalierlaw05.MetaHolds: the walk. -/
import Derived.Test.YtdnfbjmapdgnnaaLawTurn
namespace Go.Proofs.Ytdnfbjmapdgnnaa
open Go.RowKit
theorem MetaN.pg_page {m : MetaN} (h : m.okb = true) : (m.pg.length : Int) = m.page ∧ 512 ≤ m.pg.length := by
  obtain ⟨eg, pg, tx, rt, ct, fr, ls, hi, rfl, h1, h2⟩ := m.nat h
  have hp := okB_page h1
  rw [h2, encF_length hp.1]
  exact ⟨rfl, hp.1⟩
def MetaN.next (m : MetaN) : MetaN := ⟨m.engine, m.page, m.txn + 1, m.root, m.count, m.free, m.listed, m.high⟩
theorem MetaN.next_okb {m : MetaN} (h : m.okb = true) : m.next.okb = decide (m.txn < 1099511627776) := by
  have hr := MetaN.txn_range h
  simp only [MetaN.okb, okB, Bool.and_eq_true] at h
  obtain ⟨⟨⟨⟨⟨⟨h1, h2⟩, h3⟩, h4⟩, h5⟩, h6⟩, h7⟩ := h
  show okB m.engine m.page (m.txn + 1) m.root m.count m.free m.listed m.high = _
  unfold okB
  rw [h1, h2, h4, h5, h6, h7]
  simp only [Bool.true_and, Bool.and_true]
  unfold txnB
  by_cases hc : m.txn < 1099511627776
  · rw [decide_eq_true hc, decide_eq_true (by omega)]
  · rw [decide_eq_false hc, decide_eq_false (by omega)]
set_option maxRecDepth 100000 in
set_option maxHeartbeats 8000000 in
theorem holds_any (m : MetaN) (at_ : Int) (vt vo : Value) (t l : List UInt8) (w : World) (h1 : -9223372036854775808 ≤ at_) (h2 : at_ ≤ 9223372036854775807) (rt : RdB w vt t) (ro : RdB w vo l) :
    Calls Try.prog 6 #[.agg #[.int .i64 m.engine, .int .i64 m.page, .int .i64 m.txn, .int .i64 m.root, .int .i64 m.count, .int .i64 m.free, .int .i64 m.listed, .int .i64 m.high], .int .i64 at_, vt, vo] w fun e w' => e = .returned (.bool true) ∧ Below w.heap.size w w' := by
  go_enter Try.func6, Try.ntmps6
  go_wp2_with fail
  refine (awakeN _).mono ?_
  rintro e w1 ⟨rfl, hw1⟩
  have mA := (MAt.new m w).below hw1
  have hb := ((Below.refl w.heap.size w).alloc (Nat.le_refl _) (.cells #[.int .i64 m.engine, .int .i64 m.page, .int .i64 m.txn, .int .i64 m.root, .int .i64 m.count, .int .i64 m.free, .int .i64 m.listed, .int .i64 m.high] 24)).trans (hw1.mono (by simp))
  clear hw1
  obtain ⟨c0, c1, c2, c3, c4, c5, c6, c7⟩ := mA.cells
  go_wp2_with fail
  refine (CheckN m _).mono ?_
  rintro e w2 ⟨rfl, hw⟩
  replace mA := mA.below hw
  replace hb := hb.trans (hw.mono hb.size)
  clear hw c0 c1 c2 c3 c4 c5 c6 c7
  obtain ⟨c0, c1, c2, c3, c4, c5, c6, c7⟩ := mA.cells
  go_wp2_with fail
  refine (EncodeN m _).mono ?_
  rintro e w3 ⟨A, cA, rfl, hv, hw⟩
  have hd := hb.size
  replace mA := mA.below hw
  replace hb := hb.trans (hw.mono hb.size)
  have rv := hv.rd
  clear hw hv hd c0 c1 c2 c3 c4 c5 c6 c7
  rcases tf m.okb with hok | hok
  case inr =>
    have hcd : m.cd = 1 := by unfold MetaN.cd; rw [hok]; rfl
    have hpg : m.pg.length = 0 := by unfold MetaN.pg; rw [hok]; rfl
    rw [hcd, hpg]
    clear hcd hpg hok
    go_wp2_with fail
    go_ret
    exact ⟨rfl, hb⟩
  have hcd : m.cd = 0 := by unfold MetaN.cd; rw [hok]; rfl
  have HOK := Lib.hid hok
  rw [hcd]
  clear hcd hok
  go_wp2_with fail
  refine (DecodeM _ _ _ rv).mono ?_
  rintro e w4 ⟨rfl, hw⟩
  have hdm : decM m.pg = m := by unfold decM; rw [(MetaN.pg_meta HOK.out).1]; exact (MetaN.pg_meta HOK.out).2.1
  have hdc : decC m.pg = 0 := by unfold decC; rw [(MetaN.pg_meta HOK.out).1]; rfl
  rw [hdm, hdc]
  have hpp := (MetaN.pg_page HOK.out).1
  have htr := MetaN.txn_range HOK.out
  obtain ⟨tr1, tr2⟩ := htr
  replace mA := mA.below hw
  replace hb := hb.trans (hw.mono hb.size)
  replace rv := rv.below hw (Nat.le_refl _)
  clear hw hdm hdc
  go_upto_region 11 with (fail)
  replace mA := mA.alloc (.cells #[.int .i64 m.engine, .int .i64 m.page, .int .i64 m.txn, .int .i64 m.root, .int .i64 m.count, .int .i64 m.free, .int .i64 m.listed, .int .i64 m.high] 24)
  replace rv := rv.alloc (.cells #[.int .i64 m.engine, .int .i64 m.page, .int .i64 m.txn, .int .i64 m.root, .int .i64 m.count, .int .i64 m.free, .int .i64 m.listed, .int .i64 m.high] 24)
  replace hb := hb.alloc hb.size (.cells #[.int .i64 m.engine, .int .i64 m.page, .int .i64 m.txn, .int .i64 m.root, .int .i64 m.count, .int .i64 m.free, .int .i64 m.listed, .int .i64 m.high] 24)
  have mN := MAt.new m w4
  generalize w4.alloc (.cells #[.int .i64 m.engine, .int .i64 m.page, .int .i64 m.txn, .int .i64 m.root, .int .i64 m.count, .int .i64 m.free, .int .i64 m.listed, .int .i64 m.high] 24) = v4 at *
  obtain ⟨c0, c1, c2, c3, c4, c5, c6, c7⟩ := mA.cells
  obtain ⟨d0, d1, d2, d3, d4, d5, d6, d7⟩ := mN.cells
  have gA := mA.lt
  go_upto_region 15 with (fail)
  clear c0 c1 c2 c3 c4 c5 c6 c7 d0 d1 d2 d3 d4 d5 d6 d7 gA
  replace mA := mA.alloc (.cells #[.int .i64 m.engine, .int .i64 m.page, .int .i64 (m.txn + 1), .int .i64 m.root, .int .i64 m.count, .int .i64 m.free, .int .i64 m.listed, .int .i64 m.high] 24)
  replace rv := rv.alloc (.cells #[.int .i64 m.engine, .int .i64 m.page, .int .i64 (m.txn + 1), .int .i64 m.root, .int .i64 m.count, .int .i64 m.free, .int .i64 m.listed, .int .i64 m.high] 24)
  replace hb := hb.alloc hb.size (.cells #[.int .i64 m.engine, .int .i64 m.page, .int .i64 (m.txn + 1), .int .i64 m.root, .int .i64 m.count, .int .i64 m.free, .int .i64 m.listed, .int .i64 m.high] 24)
  have mX : MAt v4.heap.size m.next (v4.alloc (.cells #[.int .i64 m.engine, .int .i64 m.page, .int .i64 (m.txn + 1), .int .i64 m.root, .int .i64 m.count, .int .i64 m.free, .int .i64 m.listed, .int .i64 m.high] 24)) := MAt.new m.next v4
  clear mN
  generalize v4.alloc (.cells #[.int .i64 m.engine, .int .i64 m.page, .int .i64 (m.txn + 1), .int .i64 m.root, .int .i64 m.count, .int .i64 m.free, .int .i64 m.listed, .int .i64 m.high] 24) = v5 at *
  obtain ⟨d0, d1, d2, d3, d4, d5, d6, d7⟩ := mX.cells
  change v5.cell? ⟨v4.heap.size, 0, none⟩ = some (.int .i64 m.engine) at d0
  change v5.cell? ⟨v4.heap.size, 1, none⟩ = some (.int .i64 m.page) at d1
  change v5.cell? ⟨v4.heap.size, 2, none⟩ = some (.int .i64 (m.txn + 1)) at d2
  change v5.cell? ⟨v4.heap.size, 3, none⟩ = some (.int .i64 m.root) at d3
  change v5.cell? ⟨v4.heap.size, 4, none⟩ = some (.int .i64 m.count) at d4
  change v5.cell? ⟨v4.heap.size, 5, none⟩ = some (.int .i64 m.free) at d5
  change v5.cell? ⟨v4.heap.size, 6, none⟩ = some (.int .i64 m.listed) at d6
  change v5.cell? ⟨v4.heap.size, 7, none⟩ = some (.int .i64 m.high) at d7
  go_wp2_with fail
  refine (EncodeN m.next _).mono ?_
  rintro e w5 ⟨A', cA', rfl, hv, hw⟩
  replace mA := mA.below hw
  replace mX := mX.below hw
  replace hb := hb.trans (hw.mono hb.size)
  replace rv := rv.below hw (Nat.le_refl _)
  have rn := hv.rd
  clear hw hv d0 d1 d2 d3 d4 d5 d6 d7
  obtain ⟨c0, c1, c2, c3, c4, c5, c6, c7⟩ := mA.cells
  have hno := MetaN.next_okb HOK.out
  by_cases hc : m.txn < 1099511627776
  · have hnt : m.next.okb = true := by rw [hno, decide_eq_true hc]
    have hcd : m.next.cd = 0 := by unfold MetaN.cd; rw [hnt]; rfl
    have HN := Lib.hid hnt
    rw [hcd]
    clear hcd hnt hno
    have cx := mX.cells
    obtain ⟨d0, d1, d2, d3, d4, d5, d6, d7⟩ := cx
    change w5.cell? ⟨v4.heap.size, 0, none⟩ = some (.int .i64 m.engine) at d0
    change w5.cell? ⟨v4.heap.size, 1, none⟩ = some (.int .i64 m.page) at d1
    change w5.cell? ⟨v4.heap.size, 2, none⟩ = some (.int .i64 (m.txn + 1)) at d2
    change w5.cell? ⟨v4.heap.size, 3, none⟩ = some (.int .i64 m.root) at d3
    change w5.cell? ⟨v4.heap.size, 4, none⟩ = some (.int .i64 m.count) at d4
    change w5.cell? ⟨v4.heap.size, 5, none⟩ = some (.int .i64 m.free) at d5
    change w5.cell? ⟨v4.heap.size, 6, none⟩ = some (.int .i64 m.listed) at d6
    change w5.cell? ⟨v4.heap.size, 7, none⟩ = some (.int .i64 m.high) at d7
    go_wp2_with fail
    refine (newer_any (n := m.next) HOK.out HN.out rfl _ _ _ rv rn).mono ?_
    rintro e w9 ⟨rfl, hw⟩
    replace mA := mA.below hw
    replace hb := hb.trans (hw.mono hb.size)
    replace rv := rv.below hw (Nat.le_refl _)
    clear hw rn mX d0 d1 d2 d3 d4 d5 d6 d7 c0 c1 c2 c3 c4 c5 c6 c7 hc
    go_wp2_with fail
    refine (DecodeM _ l _ (ro.below hb (Nat.le_refl _))).mono ?_
    rintro e w6 ⟨rfl, hw⟩
    replace mA := mA.below hw
    replace hb := hb.trans (hw.mono hb.size)
    replace rv := rv.below hw (Nat.le_refl _)
    clear hw
    go_upto_region 21 with (fail)
    replace mA := mA.alloc (.cells #[.int .i64 (decM l).engine, .int .i64 (decM l).page, .int .i64 (decM l).txn, .int .i64 (decM l).root, .int .i64 (decM l).count, .int .i64 (decM l).free, .int .i64 (decM l).listed, .int .i64 (decM l).high] 24)
    replace rv := rv.alloc (.cells #[.int .i64 (decM l).engine, .int .i64 (decM l).page, .int .i64 (decM l).txn, .int .i64 (decM l).root, .int .i64 (decM l).count, .int .i64 (decM l).free, .int .i64 (decM l).listed, .int .i64 (decM l).high] 24)
    replace hb := hb.alloc hb.size (.cells #[.int .i64 (decM l).engine, .int .i64 (decM l).page, .int .i64 (decM l).txn, .int .i64 (decM l).root, .int .i64 (decM l).count, .int .i64 (decM l).free, .int .i64 (decM l).listed, .int .i64 (decM l).high] 24)
    generalize w6.alloc (.cells #[.int .i64 (decM l).engine, .int .i64 (decM l).page, .int .i64 (decM l).txn, .int .i64 (decM l).root, .int .i64 (decM l).count, .int .i64 (decM l).free, .int .i64 (decM l).listed, .int .i64 (decM l).high] 24) = v6 at *
    rcases tf (isMeta l) with hi | hi
    · have hdc : decC l = 0 := by unfold decC; rw [hi]; rfl
      rw [hdc]
      clear hdc hi
      go_wp2_with fail
      refine (turned_any (MetaN.pg_meta HOK.out).1 (MetaN.pg_page HOK.out).2 m.pg_len at_ h1 h2 _ vt _ rv (rt.below hb (Nat.le_refl _))).mono ?_
      rintro e w8 ⟨rfl, hw⟩
      replace hb := hb.trans (hw.mono hb.size)
      go_wp2_with fail
      go_ret
      exact ⟨rfl, hb⟩
    · have hdc : decC l = 50 := by unfold decC; rw [hi]; rfl
      rw [hdc]
      clear hdc
      have HI := Lib.hid hi
      clear hi
      obtain ⟨e0, e1, e2, e3, e4, e5, e6, e7⟩ := mA.cells
      go_wp2_with fail
      refine (alone_any HOK.out HI.out _ vo _ rv (ro.below hb (Nat.le_refl _))).mono ?_
      rintro e w7 ⟨rfl, hw⟩
      replace mA := mA.below hw
      replace hb := hb.trans (hw.mono hb.size)
      replace rv := rv.below hw (Nat.le_refl _)
      clear hw e0 e1 e2 e3 e4 e5 e6 e7
      go_wp2_with fail
      refine (turned_any (MetaN.pg_meta HOK.out).1 (MetaN.pg_page HOK.out).2 m.pg_len at_ h1 h2 _ vt _ rv (rt.below hb (Nat.le_refl _))).mono ?_
      rintro e w8 ⟨rfl, hw⟩
      replace hb := hb.trans (hw.mono hb.size)
      go_wp2_with fail
      go_ret
      exact ⟨rfl, hb⟩
  · have hnt : m.next.okb = false := by rw [hno, decide_eq_false hc]
    have hcd : m.next.cd = 1 := by unfold MetaN.cd; rw [hnt]; rfl
    rw [hcd]
    clear hcd hnt hno rn mX
    go_wp2_with fail
    refine (DecodeM _ l _ (ro.below hb (Nat.le_refl _))).mono ?_
    rintro e w6 ⟨rfl, hw⟩
    replace mA := mA.below hw
    replace hb := hb.trans (hw.mono hb.size)
    replace rv := rv.below hw (Nat.le_refl _)
    clear hw
    go_upto_region 21 with (fail)
    replace mA := mA.alloc (.cells #[.int .i64 (decM l).engine, .int .i64 (decM l).page, .int .i64 (decM l).txn, .int .i64 (decM l).root, .int .i64 (decM l).count, .int .i64 (decM l).free, .int .i64 (decM l).listed, .int .i64 (decM l).high] 24)
    replace rv := rv.alloc (.cells #[.int .i64 (decM l).engine, .int .i64 (decM l).page, .int .i64 (decM l).txn, .int .i64 (decM l).root, .int .i64 (decM l).count, .int .i64 (decM l).free, .int .i64 (decM l).listed, .int .i64 (decM l).high] 24)
    replace hb := hb.alloc hb.size (.cells #[.int .i64 (decM l).engine, .int .i64 (decM l).page, .int .i64 (decM l).txn, .int .i64 (decM l).root, .int .i64 (decM l).count, .int .i64 (decM l).free, .int .i64 (decM l).listed, .int .i64 (decM l).high] 24)
    generalize w6.alloc (.cells #[.int .i64 (decM l).engine, .int .i64 (decM l).page, .int .i64 (decM l).txn, .int .i64 (decM l).root, .int .i64 (decM l).count, .int .i64 (decM l).free, .int .i64 (decM l).listed, .int .i64 (decM l).high] 24) = v6 at *
    rcases tf (isMeta l) with hi | hi
    · have hdc : decC l = 0 := by unfold decC; rw [hi]; rfl
      rw [hdc]
      clear hdc hi
      go_wp2_with fail
      refine (turned_any (MetaN.pg_meta HOK.out).1 (MetaN.pg_page HOK.out).2 m.pg_len at_ h1 h2 _ vt _ rv (rt.below hb (Nat.le_refl _))).mono ?_
      rintro e w8 ⟨rfl, hw⟩
      replace hb := hb.trans (hw.mono hb.size)
      go_wp2_with fail
      go_ret
      exact ⟨rfl, hb⟩
    · have hdc : decC l = 50 := by unfold decC; rw [hi]; rfl
      rw [hdc]
      clear hdc
      have HI := Lib.hid hi
      clear hi
      obtain ⟨e0, e1, e2, e3, e4, e5, e6, e7⟩ := mA.cells
      go_wp2_with fail
      refine (alone_any HOK.out HI.out _ vo _ rv (ro.below hb (Nat.le_refl _))).mono ?_
      rintro e w7 ⟨rfl, hw⟩
      replace mA := mA.below hw
      replace hb := hb.trans (hw.mono hb.size)
      replace rv := rv.below hw (Nat.le_refl _)
      clear hw e0 e1 e2 e3 e4 e5 e6 e7
      go_wp2_with fail
      refine (turned_any (MetaN.pg_meta HOK.out).1 (MetaN.pg_page HOK.out).2 m.pg_len at_ h1 h2 _ vt _ rv (rt.below hb (Nat.le_refl _))).mono ?_
      rintro e w8 ⟨rfl, hw⟩
      replace hb := hb.trans (hw.mono hb.size)
      go_wp2_with fail
      go_ret
      exact ⟨rfl, hb⟩
end Go.Proofs.Ytdnfbjmapdgnnaa
