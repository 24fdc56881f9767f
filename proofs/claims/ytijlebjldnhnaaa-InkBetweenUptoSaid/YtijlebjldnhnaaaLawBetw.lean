/- espalierlaw01.InkBetween: the walk. -/
import Derived.Test.YtijlebjldnhnaaaLawOrder
namespace Go.Proofs.Ytijlebjldnhnaaa
open Go.RowKit
theorem strip_all {a : List UInt8} {j : Nat} (h : stripN a ≤ j) (hj : j < a.length) : a[j] = 255 := by
  have := stripA_high a a.length j h hj
  simpa [List.getD, hj] using this
/-- What stands behind, and the head that it came from. -/
theorem beh_parts {l : List UInt8} (h : 0 < stripN l) : ∃ x : UInt8, x ≠ 255 ∧ behL l = l.take (stripN l - 1) ++ [x + 1] ∧ l.take (stripN l) = l.take (stripN l - 1) ++ [x] := by
  have h2 : stripN l ≤ l.length := stripA_le l l.length
  have h3 : stripN l - 1 < l.length := by omega
  refine ⟨l.getD (stripN l - 1) 0, stripA_last l l.length h, rfl, ?_⟩
  have e := List.take_append_getElem h3
  rw [show stripN l - 1 + 1 = stripN l by omega] at e
  rw [← e]
  simp [List.getD, h3]
theorem ow_cell {w : World} {base g n c j : Nat} {l : List UInt8} {y : UInt8} (h : OwB w base (.slice (some ⟨g, 0, none⟩) n c) l) (hj : l[j]? = some y) : w.cell? ⟨g, j, none⟩ = some (.int .u8 (y.toNat : Int)) := by
  obtain ⟨h1, h2⟩ := List.getElem?_eq_some_iff.mp hj
  rw [← h2]
  exact h.cell h1
theorem RdB.drewN' {w : World} {v : Value} {l : List UInt8} (h : RdB w v l) (n : Nat) : RdB (w.drewN n) v l := h
theorem Behind_sl (v : Value) (l : List UInt8) (w : World) (hv : RdB w v l) (hl : l.length ≤ 140737488355328) : Calls Try.prog 36 #[v] w fun e w' => ∃ u, e = .returned (.tuple #[u, .bool (decide (0 < stripN l))]) ∧ OwB w' w.heap.size u (bhV l) ∧ Below w.heap.size w w' :=
  (Behind_any v l w hv hl).mono fun e w' h => h
theorem Between_yes (va vb : Value) (a b : List UInt8) (w : World) (ha : RdB w va a) (hb : RdB w vb b) (hl : b.length ≤ 140737488355328) (h : ordC a b < 0) (m : Nat) (hm : m = comF a b + 1) : Calls Try.prog 34 #[va, vb] w fun e w' =>
    ∃ A c, e = .returned (.tuple #[.slice A m c, .int .i64 0]) ∧ OwB w' w.heap.size (.slice A m c) (b.take m) ∧ Below w.heap.size w w' :=
  (Between_any va vb a b w ha hb hl).mono fun e w' ⟨v, he, ho, hbl⟩ => by
    obtain ⟨h1, h2⟩ := bt_yes h
    rw [h2] at he
    rw [h1, ← hm] at ho
    obtain ⟨A, c, rfl⟩ := ho.sl
    have hlt := between_lt h
    rw [show (b.take m).length = m by simp; omega] at *
    exact ⟨A, c, he, ho, hbl⟩
theorem Between_no (va vb : Value) (a b : List UInt8) (w : World) (ha : RdB w va a) (hb : RdB w vb b) (hl : b.length ≤ 140737488355328) (h : ¬ ordC a b < 0) : Calls Try.prog 34 #[va, vb] w fun e w' =>
    ∃ A c, e = .returned (.tuple #[.slice A 0 c, .int .i64 1]) ∧ Below w.heap.size w w' :=
  (Between_any va vb a b w ha hb hl).mono fun e w' ⟨v, he, ho, hbl⟩ => by
    obtain ⟨h1, h2⟩ := bt_no h
    rw [h2] at he
    rw [h1] at ho
    obtain ⟨A, c, rfl⟩ := ho.sl
    exact ⟨A, c, he, hbl⟩
set_option maxRecDepth 100000 in
set_option maxHeartbeats 16000000 in
theorem between_any (va vb vm : Value) (a b more : List UInt8) (w : World) (ra : RdB w va a) (rb : RdB w vb b) (rm : RdB w vm more) (la : a.length ≤ 1048576) (lb : b.length ≤ 1048576) (lm : more.length ≤ 1048576) :
    Calls Try.prog 10 #[va, vb, vm] w fun e w' => e = .returned (.bool true) ∧ Below w.heap.size w w' := by
  go_enter Try.func10, Try.ntmps10
  go_wp2_with fail
  refine (live_any _).mono ?_
  rintro e w0 ⟨rfl, hb⟩
  go_wp2_with fail
  refine (Order_any _ _ a b _ (ra.below hb (Nat.le_refl _)) (rb.below hb (Nat.le_refl _))).mono ?_
  rintro e w1 ⟨rfl, hw⟩
  replace hb := hb.trans (hw.mono hb.size)
  clear hw
  by_cases ho : ordC a b < 0
  · obtain ⟨m, hm⟩ : ∃ m, m = comF a b + 1 := ⟨_, rfl⟩
    obtain ⟨k, hk⟩ : ∃ k, k = comF a b := ⟨_, rfl⟩
    have hmb : m ≤ b.length := by have := between_lt ho; omega
    have s1 : ordC a (b.take m) < 0 := (between_take a b m ho hmb).mpr (by omega)
    have s2 : ordC (b.take m) b ≤ 0 := ordC_take_le b m
    have s3 : ¬ ordC a (b.take k) < 0 := fun h => by have := (between_take a b k ho (by omega)).mp h; omega
    have hkm : k + 1 = m := by omega
    have HY := fun v1 v2 w r1 r2 => Between_yes v1 v2 a b w r1 r2 (by omega) ho m hm
    clear hm hk
    generalize ordC a b = o at *
    go_wp2_with fail
    refine (HY _ _ _ (ra.below hb (Nat.le_refl _)) (rb.below hb (Nat.le_refl _))).mono ?_
    rintro e w2 ⟨Ac, cc, rfl, oc, hw⟩
    replace oc := oc.low hb.size
    replace hb := hb.trans (hw.mono hb.size)
    clear hw HY
    go_wp2_with fail
    refine (Order_any _ _ _ _ _ (ra.below hb (Nat.le_refl _)) oc.rd).mono ?_
    rintro e w3 ⟨rfl, hw⟩
    replace oc := oc.below' hw (Nat.le_refl _)
    replace hb := hb.trans (hw.mono hb.size)
    clear hw
    go_wp2_with fail
    refine (Order_any _ _ _ _ _ oc.rd (rb.below hb (Nat.le_refl _))).mono ?_
    rintro e w4 ⟨rfl, hw⟩
    replace oc := oc.below' hw (Nat.le_refl _)
    replace hb := hb.trans (hw.mono hb.size)
    clear hw
    generalize ordC a (b.take m) = o1 at *
    generalize ordC (b.take m) b = o2 at *
    obtain ⟨Ab, cb, rfl, hmb2⟩ := rb.form
    obtain ⟨A3, c3, q3, r3⟩ := (rb.below hb (Nat.le_refl _)).run_h m hmb
    obtain ⟨A4, c4, q4, r4⟩ := oc.rd.run_h k (by simp; omega)
    have x1 := fun n => str_drawn oc.rd n
    have x3 := fun n => str_drawn r3 n
    rw [List.take_take, Nat.min_eq_left (by omega)] at r4
    have d1 : decide (0 ≤ o1) = false := decide_eq_false (by omega)
    have d2 : decide (0 < o2) = false := decide_eq_false (by omega)
    have d3 : decide ((m : Int) < 1) = false := decide_eq_false (by omega)
    have d4 : decide ((b.length : Int) < (m : Int)) = false := decide_eq_false (by omega)
    have d5 : decide (b.length < m) = false := decide_eq_false (by omega)
    have d6 : decide (m < 1) = false := decide_eq_false (by omega)
    have m1 : (m : Int) - 1 = (k : Int) := by omega
    generalize b.take m = C at *
    go_upto_region 9 with (fail)
    go_quiet (fail)
    clear x1 x3 d1 d2 d3 d4 d5 d6 s1 s2 q3 r3 oc
    go_wp2_with fail
    refine (Order_any _ _ _ _ _ ((ra.below hb (Nat.le_refl _)).drewN' _) (r4.drewN' _)).mono ?_
    rintro e w5 ⟨rfl, hw⟩
    replace hb := (below_drewN hb _).trans (hw.mono hb.size)
    clear hw r4 rb q4
    generalize ordC a (b.take k) = o3 at *
    go_wp2_with fail
    refine (Behind_sl _ a _ (ra.below hb (Nat.le_refl _)) (by omega)).mono ?_
    rintro e wt ⟨vz, rfl, oz, hw⟩
    replace oz := oz.low hb.size
    replace hb := hb.trans (hw.mono hb.size)
    clear hw
    go_wp2_with fail
    refine (both_any _ _ a more _ (ra.below hb (Nat.le_refl _)) (rm.below hb (Nat.le_refl _)) (by omega)).mono ?_
    rintro e wu ⟨vw, rfl, ow, hw⟩
    replace oz := oz.below' hw (Nat.le_refl _)
    replace ow := ow.low hb.size
    replace hb := hb.trans (hw.mono hb.size)
    clear hw
    have ra2 := ra.below hb (Nat.le_refl _)
    obtain ⟨Aa, ca, rfl, hma⟩ := ra.form
    rcases Nat.eq_zero_or_pos (stripN a) with hs | hs
    · have HZ : Hid (bhV a = []) := Lib.hid (by unfold bhV; rw [hs]; rfl)
      have hd0 : decide (0 < stripN a) = false := by simp [hs]
      have HA : ∀ j (h : j < a.length), Hid (a[j] = 255) := fun j h => Lib.hid (strip_all (by omega) h)
      rw [hd0]
      clear hd0 hs
      rw [HZ.out] at oz
      obtain ⟨Az, cz, rfl⟩ := oz.sl
      clear oz ow
      go_wp2_with fail
      go_loopw [17] (fun i wr => ∃ j : Nat, i = .int .i64 (j : Int) ∧ j ≤ a.length ∧ wr = wu) (fun i _ => a.length - (intOf i).toNat)
      case atStart => exact ⟨0, rfl, Nat.zero_le _, rfl⟩
      case round =>
        obtain ⟨j, rfl, hj, rfl⟩ := hrel
        by_cases hlt : j < a.length
        · obtain ⟨ad, rfl, hc⟩ := ra2.at_ hlt
          rw [(HA j hlt).out] at hc
          have hc : wr.cell? (ad.add j) = some (.int .u8 255) := hc
          have ij : (j : Int) < (a.length : Int) := by omega
          go_wp2_with fail
          go_roundw
          case rel => exact ⟨j + 1, by go_num, by omega, trivial⟩
          case measure => simp [intOf]; omega
        · obtain rfl : j = a.length := by omega
          go_wp2_with fail
          go_ret
          exact ⟨rfl, hb⟩
    · obtain ⟨n, hn⟩ : ∃ n, n = stripN a := ⟨_, rfl⟩
      have hd1 : decide (0 < stripN a) = true := by simp [hs]
      have hna : n ≤ a.length := by have := stripA_le a a.length; unfold stripN at hn; omega
      have hz : bhV a = behL a := by unfold bhV; rw [hd1]; rfl
      obtain ⟨x, hx, hbl, htk⟩ := beh_parts hs
      have hlz := behL_length hs
      have hor := behind_lt hs more
      have HA : ∀ j (h : j < a.length), n ≤ j → Hid (a[j] = 255) := fun j h h2 => Lib.hid (strip_all (by omega) h)
      rw [hd1]
      rw [hz] at oz
      clear hz hd1
      rw [← hn] at hs hlz hbl htk
      obtain ⟨q, hq⟩ : ∃ q, q = n - 1 := ⟨_, rfl⟩
      obtain ⟨gz, cz, rfl⟩ := oz.some' hlz hs
      have hsucc := u8_succ_lt hx
      have hset : (behL a).set q x = a.take n := by
        rw [hbl, htk, ← hq, List.set_append_right _ _ (by simp; omega)]
        congr 1
        rw [show q - (a.take q).length = 0 by simp; omega]; rfl
      have hget : (behL a)[q]? = some (x + 1) := by
        rw [hbl, ← hq, List.getElem?_append_right (by simp; omega), show q - (a.take q).length = 0 by simp; omega]; rfl
      clear hbl htk
      generalize behL a = Z at *
      obtain ⟨y, hy⟩ : ∃ y : UInt8, y = x + 1 := ⟨_, rfl⟩
      rw [← hy] at hget hsucc
      have hyx : y.toNat = x.toNat + 1 := by
        have h1 := hsucc.1
        have h2 := x.toNat_lt
        have h3 : x.toNat ≠ 255 := fun e => hx (UInt8.toNat_inj.mp e)
        rw [hy, UInt8.toNat_add]; simp; omega
      have hyi : (y.toNat : Int) - 1 = (x.toNat : Int) := by omega
      have hy0 : ((y.toNat : Int) == 0) = false := by simp; omega
      have hxl := x.toNat_lt
      have hn1 : (n : Int) - 1 = (q : Int) := by omega
      have hqn : (q : Int) < (n : Int) := by omega
      have i1 : ¬ (n : Int) < 1 := by omega
      have i2 : ¬ (a.length : Int) < (n : Int) := by omega
      have HY := Lib.hid hyx
      have HN := Lib.hid hn
      have HM := Lib.hid hq
      have HS := Lib.hid hset
      have HG := Lib.hid hget
      clear hyx hy hx hsucc hn hq hs hset hget
      go_wp2_with fail
      refine (Order_any _ _ _ _ _ ow.rd oz.rd).mono ?_
      rintro e w7 ⟨rfl, hw⟩
      rw [hor]
      replace oz := oz.below' hw (Nat.le_refl _)
      replace hb := hb.trans (hw.mono hb.size)
      clear hw ow hor
      have hcz := ow_cell oz HG.out
      go_wp2_with fail
      refine (both_any _ _ Z [] _ oz.rd RdB.nil (by simp; omega)).mono ?_
      rintro e w8 ⟨vl, rfl, ol, hw⟩
      rw [List.append_nil] at ol
      obtain ⟨gl, cl, rfl⟩ := ol.some' hlz (by omega)
      replace ol := ol.low hb.size
      replace hb := hb.trans (hw.mono hb.size)
      clear hw oz hcz
      have hcl := ow_cell ol HG.out
      have hfl := ol.frozen (j := q) (by omega)
      have hgl := ol.lt gl rfl
      have on := ol.set q x
      rw [HS.out] at on
      have hbn := hb.setCell (p := ⟨gl, q, none⟩) hgl.1 (.int .u8 (x.toNat : Int))
      obtain ⟨A9, c9, q9, r9⟩ := (ra.below hbn (Nat.le_refl _)).run_h n hna
      have x8 := fun k => str_drawn on.rd k
      have x9 := fun k => str_drawn r9 k
      have i3 : (n : Int) ≤ (a.length : Int) := by omega
      clear ol on hb r9 HY HN HM HS HG
      generalize a.take n = T at *
      go_upto_region 28 with (fail)
      go_quiet (fail)
      clear hcl hfl x8 x9 q9
      go_wp2_with fail
      go_loopw [20, 21] (fun t i wr => ∃ j : Nat, t = .bool true ∧ i = .int .i64 (j : Int) ∧ n ≤ j ∧ j ≤ a.length ∧ Below w.heap.size w wr) (fun _ i _ => a.length - (intOf i).toNat)
      case atStart => exact ⟨n, rfl, rfl, Nat.le_refl _, hna, below_drewN hbn _⟩
      case round =>
        clear hbn
        obtain ⟨j, rfl, rfl, hnj, hj, hb⟩ := hrel
        by_cases hlt : j < a.length
        · obtain ⟨ad, rfl, hc⟩ := (ra.below hb (Nat.le_refl _)).at_ hlt
          rw [(HA j hlt hnj).out] at hc
          have hc : wr.cell? (ad.add j) = some (.int .u8 255) := hc
          have ij : (j : Int) < (a.length : Int) := by omega
          go_wp2_with fail
          go_roundw
          case rel => exact ⟨j + 1, rfl, by go_num, by omega, by omega, hb⟩
          case measure => simp [intOf]; omega
        · obtain rfl : j = a.length := by omega
          go_wp2_with fail
          go_ret
          exact ⟨rfl, hb⟩
  · have HN := fun v1 v2 w r1 r2 => Between_no v1 v2 a b w r1 r2 (by omega) ho
    generalize ordC a b = o at *
    have ho' : 0 ≤ o := by omega
    clear ho
    go_wp2_with fail
    refine (HN _ _ _ (ra.below hb (Nat.le_refl _)) (rb.below hb (Nat.le_refl _))).mono ?_
    rintro e w2 ⟨Ac, cc, rfl, hw⟩
    replace hb := hb.trans (hw.mono hb.size)
    clear hw HN rb
    go_wp2_with fail
    refine (Behind_sl _ a _ (ra.below hb (Nat.le_refl _)) (by omega)).mono ?_
    rintro e wt ⟨vz, rfl, oz, hw⟩
    replace oz := oz.low hb.size
    replace hb := hb.trans (hw.mono hb.size)
    clear hw
    go_wp2_with fail
    refine (both_any _ _ a more _ (ra.below hb (Nat.le_refl _)) (rm.below hb (Nat.le_refl _)) (by omega)).mono ?_
    rintro e wu ⟨vw, rfl, ow, hw⟩
    replace oz := oz.below' hw (Nat.le_refl _)
    replace ow := ow.low hb.size
    replace hb := hb.trans (hw.mono hb.size)
    clear hw
    have ra2 := ra.below hb (Nat.le_refl _)
    obtain ⟨Aa, ca, rfl, hma⟩ := ra.form
    rcases Nat.eq_zero_or_pos (stripN a) with hs | hs
    · have HZ : Hid (bhV a = []) := Lib.hid (by unfold bhV; rw [hs]; rfl)
      have hd0 : decide (0 < stripN a) = false := by simp [hs]
      have HA : ∀ j (h : j < a.length), Hid (a[j] = 255) := fun j h => Lib.hid (strip_all (by omega) h)
      rw [hd0]
      clear hd0 hs
      rw [HZ.out] at oz
      obtain ⟨Az, cz, rfl⟩ := oz.sl
      clear oz ow
      go_wp2_with fail
      go_loopw [17] (fun i wr => ∃ j : Nat, i = .int .i64 (j : Int) ∧ j ≤ a.length ∧ wr = wu) (fun i _ => a.length - (intOf i).toNat)
      case atStart => exact ⟨0, rfl, Nat.zero_le _, rfl⟩
      case round =>
        obtain ⟨j, rfl, hj, rfl⟩ := hrel
        by_cases hlt : j < a.length
        · obtain ⟨ad, rfl, hc⟩ := ra2.at_ hlt
          rw [(HA j hlt).out] at hc
          have hc : wr.cell? (ad.add j) = some (.int .u8 255) := hc
          have ij : (j : Int) < (a.length : Int) := by omega
          go_wp2_with fail
          go_roundw
          case rel => exact ⟨j + 1, by go_num, by omega, trivial⟩
          case measure => simp [intOf]; omega
        · obtain rfl : j = a.length := by omega
          go_wp2_with fail
          go_ret
          exact ⟨rfl, hb⟩
    · obtain ⟨n, hn⟩ : ∃ n, n = stripN a := ⟨_, rfl⟩
      have hd1 : decide (0 < stripN a) = true := by simp [hs]
      have hna : n ≤ a.length := by have := stripA_le a a.length; unfold stripN at hn; omega
      have hz : bhV a = behL a := by unfold bhV; rw [hd1]; rfl
      obtain ⟨x, hx, hbl, htk⟩ := beh_parts hs
      have hlz := behL_length hs
      have hor := behind_lt hs more
      have HA : ∀ j (h : j < a.length), n ≤ j → Hid (a[j] = 255) := fun j h h2 => Lib.hid (strip_all (by omega) h)
      rw [hd1]
      rw [hz] at oz
      clear hz hd1
      rw [← hn] at hs hlz hbl htk
      obtain ⟨q, hq⟩ : ∃ q, q = n - 1 := ⟨_, rfl⟩
      obtain ⟨gz, cz, rfl⟩ := oz.some' hlz hs
      have hsucc := u8_succ_lt hx
      have hset : (behL a).set q x = a.take n := by
        rw [hbl, htk, ← hq, List.set_append_right _ _ (by simp; omega)]
        congr 1
        rw [show q - (a.take q).length = 0 by simp; omega]; rfl
      have hget : (behL a)[q]? = some (x + 1) := by
        rw [hbl, ← hq, List.getElem?_append_right (by simp; omega), show q - (a.take q).length = 0 by simp; omega]; rfl
      clear hbl htk
      generalize behL a = Z at *
      obtain ⟨y, hy⟩ : ∃ y : UInt8, y = x + 1 := ⟨_, rfl⟩
      rw [← hy] at hget hsucc
      have hyx : y.toNat = x.toNat + 1 := by
        have h1 := hsucc.1
        have h2 := x.toNat_lt
        have h3 : x.toNat ≠ 255 := fun e => hx (UInt8.toNat_inj.mp e)
        rw [hy, UInt8.toNat_add]; simp; omega
      have hyi : (y.toNat : Int) - 1 = (x.toNat : Int) := by omega
      have hy0 : ((y.toNat : Int) == 0) = false := by simp; omega
      have hxl := x.toNat_lt
      have hn1 : (n : Int) - 1 = (q : Int) := by omega
      have hqn : (q : Int) < (n : Int) := by omega
      have i1 : ¬ (n : Int) < 1 := by omega
      have i2 : ¬ (a.length : Int) < (n : Int) := by omega
      have HY := Lib.hid hyx
      have HN := Lib.hid hn
      have HM := Lib.hid hq
      have HS := Lib.hid hset
      have HG := Lib.hid hget
      clear hyx hy hx hsucc hn hq hs hset hget
      go_wp2_with fail
      refine (Order_any _ _ _ _ _ ow.rd oz.rd).mono ?_
      rintro e w7 ⟨rfl, hw⟩
      rw [hor]
      replace oz := oz.below' hw (Nat.le_refl _)
      replace hb := hb.trans (hw.mono hb.size)
      clear hw ow hor
      have hcz := ow_cell oz HG.out
      go_wp2_with fail
      refine (both_any _ _ Z [] _ oz.rd RdB.nil (by simp; omega)).mono ?_
      rintro e w8 ⟨vl, rfl, ol, hw⟩
      rw [List.append_nil] at ol
      obtain ⟨gl, cl, rfl⟩ := ol.some' hlz (by omega)
      replace ol := ol.low hb.size
      replace hb := hb.trans (hw.mono hb.size)
      clear hw oz hcz
      have hcl := ow_cell ol HG.out
      have hfl := ol.frozen (j := q) (by omega)
      have hgl := ol.lt gl rfl
      have on := ol.set q x
      rw [HS.out] at on
      have hbn := hb.setCell (p := ⟨gl, q, none⟩) hgl.1 (.int .u8 (x.toNat : Int))
      obtain ⟨A9, c9, q9, r9⟩ := (ra.below hbn (Nat.le_refl _)).run_h n hna
      have x8 := fun k => str_drawn on.rd k
      have x9 := fun k => str_drawn r9 k
      have i3 : (n : Int) ≤ (a.length : Int) := by omega
      clear ol on hb r9 HY HN HM HS HG
      generalize a.take n = T at *
      go_upto_region 28 with (fail)
      go_quiet (fail)
      clear hcl hfl x8 x9 q9
      go_wp2_with fail
      go_loopw [20, 21] (fun t i wr => ∃ j : Nat, t = .bool true ∧ i = .int .i64 (j : Int) ∧ n ≤ j ∧ j ≤ a.length ∧ Below w.heap.size w wr) (fun _ i _ => a.length - (intOf i).toNat)
      case atStart => exact ⟨n, rfl, rfl, Nat.le_refl _, hna, below_drewN hbn _⟩
      case round =>
        clear hbn
        obtain ⟨j, rfl, rfl, hnj, hj, hb⟩ := hrel
        by_cases hlt : j < a.length
        · obtain ⟨ad, rfl, hc⟩ := (ra.below hb (Nat.le_refl _)).at_ hlt
          rw [(HA j hlt hnj).out] at hc
          have hc : wr.cell? (ad.add j) = some (.int .u8 255) := hc
          have ij : (j : Int) < (a.length : Int) := by omega
          go_wp2_with fail
          go_roundw
          case rel => exact ⟨j + 1, rfl, by go_num, by omega, by omega, hb⟩
          case measure => simp [intOf]; omega
        · obtain rfl : j = a.length := by omega
          go_wp2_with fail
          go_ret
          exact ⟨rfl, hb⟩
end Go.Proofs.Ytijlebjldnhnaaa
