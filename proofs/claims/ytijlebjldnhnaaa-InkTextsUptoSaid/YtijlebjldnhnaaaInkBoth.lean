/- espalierlaw01.both, espalierref01.Order: walks. -/
import Derived.Test.YtijlebjldnhnaaaInkCommon
import Derived.Test.YtijlebjldnhnaaaInkOrdered
namespace Go.Proofs.Ytijlebjldnhnaaa
open Go.RowKit
theorem beq_lt (x y : UInt8) : (x < y) ↔ (x.toNat : Int) < (y.toNat : Int) := by rw [UInt8.lt_iff_toNat_lt]; omega
set_option maxRecDepth 20000 in
set_option maxHeartbeats 2000000 in
theorem both_any (va vb : Value) (a b : List UInt8) (w : World) (ha : RdB w va a) (hb : RdB w vb b) (hl : a.length + b.length ≤ 140737488355328) :
    Calls Try.prog 30 #[va, vb] w fun e w' => ∃ v, e = .returned v ∧ OwB w' w.heap.size v (a ++ b) ∧ Below w.heap.size w w' := by
  obtain ⟨A, ca, rfl, hma⟩ := ha.form
  obtain ⟨B, cb, rfl, hmb⟩ := hb.form
  go_enter Try.func30, Try.ntmps30
  go_wp2_with fail
  go_loopw [5, 6] (fun v i wr => ∃ j : Nat, i = .int .i64 (j : Int) ∧ j ≤ a.length ∧ OwB wr w.heap.size v (a.take j) ∧ Below w.heap.size w wr)
    (fun _ i _ => a.length - (intOf i).toNat)
  case atStart => exact ⟨0, rfl, Nat.zero_le _, OwB.nil _ _, Below.refl _ _⟩
  case round =>
    obtain ⟨j, rfl, hj, ho, hbl⟩ := hrel
    have hbs := hbl.size
    by_cases hlt : j < a.length
    · obtain ⟨ad, rfl, hc⟩ := (ha.below hbl (Nat.le_refl _)).at_ hlt
      have htk := (List.take_append_getElem hlt)
      have hln : (a.take j).length + 1 ≤ 140737488355328 := by simp; omega
      generalize a[j] = x at hc htk
      have HT := Lib.hid htk
      clear htk
      go_wp2_with (first
        | (at_builtin; refine wp_append_B1 rfl (.tmp 14) (.tmp 19) rfl w.heap.size _ _ rfl ho x _ rfl 5 rfl hln hbs ?_; intro v3 w3 ho3 hg3 _; have hb3 := hbl.grown hg3 hbs (fun g hg => (ho.lt g hg).1))
        | fail)
      go_roundw
      case rel => exact ⟨j + 1, by go_num, by omega, by rw [← HT.out]; exact ho3, hb3⟩
      case measure => simp [intOf]; omega
    · obtain rfl : j = a.length := by omega
      rw [List.take_length] at ho
      go_wp2_with fail
      go_loopw [5, 7] (fun v i wr => ∃ j : Nat, i = .int .i64 (j : Int) ∧ j ≤ b.length ∧ OwB wr w.heap.size v (a ++ b.take j) ∧ Below w.heap.size w wr)
        (fun _ i _ => b.length - (intOf i).toNat)
      case atStart => exact ⟨0, rfl, Nat.zero_le _, by rw [List.take_zero, List.append_nil]; exact ho, hbl⟩
      case round =>
        clear ho hbl hbs
        obtain ⟨j, rfl, hj, ho, hbl⟩ := hrel
        have hbs := hbl.size
        by_cases hlt : j < b.length
        · obtain ⟨ad, rfl, hc⟩ := (hb.below hbl (Nat.le_refl _)).at_ hlt
          have htk := (List.take_append_getElem hlt)
          have hln : (a ++ b.take j).length + 1 ≤ 140737488355328 := by simp; omega
          generalize b[j] = x at hc htk
          have HT := Lib.hid htk
          clear htk
          go_wp2_with (first
            | (at_builtin; refine wp_append_B1 rfl (.tmp 27) (.tmp 32) rfl w.heap.size _ _ rfl ho x _ rfl 5 rfl hln hbs ?_; intro v3 w3 ho3 hg3 _; have hb3 := hbl.grown hg3 hbs (fun g hg => (ho.lt g hg).1))
            | fail)
          go_roundw
          case rel => exact ⟨j + 1, by go_num, by omega, by rw [← HT.out, ← List.append_assoc]; exact ho3, hb3⟩
          case measure => simp [intOf]; omega
        · obtain rfl : j = b.length := by omega
          rw [List.take_length] at ho
          go_wp2_with fail
          go_ret
          exact ⟨_, rfl, ho, hbl⟩
set_option maxRecDepth 20000 in
set_option maxHeartbeats 4000000 in
theorem Order_any (va vb : Value) (a b : List UInt8) (w : World) (ha : RdB w va a) (hb : RdB w vb b) :
    Calls Try.prog 29 #[va, vb] w fun e w' => e = .returned (.int .i64 (ordC a b)) ∧ Below w.heap.size w w' := by
  obtain ⟨A, ca, rfl, hma⟩ := ha.form
  obtain ⟨B, cb, rfl, hmb⟩ := hb.form
  go_enter Try.func29, Try.ntmps29
  go_wp2_with fail
  go_loopw [5] (fun i wr => ∃ j : Nat, i = .int .i64 (j : Int) ∧ j ≤ a.length ∧ j ≤ b.length ∧ Hid (ordC a b = ordC (a.drop j) (b.drop j)) ∧ Below w.heap.size w wr)
    (fun i _ => a.length - (intOf i).toNat)
  case atStart => exact ⟨0, rfl, Nat.zero_le _, Nat.zero_le _, Lib.hid rfl, Below.refl _ _⟩
  case round =>
    obtain ⟨j, rfl, hja, hjb, HE, hbl⟩ := hrel
    by_cases hlt : j < a.length ∧ j < b.length
    · obtain ⟨ja, jb⟩ := hlt
      obtain ⟨ad, rfl, hca⟩ := (ha.below hbl (Nat.le_refl _)).at_ ja
      obtain ⟨bd, rfl, hcb⟩ := (hb.below hbl (Nat.le_refl _)).at_ jb
      have i1 : (j : Int) < (a.length : Int) := by omega
      have i2 : (j : Int) < (b.length : Int) := by omega
      have HE2 := Lib.hid (HE.out.trans (by rw [List.drop_eq_getElem_cons ja, List.drop_eq_getElem_cons jb]))
      generalize a[j] = x at hca HE2
      generalize b[j] = y at hcb HE2
      have hca' : wr.drew.cell? (ad.add j) = some (.int .u8 (x.toNat : Int)) := hca
      have hcb' : wr.drew.cell? (bd.add j) = some (.int .u8 (y.toNat : Int)) := hcb
      rcases (by omega : (x.toNat : Int) < (y.toNat : Int) ∨ (y.toNat : Int) < (x.toNat : Int) ∨ x.toNat = y.toNat) with hxy | hxy | hxy
      · have HE3 := Lib.hid (HE2.out.trans (ordC_lt ((beq_lt x y).mpr hxy) _ _))
        go_upto_region 4 with (fail)
        go_region
        go_wp2_with fail
        go_ret
        rw [HE3.out]
        exact ⟨rfl, hbl.drew⟩
      · have HE3 := Lib.hid (HE2.out.trans (ordC_gt ((beq_lt y x).mpr hxy) _ _))
        go_upto_region 4 with (fail)
        go_region
        go_upto_region 6 with (fail)
        go_region
        go_wp2_with fail
        go_ret
        rw [HE3.out]
        exact ⟨rfl, hbl.drew.drew⟩
      · obtain rfl := UInt8.toNat_inj.mp hxy
        have HE3 := Lib.hid (HE2.out.trans (ordC_same _ _ _))
        clear hxy
        go_upto_region 4 with (fail)
        go_region
        go_upto_region 6 with (fail)
        go_region
        go_wp2_with fail
        go_roundw
        case rel => exact ⟨j + 1, by go_num, by omega, by omega, HE3, hbl.drew.drew⟩
        case measure => simp [intOf]; omega
    · rcases (by omega : (j = a.length ∧ a.length < b.length) ∨ (j = a.length ∧ a.length = b.length) ∨ (j < a.length ∧ j = b.length)) with ⟨h1, h2⟩ | ⟨h1, h2⟩ | ⟨h1, h2⟩
      · have HV := Lib.hid (HE.out.trans (by rw [h1, List.drop_length, List.drop_eq_getElem_cons h2]; rfl : _ = (-1 : Int)))
        have j1 : ¬ (j : Int) < (a.length : Int) := by omega
        have j2 : (a.length : Int) < (b.length : Int) := by omega
        clear hlt h1
        go_wp2_with fail
        go_ret
        rw [HV.out]
        exact ⟨rfl, hbl⟩
      · have HV := Lib.hid (HE.out.trans (by rw [List.drop_of_length_le (by omega), List.drop_of_length_le (by omega)]; rfl : _ = (0 : Int)))
        have j1 : ¬ (j : Int) < (a.length : Int) := by omega
        have j2 : ¬ (a.length : Int) < (b.length : Int) := by omega
        have j3 : ¬ (b.length : Int) < (a.length : Int) := by omega
        clear hlt h1 h2
        go_wp2_with fail
        go_ret
        rw [HV.out]
        exact ⟨rfl, hbl⟩
      · have hbd : b.drop j = [] := List.drop_of_length_le (by omega)
        have HV := Lib.hid (HE.out.trans (by rw [hbd, List.drop_eq_getElem_cons h1]; rfl : _ = (1 : Int)))
        clear hbd
        have j1 : (j : Int) < (a.length : Int) := by omega
        have j2 : ¬ (j : Int) < (b.length : Int) := by omega
        have j3 : (b.length : Int) < (a.length : Int) := by omega
        have j4 : ¬ (a.length : Int) < (b.length : Int) := by omega
        clear hlt h1 h2
        go_wp2_with fail
        go_ret
        rw [HV.out]
        exact ⟨rfl, hbl⟩
end Go.Proofs.Ytijlebjldnhnaaa
