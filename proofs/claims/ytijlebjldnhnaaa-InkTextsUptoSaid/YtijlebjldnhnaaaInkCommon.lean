/- ink.common: the walk. -/
import Derived.Test.YtijlebjldnhnaaaInkReadOrd
import Derived.Deep.RegionHeld3
import Derived.Deep.DeepCutAuto
namespace Go.Proofs.Ytijlebjldnhnaaa
open Go.RowKit
set_option maxRecDepth 20000 in
set_option maxHeartbeats 2000000 in
theorem common_any (va vb : Value) (a b : List UInt8) (w : World) (ha : RdB w va a) (hb : RdB w vb b) :
    Calls Try.prog 43 #[va, vb] w fun e w' => e = .returned (.int .i64 (comF a b : Nat)) ∧ Below w.heap.size w w' := by
  obtain ⟨A, ca, rfl, hma⟩ := ha.form
  obtain ⟨B, cb, rfl, hmb⟩ := hb.form
  by_cases hle : (a.length : Int) ≤ (b.length : Int)
  · go_enter Try.func43, Try.ntmps43
    go_wp2_with fail
    go_loopw [13] (fun i wr => ∃ j : Nat, i = .int .i64 (j : Int) ∧ j ≤ a.length ∧ Hid (∀ i, i < j → a[i]? = b[i]?) ∧ Below w.heap.size w wr)
      (fun i _ => a.length - (intOf i).toNat)
    case atStart => exact ⟨0, rfl, Nat.zero_le _, Lib.hid (fun i h => by omega), Below.refl _ _⟩
    case round =>
      obtain ⟨j, rfl, hj, HS, hbl⟩ := hrel
      by_cases hlt : j < a.length
      · have ja : j < a.length := by omega
        have jb : j < b.length := by omega
        obtain ⟨ad, rfl, hca⟩ := (ha.below hbl (Nat.le_refl _)).at_ ja
        obtain ⟨bd, rfl, hcb⟩ := (hb.below hbl (Nat.le_refl _)).at_ jb
        have i1 : (j : Int) < (a.length : Int) := by omega
        have i2 : (j : Int) < (b.length : Int) := by omega
        by_cases hxy : a[j] = b[j]
        · have HS2 : Hid (∀ i, i < j + 1 → a[i]? = b[i]?) := Lib.hid fun i hi => by
            by_cases e : i = j
            · subst e; rw [List.getElem?_eq_getElem ja, List.getElem?_eq_getElem jb, hxy]
            · exact HS.out i (by omega)
          rw [hxy] at hca
          clear hxy
          generalize b[j] = x at hca hcb
          go_upto_region 5 with (fail)
          go_region
          go_wp2_with fail
          go_roundw
          case rel => exact ⟨j + 1, by go_num, by omega, HS2, hbl.drew⟩
          case measure => simp [intOf]; omega
        · have hcom := Lib.hid (comF_of a b j (by omega) (by omega) HS.out (fun _ _ => hxy))
          have e1 := u8_ne hxy
          clear hxy
          generalize a[j] = x at hca e1
          generalize b[j] = y at hcb e1
          go_upto_region 5 with (fail)
          go_region
          go_wp2_with fail
          go_ret
          rw [hcom.out]
          exact ⟨rfl, hbl.drew⟩
      · obtain rfl : j = a.length := by omega
        have hcom := Lib.hid (comF_of a b a.length (by omega) (by omega) HS.out (fun h h' => by omega))
        go_wp2_with fail
        go_ret
        rw [hcom.out]
        exact ⟨rfl, hbl⟩
  · go_enter Try.func43, Try.ntmps43
    go_wp2_with fail
    go_loopw [13] (fun i wr => ∃ j : Nat, i = .int .i64 (j : Int) ∧ j ≤ b.length ∧ Hid (∀ i, i < j → a[i]? = b[i]?) ∧ Below w.heap.size w wr)
      (fun i _ => b.length - (intOf i).toNat)
    case atStart => exact ⟨0, rfl, Nat.zero_le _, Lib.hid (fun i h => by omega), Below.refl _ _⟩
    case round =>
      obtain ⟨j, rfl, hj, HS, hbl⟩ := hrel
      by_cases hlt : j < b.length
      · have ja : j < a.length := by omega
        have jb : j < b.length := by omega
        obtain ⟨ad, rfl, hca⟩ := (ha.below hbl (Nat.le_refl _)).at_ ja
        obtain ⟨bd, rfl, hcb⟩ := (hb.below hbl (Nat.le_refl _)).at_ jb
        have i1 : (j : Int) < (a.length : Int) := by omega
        have i2 : (j : Int) < (b.length : Int) := by omega
        by_cases hxy : a[j] = b[j]
        · have HS2 : Hid (∀ i, i < j + 1 → a[i]? = b[i]?) := Lib.hid fun i hi => by
            by_cases e : i = j
            · subst e; rw [List.getElem?_eq_getElem ja, List.getElem?_eq_getElem jb, hxy]
            · exact HS.out i (by omega)
          rw [hxy] at hca
          clear hxy
          generalize b[j] = x at hca hcb
          go_upto_region 5 with (fail)
          go_region
          go_wp2_with fail
          go_roundw
          case rel => exact ⟨j + 1, by go_num, by omega, HS2, hbl.drew⟩
          case measure => simp [intOf]; omega
        · have hcom := Lib.hid (comF_of a b j (by omega) (by omega) HS.out (fun _ _ => hxy))
          have e1 := u8_ne hxy
          clear hxy
          generalize a[j] = x at hca e1
          generalize b[j] = y at hcb e1
          go_upto_region 5 with (fail)
          go_region
          go_wp2_with fail
          go_ret
          rw [hcom.out]
          exact ⟨rfl, hbl.drew⟩
      · obtain rfl : j = b.length := by omega
        have hcom := Lib.hid (comF_of a b b.length (by omega) (by omega) HS.out (fun h h' => by omega))
        go_wp2_with fail
        go_ret
        rw [hcom.out]
        exact ⟨rfl, hbl⟩
end Go.Proofs.Ytijlebjldnhnaaa
