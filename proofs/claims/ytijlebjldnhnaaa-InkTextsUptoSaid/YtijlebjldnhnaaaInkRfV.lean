/- ink.ReadFixed, espalierref01.ReadFixed at whatever place and width: walks. -/
import Derived.Test.YtijlebjldnhnaaaInkReadOrd
import Derived.Test.YtijlebjldnhnaaaInkReadFixed
import Derived.Test.YtijlebjldnhnaaaRefReadUint
namespace Go.Proofs.Ytijlebjldnhnaaa
open Go.RowKit
def rfV (l : List UInt8) (at_ wd : Int) : Nat × Int :=
  if wd < 1 ∨ 8 < wd ∨ at_ < 0 ∨ (l.length : Int) < at_ then (0, 1)
  else if (l.length : Int) - at_ < wd then (0, 10)
  else (numF ((l.drop at_.toNat).take wd.toNat), 0)
def RfPost (l : List UInt8) (at_ wd : Int) (w : World) (e : Ending) (w' : World) : Prop :=
  e = .returned (.tuple #[.int .u64 ((rfV l at_ wd).1 : Nat), .int .i64 (rfV l at_ wd).2]) ∧ w = w'
set_option maxRecDepth 20000 in
set_option maxHeartbeats 2000000 in
theorem ReadFixedV (v : Value) (l : List UInt8) (at_ wd : Int) (w : World) (hv : RdB w v l) : Calls Try.prog 21 #[v, .int .i64 at_, .int .i64 wd] w (RfPost l at_ wd w) := by
  obtain ⟨A, c, rfl, hm⟩ := hv.form
  by_cases h1 : wd < 1
  · have hV : Hid (rfV l at_ wd = (0, 1)) := by show _ = _; unfold rfV; rw [if_pos (.inl h1)]
    go_enter Try.func21, Try.ntmps21
    go_wp2_with fail
    go_ret2
    unfold RfPost; rw [hV.out]; exact ⟨rfl, rfl⟩
  by_cases h2 : 8 < wd
  · have hV : Hid (rfV l at_ wd = (0, 1)) := by show _ = _; unfold rfV; rw [if_pos (.inr (.inl h2))]
    go_enter Try.func21, Try.ntmps21
    go_wp2_with fail
    go_ret2
    unfold RfPost; rw [hV.out]; exact ⟨rfl, rfl⟩
  by_cases h3 : at_ < 0
  · have hV : Hid (rfV l at_ wd = (0, 1)) := by show _ = _; unfold rfV; rw [if_pos (.inr (.inr (.inl h3)))]
    go_enter Try.func21, Try.ntmps21
    go_wp2_with fail
    go_ret2
    unfold RfPost; rw [hV.out]; exact ⟨rfl, rfl⟩
  by_cases h4 : (l.length : Int) < at_
  · have hV : Hid (rfV l at_ wd = (0, 1)) := by show _ = _; unfold rfV; rw [if_pos (.inr (.inr (.inr h4)))]
    go_enter Try.func21, Try.ntmps21
    go_wp2_with fail
    go_ret2
    unfold RfPost; rw [hV.out]; exact ⟨rfl, rfl⟩
  have hno : ¬ (wd < 1 ∨ 8 < wd ∨ at_ < 0 ∨ (l.length : Int) < at_) := by omega
  by_cases h5 : (l.length : Int) - at_ < wd
  · have hV : Hid (rfV l at_ wd = (0, 10)) := by show _ = _; unfold rfV; rw [if_neg hno, if_pos h5]
    clear hno
    go_enter Try.func21, Try.ntmps21
    go_wp2_with fail
    go_ret2
    unfold RfPost; rw [hV.out]; exact ⟨rfl, rfl⟩
  have hV : rfV l at_ wd = (numF ((l.drop at_.toNat).take wd.toNat), 0) := by unfold rfV; rw [if_neg hno, if_neg h5]
  obtain ⟨a, rfl⟩ := Int.eq_ofNat_of_zero_le (show 0 ≤ at_ by omega)
  obtain ⟨k, rfl⟩ := Int.eq_ofNat_of_zero_le (show 0 ≤ wd by omega)
  rw [Int.toNat_natCast, Int.toNat_natCast] at hV
  refine (ReadFixed_any _ l a k (by omega) (by omega) (by omega) w hv).mono ?_
  rintro e w' ⟨rfl, rfl⟩
  unfold RfPost; rw [hV]; exact ⟨rfl, rfl⟩
set_option maxRecDepth 20000 in
set_option maxHeartbeats 2000000 in
theorem RReadFixedV (v : Value) (l : List UInt8) (at_ wd : Int) (w : World) (hv : RdB w v l) : Calls Try.prog 22 #[v, .int .i64 at_, .int .i64 wd] w (RfPost l at_ wd w) := by
  obtain ⟨A, c, rfl, hm⟩ := hv.form
  by_cases h1 : wd < 1
  · have hV : Hid (rfV l at_ wd = (0, 1)) := by show _ = _; unfold rfV; rw [if_pos (.inl h1)]
    go_enter Try.func22, Try.ntmps22
    go_wp2_with fail
    go_ret2
    unfold RfPost; rw [hV.out]; exact ⟨rfl, rfl⟩
  by_cases h2 : 8 < wd
  · have hV : Hid (rfV l at_ wd = (0, 1)) := by show _ = _; unfold rfV; rw [if_pos (.inr (.inl h2))]
    go_enter Try.func22, Try.ntmps22
    go_wp2_with fail
    go_ret2
    unfold RfPost; rw [hV.out]; exact ⟨rfl, rfl⟩
  by_cases h3 : at_ < 0
  · have hV : Hid (rfV l at_ wd = (0, 1)) := by show _ = _; unfold rfV; rw [if_pos (.inr (.inr (.inl h3)))]
    go_enter Try.func22, Try.ntmps22
    go_wp2_with fail
    go_ret2
    unfold RfPost; rw [hV.out]; exact ⟨rfl, rfl⟩
  by_cases h4 : (l.length : Int) < at_
  · have hV : Hid (rfV l at_ wd = (0, 1)) := by show _ = _; unfold rfV; rw [if_pos (.inr (.inr (.inr h4)))]
    go_enter Try.func22, Try.ntmps22
    go_wp2_with fail
    go_ret2
    unfold RfPost; rw [hV.out]; exact ⟨rfl, rfl⟩
  have hno : ¬ (wd < 1 ∨ 8 < wd ∨ at_ < 0 ∨ (l.length : Int) < at_) := by omega
  by_cases h5 : (l.length : Int) - at_ < wd
  · have hV : Hid (rfV l at_ wd = (0, 10)) := by show _ = _; unfold rfV; rw [if_neg hno, if_pos h5]
    clear hno
    go_enter Try.func22, Try.ntmps22
    go_wp2_with fail
    go_ret2
    unfold RfPost; rw [hV.out]; exact ⟨rfl, rfl⟩
  have hV : rfV l at_ wd = (numF ((l.drop at_.toNat).take wd.toNat), 0) := by unfold rfV; rw [if_neg hno, if_neg h5]
  obtain ⟨a, rfl⟩ := Int.eq_ofNat_of_zero_le (show 0 ≤ at_ by omega)
  obtain ⟨k, rfl⟩ := Int.eq_ofNat_of_zero_le (show 0 ≤ wd by omega)
  rw [Int.toNat_natCast, Int.toNat_natCast] at hV
  have HV := Lib.hid hV
  clear hV hno
  have hal : a + k ≤ l.length := by omega
  go_enter Try.func22, Try.ntmps22
  go_wp2_with fail
  go_loopw [8, 9] (fun n i wr => ∃ (j N : Nat), i = .int .i64 ((a : Int) + (j : Int)) ∧ n = .int .u64 (N : Int) ∧ j ≤ k ∧ Hid (N = numF ((l.drop a).take j)) ∧ w = wr)
    (fun _ i _ => a + k - (intOf i).toNat)
  case atStart => exact ⟨0, 0, by simp, rfl, Nat.zero_le _, Lib.hid (by simp [numF]), rfl⟩
  case round =>
    obtain ⟨j, N, rfl, rfl, hj, HN, rfl⟩ := hrel
    by_cases hlt : j < k
    · have hjl : a + j < l.length := by omega
      obtain ⟨ad, rfl, hc⟩ := hv.at_ hjl
      have hdl : j < (l.drop a).length := by simp; omega
      have hn2 : Hid (numF ((l.drop a).take (j + 1)) = N * 256 + l[a + j].toNat) := Lib.hid (by
        rw [← List.take_append_getElem hdl, numF_snoc, ← HN.out, List.getElem_drop])
      have hN7 : N < 72057594037927936 := by rw [HN.out]; exact numF_lt7 _ (by simp; omega)
      have hxb : l[a + j].toNat < 256 := l[a + j].toNat_lt
      generalize l[a + j].toNat = x at hc hn2 hxb
      have i1 : (a : Int) + (j : Int) < (l.length : Int) := by omega
      go_wp2_with fail
      go_roundw
      case rel => exact ⟨j + 1, N * 256 + x, by go_num, by congr 1; omega, by omega, Lib.hid hn2.out.symm, trivial⟩
      case measure => simp [intOf]; omega
    · obtain rfl : j = k := by omega
      go_wp2_with fail
      go_ret2
      unfold RfPost; rw [HV.out, ← HN.out]; exact ⟨rfl, rfl⟩
end Go.Proofs.Ytijlebjldnhnaaa
