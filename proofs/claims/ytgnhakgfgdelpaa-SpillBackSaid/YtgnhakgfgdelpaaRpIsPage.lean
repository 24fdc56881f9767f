/- espalierref03.IsPage: the walk. -/
import Derived.Test.YtgnhakgfgdelpaaPow
import Derived.Test.YtgnhakgfgdelpaaMem3
namespace Go.Proofs.Ytgnhakgfgdelpaa
open Go.RowKit
def pw (j : Nat) : Int := 512 * 2 ^ j
theorem isPow_pw (p : Int) : isPow p ↔ ∃ j, j < 8 ∧ p = pw j := by
  unfold isPow pw
  constructor
  · rintro (h | h | h | h | h | h | h | h)
    · exact ⟨0, by omega, h⟩
    · exact ⟨1, by omega, h⟩
    · exact ⟨2, by omega, h⟩
    · exact ⟨3, by omega, h⟩
    · exact ⟨4, by omega, h⟩
    · exact ⟨5, by omega, h⟩
    · exact ⟨6, by omega, h⟩
    · exact ⟨7, by omega, h⟩
  · rintro ⟨j, hj, rfl⟩
    rcases (by omega : j = 0 ∨ j = 1 ∨ j = 2 ∨ j = 3 ∨ j = 4 ∨ j = 5 ∨ j = 6 ∨ j = 7) with rfl | rfl | rfl | rfl | rfl | rfl | rfl | rfl <;> simp
set_option maxRecDepth 20000 in
set_option maxHeartbeats 2000000 in
theorem IsPage_any (p : Int) (w : World) : Calls Try.prog 34 #[.int .i64 p] w fun e w' => e = .returned (.bool (isPowB p)) ∧ w = w' := by
  go_enter Try.func34, Try.ntmps34
  go_wp2_with fail
  go_loopw [3] (fun i wr => ∃ j : Nat, j ≤ 8 ∧ i = .int .i64 (pw j) ∧ Hid (∀ k, k < j → p ≠ pw k) ∧ w = wr) (fun i _ => (131072 - intOf i).toNat)
  case atStart => exact ⟨0, by omega, rfl, Lib.hid (by omega), rfl⟩
  case round =>
    obtain ⟨j, hj, rfl, HN, rfl⟩ := hrel
    rcases (by omega : j = 8 ∨ j < 8) with rfl | hlt
    · have HV := Lib.hid (show isPowB p = false from decide_eq_false fun h => by
        obtain ⟨k, hk, e⟩ := (isPow_pw p).1 h
        exact HN.out k hk e)
      have e8 : pw 8 = 131072 := by decide
      rw [e8]
      go_wp2_with fail
      go_ret
      rw [HV.out]
      exact ⟨rfl, rfl⟩
    · have hb : 512 ≤ pw j ∧ pw j ≤ 65536 ∧ pw (j + 1) = 2 * pw j := by
        rcases (by omega : j = 0 ∨ j = 1 ∨ j = 2 ∨ j = 3 ∨ j = 4 ∨ j = 5 ∨ j = 6 ∨ j = 7) with rfl | rfl | rfl | rfl | rfl | rfl | rfl | rfl <;> decide
      obtain ⟨h1, h2, h3⟩ := hb
      by_cases hp : p = pw j
      · have HV := Lib.hid (show isPowB p = true from decide_eq_true ((isPow_pw p).2 ⟨j, hlt, hp⟩))
        have hb : (pw j == p) = true := by simp [hp]
        clear hp h3
        generalize pw j = x at *
        go_wp2_with fail
        go_ret
        rw [HV.out]
        exact ⟨rfl, rfl⟩
      · have HN2 := Lib.hid (show ∀ k, k < j + 1 → p ≠ pw k from fun k hk => by
          rcases (by omega : k < j ∨ k = j) with h | rfl
          · exact HN.out k h
          · exact hp)
        have hb : (pw j == p) = false := by
          rw [Bool.eq_false_iff]
          simp only [ne_eq, beq_iff_eq]
          exact fun e => hp e.symm
        have H3 := Lib.hid h3
        clear hp h3
        generalize hx : pw j = x at *
        clear hx
        go_wp2_with fail
        go_roundw
        case rel => exact ⟨j + 1, by omega, by rw [H3.out], HN2, trivial⟩
        case measure => simp [intOf]; omega
end Go.Proofs.Ytgnhakgfgdelpaa
