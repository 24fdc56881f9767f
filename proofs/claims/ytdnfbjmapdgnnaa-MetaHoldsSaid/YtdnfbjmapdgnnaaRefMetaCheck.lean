/- espalierref05.isPage, Check: walks. -/
import Derived.Test.YtdnfbjmapdgnnaaMetaOk
namespace Go.Proofs.Ytdnfbjmapdgnnaa
open Go.RowKit

set_option maxHeartbeats 400000 in
theorem risPage_any (p : Int) (w : World) :
    Calls Try.prog 30 #[.int .i64 p] w fun e w' => e = .returned (.bool (isPowB p)) ∧ w = w' := by
  go_enter Try.func30, Try.ntmps30
  go_wp2
  go_loop [3] (fun q => ∃ k : Nat, k ≤ 8 ∧ q = .int .i64 (512 * 2 ^ k : Nat) ∧ (∀ j, j < k → p ≠ (512 * 2 ^ j : Nat))) (fun q => 131072 - (intOf q).toNat)
  case atStart => exact ⟨0, by omega, rfl, fun j h => by omega⟩
  case round =>
    obtain ⟨k, hk, rfl, hno⟩ := hrel
    have hcases : k = 0 ∨ k = 1 ∨ k = 2 ∨ k = 3 ∨ k = 4 ∨ k = 5 ∨ k = 6 ∨ k = 7 ∨ k = 8 := by omega
    have HN : Hid (∀ j, j < k → p ≠ (512 * 2 ^ j : Nat)) := hno
    clear hno
    by_cases h8 : k = 8
    · subst h8
      have E : Hid (isPowB p = false) := by
        show _ = _
        unfold isPowB
        rw [decide_eq_false_iff_not]
        have h := HN.out
        intro hp
        unfold isPow at hp
        rcases hp with rfl | rfl | rfl | rfl | rfl | rfl | rfl | rfl
        · exact h 0 (by omega) rfl
        · exact h 1 (by omega) rfl
        · exact h 2 (by omega) rfl
        · exact h 3 (by omega) rfl
        · exact h 4 (by omega) rfl
        · exact h 5 (by omega) rfl
        · exact h 6 (by omega) rfl
        · exact h 7 (by omega) rfl
      have hb : 65536 < 512 * 2 ^ 8 := by decide
      clear hcases HN
      generalize 512 * 2 ^ 8 = q at *
      go_wp2
      go_ret
      exact ⟨by rw [E.out]; rfl, rfl⟩
    · have hb : 512 * 2 ^ k ≤ 65536 := by rcases hcases with rfl | rfl | rfl | rfl | rfl | rfl | rfl | rfl | rfl <;> omega
      have hb0 : 512 ≤ 512 * 2 ^ k := by rcases hcases with rfl | rfl | rfl | rfl | rfl | rfl | rfl | rfl | rfl <;> omega
      have HQ : Hid (512 * 2 ^ (k + 1) = 2 * (512 * 2 ^ k)) := by
        show _ = _
        rw [Nat.pow_succ]; omega
      by_cases hp : p = (512 * 2 ^ k : Nat)
      · have E : Hid (isPowB p = true) := by
          show _ = _
          rw [hp]
          unfold isPowB isPow
          rcases hcases with rfl | rfl | rfl | rfl | rfl | rfl | rfl | rfl | rfl
          all_goals first | exact absurd rfl h8 | decide
        have e1 : (((512 * 2 ^ k : Nat) : Int) == p) = true := by rw [hp]; simp
        clear hp h8 HQ HN hcases
        generalize 512 * 2 ^ k = q at *
        go_wp2
        go_ret
        exact ⟨by rw [E.out]; rfl, rfl⟩
      · have HP : Hid (p ≠ (512 * 2 ^ k : Nat)) := hp
        have e1 : (((512 * 2 ^ k : Nat) : Int) == p) = false := by simp only [beq_eq_false_iff_ne]; omega
        clear hp hcases
        generalize hq : 512 * 2 ^ k = q at *
        have HQQ := Lib.hid hq
        clear hq
        go_wp2
        go_round
        case rel => exact ⟨k + 1, by omega, by rw [HQ.out]; go_num, fun j hj => by
          rcases Nat.lt_or_ge j k with h | h
          · exact HN.out j h
          · obtain rfl : j = k := by omega
            rw [HQQ.out]; exact HP.out⟩
        case measure => simp [intOf]; omega
end Go.Proofs.Ytdnfbjmapdgnnaa
