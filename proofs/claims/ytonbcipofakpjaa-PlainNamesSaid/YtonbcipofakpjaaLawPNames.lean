/- espalierlaw06.PlainNames: the walk. -/
import Derived.Test.YtonbcipofakpjaaPlnAwake
namespace Go.Proofs.Ytonbcipofakpjaa
open Go.RowKit
set_option maxRecDepth 100000 in
set_option maxHeartbeats 4000000 in
theorem names_any (w : World) : Calls Try.prog 3 #[] w fun e w' => e = .returned (.bool true) ∧ Below w.heap.size w w' := by
  go_enter Try.func3, Try.ntmps3
  go_wp2_with fail
  refine (awake_any _).mono ?_
  rintro e w1 ⟨rfl, hw1⟩
  go_wp2_with fail
  have hb := OBlk.new' w1 23 [.int .i64 60, .int .i64 61, .int .i64 62, .int .i64 63, .int .i64 64]
  have hA := hw1.alloc hw1.size (.cells #[.int .i64 60, .int .i64 61, .int .i64 62, .int .i64 63, .int .i64 64] 23)
  go_loopw [3] (fun i wr => ∃ k : Nat, k ≤ 5 ∧ i = .int .i64 (k : Int) ∧ wr = w1.alloc (.cells #[.int .i64 60, .int .i64 61, .int .i64 62, .int .i64 63, .int .i64 64] 23)) (fun i _ => 5 - (intOf i).toNat)
  case atStart => exact ⟨0, by omega, rfl, rfl⟩
  case round =>
    obtain ⟨k, hk, rfl, rfl⟩ := hrel
    by_cases hlt : k < 5
    · have hc : (w1.alloc (.cells #[.int .i64 60, .int .i64 61, .int .i64 62, .int .i64 63, .int .i64 64] 23)).cell? ⟨w1.heap.size, k, none⟩ = some (.int .i64 ((60 : Int) + (k : Int))) := by
        rw [hb.cell]
        rcases (by omega : k = 0 ∨ k = 1 ∨ k = 2 ∨ k = 3 ∨ k = 4) with rfl | rfl | rfl | rfl | rfl <;> rfl
      have ik : (k : Int) < 5 := by omega
      go_wp2_with fail
      exact ⟨⟨k + 1, by omega, by go_num, trivial⟩, by simp [intOf]; omega⟩
    · obtain rfl : k = 5 := by omega
      go_wp2_with fail
      go_ret
      exact ⟨rfl, hA⟩
end Go.Proofs.Ytonbcipofakpjaa
