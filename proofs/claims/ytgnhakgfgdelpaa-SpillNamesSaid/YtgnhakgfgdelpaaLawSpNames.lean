/- espalierlaw09.SpillNames: the walk. -/
import Derived.Test.YtgnhakgfgdelpaaSpAwake
namespace Go.Proofs.Ytgnhakgfgdelpaa
open Go.RowKit
set_option maxRecDepth 100000 in
theorem names_any (w : World) : Calls Try.prog 3 #[] w fun e w' => e = .returned (.bool true) ∧ Below w.heap.size w w' := by
  go_enter Try.func3, Try.ntmps3
  go_wp2_with (first | (go_at_call 9; (with_reducible refine (awake_any _).mono ?_); rintro e w1 ⟨rfl, hw1⟩) | fail)
  go_ret
  exact ⟨rfl, hw1⟩
end Go.Proofs.Ytgnhakgfgdelpaa
