/- espalierlaw09.SpillPages: the walk. -/
import Derived.Test.YtgnhakgfgdelpaaSpAwake
import Derived.Test.YtgnhakgfgdelpaaRfPag
namespace Go.Proofs.Ytgnhakgfgdelpaa
open Go.RowKit
set_option maxRecDepth 100000 in
theorem pages_any (p n : Int) (hp : -9223372036854775808 ≤ p ∧ p ≤ 9223372036854775807) (hn : -9223372036854775808 ≤ n ∧ n ≤ 9223372036854775807) (w : World) :
    Calls Try.prog 4 #[.int .i64 p, .int .i64 n] w fun e w' => e = .returned (.bool true) ∧ Below w.heap.size w w' := by
  have h1 := fun W => SPages_any p n hp hn W
  have h2 := fun W => RPages_any p n hp hn W
  generalize pagesF p n = k at *
  by_cases hl : 1000000 < n
  · go_enter Try.func4, Try.ntmps4
    go_wp2_with (first | (go_at_call 9; (with_reducible refine (awake_any _).mono ?_); rintro e w1 ⟨rfl, hw1⟩) | fail)
    go_ret
    exact ⟨rfl, hw1⟩
  · go_enter Try.func4, Try.ntmps4
    go_wp2_with (first
      | (go_at_call 9; (with_reducible refine (awake_any _).mono ?_); rintro e w1 ⟨rfl, hw1⟩)
      | (go_at_call 10; (with_reducible refine (h1 _).mono ?_); rintro e w2 ⟨rfl, rfl⟩)
      | (go_at_call 11; (with_reducible refine (h2 _).mono ?_); rintro e w3 ⟨rfl, rfl⟩)
      | fail)
    go_ret
    exact ⟨rfl, hw1⟩
end Go.Proofs.Ytgnhakgfgdelpaa
