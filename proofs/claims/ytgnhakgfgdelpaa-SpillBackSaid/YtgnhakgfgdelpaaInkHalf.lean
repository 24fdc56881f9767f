/- ink.half: the walk. -/
import Derived.Test.YtgnhakgfgdelpaaBytes
import Derived.Outline
import Derived.Test.YtgnhakgfgdelpaaCrc
namespace Go.Proofs.Ytgnhakgfgdelpaa
open Go.RowKit


/-! ### half, Sum -/
theorem halfTab_at (k : Nat) (h : k < 16) : [Value.int IntKind.u32 0, Value.int IntKind.u32 274646895, Value.int IntKind.u32 549293790,
              Value.int IntKind.u32 820201905, Value.int IntKind.u32 1098587580, Value.int IntKind.u32 1361435347,
              Value.int IntKind.u32 1640403810, Value.int IntKind.u32 1905808397, Value.int IntKind.u32 2197175160,
              Value.int IntKind.u32 2460548119, Value.int IntKind.u32 2722870694, Value.int IntKind.u32 2987750089,
              Value.int IntKind.u32 3280807620, Value.int IntKind.u32 3553878443, Value.int IntKind.u32 3811616794,
              Value.int IntKind.u32 4084100981][k]? = some (.int .u32 (halfTab.getD k 0 : Nat)) := by
  match k, h with
  | 0, _ | 1, _ | 2, _ | 3, _ | 4, _ | 5, _ | 6, _ | 7, _ | 8, _ | 9, _ | 10, _ | 11, _ | 12, _ | 13, _ | 14, _ | 15, _ => rfl
  | k + 16, h => omega
set_option maxHeartbeats 400000 in
theorem half_any (r : Nat) (h : r < 4294967296) (w : World) :
    Calls Try.prog 59 #[.int .u32 r] w fun e w' => e = .returned (.int .u32 (halfF r : Nat)) ∧ Below w.heap.size w w' := by
  have hb : bits .and .u32 (r : Int) 15 = ((r % 16 : Nat) : Int) := by rw [← nat_mask4]; exact u32_and_nat r 15 h (by omega)
  have h1 : (0 : Int) ≤ ((r % 16 : Nat) : Int) := by omega
  have h2 : ((r % 16 : Nat) : Int) < 16 := by omega
  have ht := halfTab_at (r % 16) (by omega)
  rw [show halfTab.getD (r % 16) 0 = halfF r from rfl] at ht
  go_enter Try.func59, Try.ntmps59
  go_wp2
  go_ret
  exact ⟨rfl, (Below.refl _ _).alloc (Nat.le_refl _) _⟩
end Go.Proofs.Ytgnhakgfgdelpaa
