/- Bytes made of a constant. -/
import Derived.Test.YtgnhakgfgdelpaaMem3
import Derived.Lib.SlBytesConst
namespace Go.Proofs.Ytgnhakgfgdelpaa
open Go.RowKit
theorem conv_id (w : World) (C : Array Value) (n c g : Nat) (hg : g = w.heap.size) : (convert 25 25 (.slice (some ⟨g, 0, none⟩) n c)).run Try.prog (w.alloc (.cells C 5)) = .ok (.slice (some ⟨g, 0, none⟩) n c) (w.alloc (.cells C 5 (C.size, C.size + 1))) := by
  subst hg; exact Lib.run_convert_bytes_const w _ _ C n c Try.underlying25 Try.underlying5
theorem RdB.litm (w : World) (l : List UInt8) (cells : Array Value) (T : TypeId) (fr : Nat × Nat) (n : Nat) (h : cells = (bvs l).toArray) (hn : l.length = n) (hm : n ≤ maxLen) : RdB (w.alloc (.cells cells T fr)) (.slice (some ⟨w.heap.size, 0, none⟩) n n) l := by
  subst h; subst hn
  refine ⟨_, _, rfl, Nat.le_refl _, hm, fun j hj => ⟨_, rfl, ?_⟩⟩
  rw [add_row, Nat.zero_add, World.cell?_alloc_mark]
  have := bvs_get' l j hj
  simpa using this
end Go.Proofs.Ytgnhakgfgdelpaa
