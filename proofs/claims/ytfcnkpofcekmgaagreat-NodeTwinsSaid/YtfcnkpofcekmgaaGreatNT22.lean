/- Texts joined: espalierref03.Book; espalierref07.taken, Shared, Size -/
import Derived.Test.YtfcnkpofcekmgaaGreatNT11
import Derived.Test.YtfcnkpofcekmgaaGreatNT21
import Derived.Deep.DeepCutAuto
-- espalierref03.Book: marked, Take, Owned: walks.
namespace Go.Proofs.YtfcnkpofcekmgaaGreat
open Go.RowKit
/-- A book: its block, its lists. -/
structure BookAt (w : World) (b0 : Nat) (bb : Nat) (v : Value) (vs : List Value) (f : Nat → List UInt8) (T : TypeId := 37) (rest : List Value := []) : Prop where
  blk : OBlk w bb T (v :: rest)
  own : Own w b0 41 1 v vs.length vs
  each : OwLs w 0 vs f
  apart : ApartL vs
theorem BookAt.below {w w' : World} {b0 bb : Nat} {v : Value} {vs : List Value} {f : Nat → List UInt8} {T : TypeId} {rest : List Value} (h : BookAt w b0 bb v vs f T rest) (hb : Below w.heap.size w w') : BookAt w' b0 bb v vs f T rest :=
  ⟨h.blk.below hb h.blk.lt, Own.below' h.own hb (Nat.le_refl _), h.each.below' hb (Nat.le_refl _), h.apart⟩
end Go.Proofs.YtfcnkpofcekmgaaGreat

-- espalierref07.taken, Shared, Size: walks.
namespace Go.Proofs.YtfcnkpofcekmgaaGreat
open Go.RowKit
/-! ### what cells share -/
def KeysIn (w : World) (vs : List Value) (ks : List (List UInt8)) : Prop := vs.length = ks.length ∧ ∀ j (h : j < ks.length), ∃ u, vs[j]? = some u ∧ RdB w u ks[j]
theorem KeysIn.snoc {w : World} {vs : List Value} {ks : List (List UInt8)} {u : Value} {k : List UInt8} (h : KeysIn w vs ks) (hu : RdB w u k) : KeysIn w (vs ++ [u]) (ks ++ [k]) := by
  refine ⟨by simp [h.1], fun j hj => ?_⟩
  rcases Nat.lt_or_ge j ks.length with h1 | h1
  · obtain ⟨x, hx, hr⟩ := h.2 j h1
    exact ⟨x, by rw [List.getElem?_append_left (by rw [h.1]; exact h1)]; exact hx, by rw [List.getElem_append_left h1]; exact hr⟩
  · have hj' : j = ks.length := by simp at hj; omega
    subst hj'
    exact ⟨u, by rw [List.getElem?_append_right (by rw [h.1]; exact Nat.le_refl _), h.1]; simp, by simpa using hu⟩
end Go.Proofs.YtfcnkpofcekmgaaGreat
