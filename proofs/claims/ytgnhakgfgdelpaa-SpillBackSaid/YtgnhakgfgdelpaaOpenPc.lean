/- An argument of type espalierlaw09.Piece. -/
import Derived.Test.YtgnhakgfgdelpaaClose2
import Derived.Test.YtgnhakgfgdelpaaOpenTrodB
import Derived.Deep.Slices
import Derived.Deep.Fields
namespace Go.Proofs.Ytgnhakgfgdelpaa
open Go.RowKit Go.WideShapes Go.ChangeShapes Go.Deep
section
variable {H : Type} {enc : TypeId × Value → H} {W : World}
theorem cells_Piece : Try.prog.cellsOf 40 = 3 := by kernel_rfl
set_option maxRecDepth 100000 in
theorem open_piece {base : Nat} {v : Value} {d : DataW H} {p : List MemPlace} (hv : Value.okWide Try.prog W .any base 40 v) (h : DataW.Trod enc Try.prog W 0 (fun _ => true) true 40 v d p) :
    ∃ (u : Value) (l : List UInt8) (lo hi : Int), v = .agg #[u, .int .i64 lo, .int .i64 hi] ∧ RdB W u l ∧ (-9223372036854775808 ≤ lo ∧ lo ≤ 9223372036854775807) ∧ (-9223372036854775808 ≤ hi ∧ hi ≤ 9223372036854775807) := by
  obtain ⟨cs, rfl, hcs⟩ := okWide_struct Try.underlying40 hv
  obtain ⟨fuel, hf⟩ := h
  obtain ⟨xs, n, _, -, hcl, hxl, hg⟩ := DataW.trod_struct Try.underlying40 hf
  rw [cells_Piece] at hcl
  have hcl' : cs.toList.length = 3 := hcl
  obtain ⟨l, rfl⟩ : ∃ l : List Value, cs = l.toArray := ⟨cs.toList, by simp⟩
  match l, hcl' with
  | [c0, c1, c2], _ =>
    match xs, hxl with
    | [z0, z1, z2], _ =>
      have g0 := hg 0 _ rfl
      have g1 := hg 1 _ rfl
      have g2 := hg 2 _ rfl
      obtain ⟨dv, data, e0, hd, _⟩ := trod_bytes (cs := [c0]) g0
      obtain ⟨k1, e1, r1⟩ := trod_i64 (cs := [c1]) g1
      obtain ⟨k2, e2, r2⟩ := trod_i64 (cs := [c2]) g2
      injection e0 with e0
      injection e1 with e1
      injection e2 with e2
      subst e0 e1 e2
      exact ⟨c0, data, k1, k2, rfl, hd, r1, r2⟩
end
end Go.Proofs.Ytgnhakgfgdelpaa
