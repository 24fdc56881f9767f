/- espalierlaw08.NodeReads: the statement 'NodeReadsSaid' is proved: whatever the input, the law returns true and the input reads as it did. -/
import Derived.Test.YtfcnkpofcekmgaaGreatNR29
import Derived.Test.YtfcnkpofcekmgaaGreatRows
import Derived.JoinedCond
import Derived.Carry
-- The bounds of an integer that came in; a row whose statement bears the bound on the bulk.
namespace Go.Proofs.YtfcnkpofcekmgaaGreat
open Go.RowKit Go.WideShapes Go.ChangeShapes
end Go.Proofs.YtfcnkpofcekmgaaGreat

-- espalierlaw08.NodeReads: the statement 'NodeReadsSaid' is proved: whatever the input, the law returns true and the input reads as it did.
namespace Go.Proofs.YtfcnkpofcekmgaaGreat.nodeReads
open Go.ChangeShapes Go.WideShapes Go.ChangeAt Go.RowKit
theorem own : ownKnob Tryz.prog.godebug = none := by kernel_rfl
theorem laidOut : laidOutB Tryz.prog = true := by kernel_rfl
set_option maxRecDepth 100000 in
theorem lifted (os : Os) (started : os.Started) (H : Type) (enc : TypeId × Value → H) :
    ReturnsInHanded {} Tryz.checked os 5 .any (Rows.nodeReadsSpec.pre6 enc Tryz.prog Tryz.f5 Rows.nodeReadsRow.domain false) (Rows.nodeReadsSpec.post enc Tryz.prog Tryz.f5 false true false false) := by
  refine law_lifts (C := Tryz.checked) (tb := 4) own started (by kernel_rfl) Tryz.func5
    (ChangeSpec.witness6 (enc := enc) (C := Tryz.checked) false ⟨#[], #[.slice none 0 0], []⟩ 8 (by kernel_rfl) (by kernel_rfl) (by kernel_rfl) (by kernel_rfl))
    rfl rfl Tryz.underlying4 laidOut (by kernel_rfl) (fun ds hd => ?_) ?_
  · match ds, hd with
    | [d0], _ => rfl
  · intro W base args ds p hval0 hA0 hsz0
    have hval : ∀ (j : Nat) t v, Tryz.f5.params[j]? = some t → args[j]? = some v → Value.okWide Tryz.prog W .any base t v := hval0
    have hA : DataW.TrodAll enc Tryz.prog W 0 (fun _ => true) true Tryz.f5.params.toList args.toList ds p := hA0
    have hsz : (DataW.weightsEach Tryz.prog Tryz.f5.params.toList ds).all (· ≤ reachBytes) = true := hsz0
    clear hval0 hA0 hsz0
    rw [Tryz.params5] at hA hval hsz
    obtain ⟨v0, d0, rfl, rfl, h0⟩ := trodAll_one hA
    obtain ⟨l, hl, hln⟩ := open_bytes (hval 0 _ v0 rfl rfl) h0 hsz (j := 0) rfl rfl
    exact nreads_any v0 l W hl hln
theorem proved : Rows.NodeReadsSaid :=
  OpenClaim.holds_of_wide 5 Tryz.f5 rfl rfl rfl rfl rfl rfl rfl ⟨rfl, rfl, rfl, rfl, rfl⟩ rfl rfl rfl rfl rfl (by kernel_rfl) Tryz.func5 (by kernel_rfl)
    (of_decide_eq_true (by kernel_rfl)) (by unfold Func.isWrapper; first | (rw [if_pos (by decide +kernel)]; kernel_rfl) | (rw [if_neg (by decide +kernel)]; exact ⟨rfl, rfl⟩))
    (fun os started H enc _ => lifted os started H enc)
end Go.Proofs.YtfcnkpofcekmgaaGreat.nodeReads
