/- espalierlaw08.NodeTwins: the statement 'NodeTwinsSaid' is proved: whatever the input, the law returns true and the input reads as it did. -/
import Derived.Test.YtfcnkpofcekmgaaGreatNT27
import Derived.Test.YtfcnkpofcekmgaaGreatRows
import Derived.Carry
-- espalierlaw08.NodeTwins: the statement 'NodeTwinsSaid' is proved: whatever the input, the law returns true and the input reads as it did.
namespace Go.Proofs.YtfcnkpofcekmgaaGreat.nodeTwins
open Go.ChangeShapes Go.WideShapes Go.ChangeAt Go.RowKit
theorem own : ownKnob Tryz.prog.godebug = none := by kernel_rfl
theorem laidOut : laidOutB Tryz.prog = true := by kernel_rfl
set_option maxRecDepth 100000 in
theorem lifted (os : Os) (started : os.Started) (H : Type) (enc : TypeId × Value → H) :
    ReturnsInHanded {} Tryz.checked os 4 .any (Rows.nodeTwinsSpec.pre6 enc Tryz.prog Tryz.f4 Rows.nodeTwinsRow.domain false) (Rows.nodeTwinsSpec.post enc Tryz.prog Tryz.f4 false true false false) := by
  refine law_lifts (C := Tryz.checked) (tb := 4) own started (by kernel_rfl) Tryz.func4
    (ChangeSpec.witness6 (enc := enc) (C := Tryz.checked) false ⟨#[], #[.int .i64 0, .int .i64 0, .slice none 0 0], []⟩ 8 (by kernel_rfl) (by kernel_rfl) (by kernel_rfl) (by kernel_rfl))
    rfl rfl Tryz.underlying4 laidOut (by kernel_rfl) (fun ds hd => ?_) ?_
  · match ds, hd with
    | [d0, d1, d2], _ => rfl
  · intro W base args ds p hval0 hA0 hsz0
    have hval : ∀ (j : Nat) t v, Tryz.f4.params[j]? = some t → args[j]? = some v → Value.okWide Tryz.prog W .any base t v := hval0
    have hA : DataW.TrodAll enc Tryz.prog W 0 (fun _ => true) true Tryz.f4.params.toList args.toList ds p := hA0
    have hsz : (DataW.weightsEach Tryz.prog Tryz.f4.params.toList ds).all (· ≤ reachBytes) = true := hsz0
    clear hval0 hA0 hsz0
    rw [Tryz.params4] at hA hval hsz
    obtain ⟨v0, v1, v2, d0, d1, d2, p0, p1, p2, rfl, rfl, rfl, h0, h1, h2⟩ := trodAll_three hA
    obtain ⟨n0, rfl, _, _, g0⟩ := open_int Tryz.underlying3 (hval 0 _ v0 rfl rfl) h0
    obtain ⟨n1, rfl, _, _, g1⟩ := open_int Tryz.underlying3 (hval 1 _ v1 rfl rfl) h1
    obtain ⟨l, hl, hn, hs⟩ := open_ops (hval 2 _ v2 rfl rfl) h2 hsz (j := 2) rfl rfl
    exact twins_any n0 n1 (wf_i64 g1) v2 l W hl hs
theorem proved : Rows.NodeTwinsSaid :=
  OpenClaim.holds_of_wide 4 Tryz.f4 rfl rfl rfl rfl rfl rfl rfl ⟨rfl, rfl, rfl, rfl, rfl⟩ rfl rfl rfl rfl rfl (by kernel_rfl) Tryz.func4 (by kernel_rfl)
    (of_decide_eq_true (by kernel_rfl)) (by unfold Func.isWrapper; first | (rw [if_pos (by decide +kernel)]; kernel_rfl) | (rw [if_neg (by decide +kernel)]; exact ⟨rfl, rfl⟩))
    (fun os started H enc _ => lifted os started H enc)
end Go.Proofs.YtfcnkpofcekmgaaGreat.nodeTwins
