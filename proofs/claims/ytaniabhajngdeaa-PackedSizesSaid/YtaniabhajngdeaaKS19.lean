/- espalierlaw07.PackedSizes: the statement 'PackedSizesSaid' is proved: whatever the input, the law returns true and the input reads as it did. -/
import Derived.Test.YtaniabhajngdeaaKS18
import Derived.Test.YtaniabhajngdeaaRows
import Derived.Carry
-- espalierlaw07.PackedSizes: the statement 'PackedSizesSaid' is proved: whatever the input, the law returns true and the input reads as it did.
namespace Go.Proofs.Ytaniabhajngdeaa.packedSizes
open Go.ChangeShapes Go.WideShapes Go.ChangeAt Go.RowKit
theorem own : ownKnob Try.prog.godebug = none := by kernel_rfl
theorem laidOut : laidOutB Try.prog = true := by kernel_rfl
set_option maxRecDepth 100000 in
theorem lifted (os : Os) (started : os.Started) (H : Type) (enc : TypeId × Value → H) :
    ReturnsInHanded {} Try.checked os 4 .any (Rows.packedSizesSpec.pre6 enc Try.prog Try.f4 Rows.packedSizesRow.domain false) (Rows.packedSizesSpec.post enc Try.prog Try.f4 false true false false) := by
  refine law_lifts (C := Try.checked) (tb := 4) own started (by kernel_rfl) Try.func4
    (ChangeSpec.witness6 (enc := enc) (C := Try.checked) false ⟨#[], #[.int .i64 0, .slice none 0 0], []⟩ 8 (by kernel_rfl) (by kernel_rfl) (by kernel_rfl) (by kernel_rfl))
    rfl rfl Try.underlying4 laidOut (by kernel_rfl) (fun ds hd => ?_) ?_
  · match ds, hd with
    | [d0, d1], _ => rfl
  · intro W base args ds p hval0 hA0 hsz0
    have hval : ∀ (j : Nat) t v, Try.f4.params[j]? = some t → args[j]? = some v → Value.okWide Try.prog W .any base t v := hval0
    have hA : DataW.TrodAll enc Try.prog W 0 (fun _ => true) true Try.f4.params.toList args.toList ds p := hA0
    have hsz : (DataW.weightsEach Try.prog Try.f4.params.toList ds).all (· ≤ reachBytes) = true := hsz0
    clear hval0 hA0 hsz0
    rw [Try.params4] at hA hval hsz
    obtain ⟨v0, v1, d0, d1, p0, p1, rfl, rfl, rfl, h0, h1⟩ := trodAll_two hA
    obtain ⟨n0, rfl, _, _, g0⟩ := open_int Try.underlying3 (hval 0 _ v0 rfl rfl) h0
    obtain ⟨l, hl, hn, hs⟩ := open_cells (hval 1 _ v1 rfl rfl) h1 hsz (j := 1) rfl rfl
    exact ksizes_any n0 v1 l W hl (fun c hc => by
      obtain ⟨o, ho, rfl⟩ := List.mem_map.1 hc
      have := hs o ho
      omega)
theorem proved : Rows.PackedSizesSaid :=
  OpenClaim.holds_of_wide 4 Try.f4 rfl rfl rfl rfl rfl rfl rfl ⟨rfl, rfl, rfl, rfl, rfl⟩ rfl rfl rfl rfl rfl (by kernel_rfl) Try.func4 (by kernel_rfl)
    (of_decide_eq_true (by kernel_rfl)) (by unfold Func.isWrapper; first | (rw [if_pos (by decide +kernel)]; kernel_rfl) | (rw [if_neg (by decide +kernel)]; exact ⟨rfl, rfl⟩))
    (fun os started H enc _ => lifted os started H enc)
end Go.Proofs.Ytaniabhajngdeaa.packedSizes
