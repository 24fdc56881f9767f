/- espalierlaw09.SpillBack: the statement 'SpillBackSaid' is proved: whatever the input, the law returns true and the input reads as it did. -/
import Derived.Test.YtgnhakgfgdelpaaRows
import Derived.Test.YtgnhakgfgdelpaaLawSpBack
import Derived.Test.YtgnhakgfgdelpaaOpenPc
import Derived.Test.YtgnhakgfgdelpaaWf
import Derived.Carry
namespace Go.Proofs.Ytgnhakgfgdelpaa.spillBack
open Go.ChangeShapes Go.WideShapes Go.ChangeAt Go.RowKit
theorem own : ownKnob Try.prog.godebug = none := by kernel_rfl
theorem laidOut : laidOutB Try.prog = true := by kernel_rfl
set_option maxRecDepth 100000 in
theorem lifted (os : Os) (started : os.Started) (H : Type) (enc : TypeId × Value → H) :
    ReturnsInHanded {} Try.checked os 7 .any (Rows.spillBackSpec.pre6 enc Try.prog Try.f7 Rows.spillBackRow.domain false) (Rows.spillBackSpec.post enc Try.prog Try.f7 false true false false) := by
  refine law_lifts (C := Try.checked) (tb := 4) own started (by kernel_rfl) Try.func7
    (ChangeSpec.witness6 (enc := enc) (C := Try.checked) false ⟨#[], #[.int .i64 0, .slice none 0 0, .agg #[.slice none 0 0, .int .i64 0, .int .i64 0]], []⟩ 8 (by kernel_rfl) (by kernel_rfl) (by kernel_rfl) (by kernel_rfl))
    rfl rfl Try.underlying4 laidOut (by kernel_rfl) (fun ds hd => ?_) ?_
  · match ds, hd with
    | [d0, d1, d2], _ => rfl
  · intro W base args ds p hval0 hA0 hsz0
    have hval : ∀ (j : Nat) t v, Try.f7.params[j]? = some t → args[j]? = some v → Value.okWide Try.prog W .any base t v := hval0
    have hA : DataW.TrodAll enc Try.prog W 0 (fun _ => true) true Try.f7.params.toList args.toList ds p := hA0
    have hsz : (DataW.weightsEach Try.prog Try.f7.params.toList ds).all (· ≤ reachBytes) = true := hsz0
    clear hval0 hA0 hsz0
    rw [Try.params7] at hA hval hsz
    obtain ⟨v0, v1, v2, d0, d1, d2, p0, p1, p2, rfl, rfl, rfl, h0, h1, h2⟩ := trodAll_three hA
    obtain ⟨n0, rfl, _, _, g0⟩ := open_int Try.underlying3 (hval 0 _ v0 rfl rfl) h0
    have l0 := wf_i64 g0
    obtain ⟨b1, r1, l1⟩ := open_bytes (j := 1) (hval 1 _ v1 rfl rfl) h1 hsz rfl rfl
    obtain ⟨u, b2, lo, hi, rfl, r2, l2, l3⟩ := open_piece (hval 2 _ v2 rfl rfl) h2
    exact back_any n0 v1 u b1 b2 lo hi l0 l2 l3 W r1 r2
theorem proved : Rows.SpillBackSaid :=
  OpenClaim.holds_of_wide 7 Try.f7 rfl rfl rfl rfl rfl rfl rfl ⟨rfl, rfl, rfl, rfl, rfl⟩ rfl rfl rfl rfl rfl (by kernel_rfl) Try.func7 (by kernel_rfl)
    (of_decide_eq_true (by kernel_rfl)) (by unfold Func.isWrapper; first | (rw [if_pos (by decide +kernel)]; kernel_rfl) | (rw [if_neg (by decide +kernel)]; exact ⟨rfl, rfl⟩))
    (fun os started H enc _ => lifted os started H enc)
end Go.Proofs.Ytgnhakgfgdelpaa.spillBack
