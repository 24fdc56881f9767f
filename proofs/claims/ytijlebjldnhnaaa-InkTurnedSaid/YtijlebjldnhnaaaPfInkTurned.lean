/- espalierlaw01.InkTurned: the statement 'InkTurnedSaid' is proved: whatever the input, the law returns true and the input reads as it did. -/
import Derived.Test.YtijlebjldnhnaaaRows
import Derived.Test.YtijlebjldnhnaaaLawTurned
import Derived.Test.YtijlebjldnhnaaaWf
import Derived.Carry
namespace Go.Proofs.Ytijlebjldnhnaaa.inkTurned
open Go.ChangeShapes Go.WideShapes Go.ChangeAt Go.RowKit
theorem own : ownKnob Try.prog.godebug = none := by kernel_rfl
theorem laidOut : laidOutB Try.prog = true := by kernel_rfl
set_option maxRecDepth 100000 in
theorem lifted (os : Os) (started : os.Started) (H : Type) (enc : TypeId × Value → H) :
    ReturnsInHanded {} Try.checked os 12 .any (Rows.inkTurnedSpec.pre6 enc Try.prog Try.f12 Rows.inkTurnedRow.domain false) (Rows.inkTurnedSpec.post enc Try.prog Try.f12 false true false false) := by
  refine law_lifts (C := Try.checked) (tb := 4) own started (by kernel_rfl) Try.func12
    (ChangeSpec.witness6 (enc := enc) (C := Try.checked) false ⟨#[], #[.slice none 0 0, .int .i64 0, .int .u32 0], []⟩ 8 (by kernel_rfl) (by kernel_rfl) (by kernel_rfl) (by kernel_rfl))
    rfl rfl Try.underlying4 laidOut (by kernel_rfl) (fun ds hd => ?_) ?_
  · match ds, hd with
    | [d0, d1, d2], _ => rfl
  · intro W base args ds p hval0 hA0 hsz0
    have hval : ∀ (j : Nat) t v, Try.f12.params[j]? = some t → args[j]? = some v → Value.okWide Try.prog W .any base t v := hval0
    have hA : DataW.TrodAll enc Try.prog W 0 (fun _ => true) true Try.f12.params.toList args.toList ds p := hA0
    have hsz : (DataW.weightsEach Try.prog Try.f12.params.toList ds).all (· ≤ reachBytes) = true := hsz0
    clear hval0 hA0 hsz0
    rw [Try.params12] at hA hval hsz
    obtain ⟨v0, v1, v2, d0, d1, d2, p0, p1, p2, rfl, rfl, rfl, h0, h1, h2⟩ := trodAll_three hA
    obtain ⟨b0, r0, l0⟩ := open_bytes (j := 0) (hval 0 _ v0 rfl rfl) h0 hsz rfl rfl
    obtain ⟨n1, rfl, _, _, g1⟩ := open_int Try.underlying3 (hval 1 _ v1 rfl rfl) h1
    have l1 := wf_i64 g1
    obtain ⟨z2, rfl, _, _, g2⟩ := open_int Try.underlying54 (hval 2 _ v2 rfl rfl) h2
    obtain ⟨n2, rfl, l2⟩ := wf_u32 g2
    exact turned_any v0 b0 n1 n2 W r0 l0 l1 l2
theorem proved : Rows.InkTurnedSaid :=
  OpenClaim.holds_of_wide 12 Try.f12 rfl rfl rfl rfl rfl rfl rfl ⟨rfl, rfl, rfl, rfl, rfl⟩ rfl rfl rfl rfl rfl (by kernel_rfl) Try.func12 (by kernel_rfl)
    (of_decide_eq_true (by kernel_rfl)) (by unfold Func.isWrapper; first | (rw [if_pos (by decide +kernel)]; kernel_rfl) | (rw [if_neg (by decide +kernel)]; exact ⟨rfl, rfl⟩))
    (fun os started H enc _ => lifted os started H enc)
end Go.Proofs.Ytijlebjldnhnaaa.inkTurned
