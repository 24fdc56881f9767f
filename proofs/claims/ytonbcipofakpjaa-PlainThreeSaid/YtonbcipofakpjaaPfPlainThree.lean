/- espalierlaw06.PlainThree: the statement 'PlainThreeSaid' is proved: whatever the input, the law returns true and the input reads as it did. -/
import Derived.Test.YtonbcipofakpjaaRows
import Derived.Test.YtonbcipofakpjaaLawPThr
import Derived.Test.YtonbcipofakpjaaOpenCs
import Derived.Test.YtonbcipofakpjaaWf
import Derived.Carry
import Derived.Test.YtonbcipofakpjaaClose2
namespace Go.Proofs.Ytonbcipofakpjaa.plainThree
open Go.ChangeShapes Go.WideShapes Go.ChangeAt Go.RowKit
theorem own : ownKnob Try.prog.godebug = none := by kernel_rfl
theorem laidOut : laidOutB Try.prog = true := by kernel_rfl
set_option maxRecDepth 100000 in
theorem lifted (os : Os) (started : os.Started) (H : Type) (enc : TypeId × Value → H) :
    ReturnsInHanded {} Try.checked os 5 .any (Rows.plainThreeSpec.pre6 enc Try.prog Try.f5 Rows.plainThreeRow.domain false) (Rows.plainThreeSpec.post enc Try.prog Try.f5 false true false false) := by
  refine law_lifts (C := Try.checked) (tb := 4) own started (by kernel_rfl) Try.func5
    (ChangeSpec.witness6 (enc := enc) (C := Try.checked) false ⟨#[], #[.int .i64 0, .slice none 0 0, .int .i64 0], []⟩ 8 (by kernel_rfl) (by kernel_rfl) (by kernel_rfl) (by kernel_rfl))
    rfl rfl Try.underlying4 laidOut (by kernel_rfl) (fun ds hd => ?_) ?_
  · match ds, hd with
    | [d0, d1, d2], _ => rfl
  · intro W base args ds p hval0 hA0 hsz0
    have hval : ∀ (j : Nat) t v, Try.f5.params[j]? = some t → args[j]? = some v → Value.okWide Try.prog W .any base t v := hval0
    have hA : DataW.TrodAll enc Try.prog W 0 (fun _ => true) true Try.f5.params.toList args.toList ds p := hA0
    have hsz : (DataW.weightsEach Try.prog Try.f5.params.toList ds).all (· ≤ reachBytes) = true := hsz0
    clear hval0 hA0 hsz0
    rw [Try.params5] at hA hval hsz
    obtain ⟨v0, v1, v2, d0, d1, d2, p0, p1, p2, rfl, rfl, rfl, h0, h1, h2⟩ := trodAll_three hA
    obtain ⟨n0, rfl, _, _, g0⟩ := open_int Try.underlying3 (hval 0 _ v0 rfl rfl) h0
    obtain ⟨l, hl, hn, hs⟩ := open_cells (hval 1 _ v1 rfl rfl) h1 hsz (j := 1) rfl rfl
    obtain ⟨n2, rfl, _, _, g2⟩ := open_int Try.underlying3 (hval 2 _ v2 rfl rfl) h2
    exact three_any n0 v1 l n2 (wf_i64 g2) W hl (by omega) (fun c hc => by
      obtain ⟨o, ho, rfl⟩ := List.mem_map.1 hc
      have := hs o ho
      omega)
theorem proved : Rows.PlainThreeSaid :=
  OpenClaim.holds_of_wide 5 Try.f5 rfl rfl rfl rfl rfl rfl rfl ⟨rfl, rfl, rfl, rfl, rfl⟩ rfl rfl rfl rfl rfl (by kernel_rfl) Try.func5 (by kernel_rfl)
    (of_decide_eq_true (by kernel_rfl)) (by unfold Func.isWrapper; first | (rw [if_pos (by decide +kernel)]; kernel_rfl) | (rw [if_neg (by decide +kernel)]; exact ⟨rfl, rfl⟩))
    (fun os started H enc _ => lifted os started H enc)
end Go.Proofs.Ytonbcipofakpjaa.plainThree
