/- espalierlaw01.InkTexts: the statement 'InkTextsSaid' is proved: whatever the input, the law returns true and the input reads as it did. -/
import Derived.Test.YtijlebjldnhnaaaRows
import Derived.Test.YtijlebjldnhnaaaLawTexts
import Derived.Test.YtijlebjldnhnaaaWf
import Derived.Carry
import Derived.Test.YtijlebjldnhnaaaUpto
import Derived.JoinedCond
namespace Go.Proofs.Ytijlebjldnhnaaa.inkTexts
open Go.ChangeShapes Go.WideShapes Go.ChangeAt Go.RowKit
theorem own : ownKnob Try.prog.godebug = none := by kernel_rfl
theorem laidOut : laidOutB Try.prog = true := by kernel_rfl
set_option maxRecDepth 100000 in
theorem lifted (os : Os) (started : os.Started) (H : Type) (enc : TypeId × Value → H) (F : Stop.Interp) :
    ReturnsInHanded {} Try.checked os 9 .any ((Rows.OpenSpec.upto Rows.inkTextsSpec).pre6 enc Try.prog Try.f9 Rows.inkTextsUptoRow.domain false) (((Rows.OpenSpec.upto Rows.inkTextsSpec).at F).post enc Try.prog Try.f9 false true false false) := by
  refine law_lifts_upto (s := Rows.inkTextsSpec) (C := Try.checked) (tb := 4) own started (by kernel_rfl) Try.func9
    (OpenSpec.witness (enc := enc) (C := Try.checked) (s := Rows.OpenSpec.upto Rows.inkTextsSpec) (k := Rows.uptoSmall) rfl false ⟨#[], #[.slice none 0 0, .slice none 0 0, .slice none 0 0], []⟩ 8 (by kernel_rfl) (by kernel_rfl) (by kernel_rfl)
      (x := ([.nil, .nil, .nil], [], [])) (by kernel_rfl) rfl (by kernel_rfl))
    rfl rfl Try.underlying4 laidOut (by kernel_rfl) (fun ds hd => ?_) ?_
  · match ds, hd with
    | [d0, d1, d2], _ => rfl
  · intro W base args ds p hval0 hA0 hsz0
    have hval : ∀ (j : Nat) t v, Try.f9.params[j]? = some t → args[j]? = some v → Value.okWide Try.prog W .any base t v := hval0
    have hA : DataW.TrodAll enc Try.prog W 0 (fun _ => true) true Try.f9.params.toList args.toList ds p := hA0
    have hk : Rows.uptoBulkAll ds ≤ 1048576 := hsz0
    clear hval0 hA0 hsz0
    rw [Try.params9] at hA hval
    obtain ⟨v0, v1, v2, d0, d1, d2, p0, p1, p2, rfl, rfl, rfl, h0, h1, h2⟩ := trodAll_three hA
    obtain ⟨b0, r0, m0, l0⟩ := open_rows_upto (j := 0) (hval 0 _ v0 rfl rfl) h0 hk rfl
    obtain ⟨b1, r1, l1⟩ := open_bytes_upto (j := 1) (hval 1 _ v1 rfl rfl) h1 hk rfl
    obtain ⟨b2, r2, l2⟩ := open_bytes_upto (j := 2) (hval 2 _ v2 rfl rfl) h2 hk rfl
    exact texts_any v0 v1 v2 b0 b1 b2 W r0 r1 r2 m0 l0 l1 l2
theorem proved : Rows.InkTextsUptoSaid :=
  OpenClaim.holds_of_cond 9 Try.f9 rfl rfl rfl rfl rfl rfl rfl ⟨rfl, rfl, rfl, rfl, rfl⟩ rfl rfl rfl rfl rfl (by kernel_rfl) Try.func9 (by kernel_rfl)
    (of_decide_eq_true (by kernel_rfl)) (by unfold Func.isWrapper; first | (rw [if_pos (by decide +kernel)]; kernel_rfl) | (rw [if_neg (by decide +kernel)]; exact ⟨rfl, rfl⟩))
    (fun os started H enc _ F => lifted os started H enc F)
end Go.Proofs.Ytijlebjldnhnaaa.inkTexts
