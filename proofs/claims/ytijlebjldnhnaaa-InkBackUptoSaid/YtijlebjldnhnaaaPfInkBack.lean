/- espalierlaw01.InkBack: the statement 'InkBackSaid' is proved: whatever the input, the law returns true and the input reads as it did. -/
import Derived.Test.YtijlebjldnhnaaaRows
import Derived.Test.YtijlebjldnhnaaaLawBack
import Derived.Test.YtijlebjldnhnaaaWf
import Derived.Carry
import Derived.Test.YtijlebjldnhnaaaUpto
import Derived.JoinedCond
import Derived.Test.YtijlebjldnhnaaaFive
namespace Go.Proofs.Ytijlebjldnhnaaa.inkBack
open Go.ChangeShapes Go.WideShapes Go.ChangeAt Go.RowKit
theorem own : ownKnob Try.prog.godebug = none := by kernel_rfl
theorem laidOut : laidOutB Try.prog = true := by kernel_rfl
set_option maxRecDepth 100000 in
theorem lifted (os : Os) (started : os.Started) (H : Type) (enc : TypeId × Value → H) (F : Stop.Interp) :
    ReturnsInHanded {} Try.checked os 6 .any ((Rows.OpenSpec.upto Rows.inkBackSpec).pre6 enc Try.prog Try.f6 Rows.inkBackUptoRow.domain false) (((Rows.OpenSpec.upto Rows.inkBackSpec).at F).post enc Try.prog Try.f6 false true false false) := by
  refine law_lifts_upto (s := Rows.inkBackSpec) (C := Try.checked) (tb := 4) own started (by kernel_rfl) Try.func6
    (OpenSpec.witness (enc := enc) (C := Try.checked) (s := Rows.OpenSpec.upto Rows.inkBackSpec) (k := Rows.uptoSmall) rfl false ⟨#[], #[.slice none 0 0, .int .u64 0, .int .i64 0, .slice none 0 0, .slice none 0 0], []⟩ 8 (by kernel_rfl) (by kernel_rfl) (by kernel_rfl)
      (x := ([.nil, .lit (.int .u64 0), .lit (.int .i64 0), .nil, .nil], [], [])) (by kernel_rfl) rfl (by kernel_rfl))
    rfl rfl Try.underlying4 laidOut (by kernel_rfl) (fun ds hd => ?_) ?_
  · match ds, hd with
    | [d0, d1, d2, d3, d4], _ => rfl
  · intro W base args ds p hval0 hA0 hsz0
    have hval : ∀ (j : Nat) t v, Try.f6.params[j]? = some t → args[j]? = some v → Value.okWide Try.prog W .any base t v := hval0
    have hA : DataW.TrodAll enc Try.prog W 0 (fun _ => true) true Try.f6.params.toList args.toList ds p := hA0
    have hk : Rows.uptoBulkAll ds ≤ 1048576 := hsz0
    clear hval0 hA0 hsz0
    rw [Try.params6] at hA hval
    obtain ⟨v0, v1, v2, v3, v4, d0, d1, d2, d3, d4, p0, p1, p2, p3, p4, rfl, rfl, rfl, h0, h1, h2, h3, h4⟩ := trodAll_five hA
    obtain ⟨b0, r0, l0⟩ := open_bytes_upto (j := 0) (hval 0 _ v0 rfl rfl) h0 hk rfl
    obtain ⟨z1, rfl, _, _, g1⟩ := open_int Try.underlying23 (hval 1 _ v1 rfl rfl) h1
    obtain ⟨n1, rfl, l1⟩ := wf_u64 g1
    obtain ⟨n2, rfl, _, _, g2⟩ := open_int Try.underlying3 (hval 2 _ v2 rfl rfl) h2
    have l2 := wf_i64 g2
    obtain ⟨b3, r3, l3⟩ := open_bytes_upto (j := 3) (hval 3 _ v3 rfl rfl) h3 hk rfl
    obtain ⟨b4, r4, l4⟩ := open_bytes_upto (j := 4) (hval 4 _ v4 rfl rfl) h4 hk rfl
    exact back_any v0 v3 v4 b0 n1 n2 b3 b4 W r0 r3 r4 l0 l1 l2 l3 l4
theorem proved : Rows.InkBackUptoSaid :=
  OpenClaim.holds_of_cond 6 Try.f6 rfl rfl rfl rfl rfl rfl rfl ⟨rfl, rfl, rfl, rfl, rfl⟩ rfl rfl rfl rfl rfl (by kernel_rfl) Try.func6 (by kernel_rfl)
    (of_decide_eq_true (by kernel_rfl)) (by unfold Func.isWrapper; first | (rw [if_pos (by decide +kernel)]; kernel_rfl) | (rw [if_neg (by decide +kernel)]; exact ⟨rfl, rfl⟩))
    (fun os started H enc _ F => lifted os started H enc F)
end Go.Proofs.Ytijlebjldnhnaaa.inkBack
