/- slices.Clone of bytes. -/
import Derived.Test.YtgnhakgfgdelpaaMem3
import Derived.Lib.SlBytesConst
namespace Go.Proofs.Ytgnhakgfgdelpaa
open Go.RowKit
set_option maxRecDepth 20000 in
set_option maxHeartbeats 1000000 in
theorem CloneB_any (v : Value) (l : List UInt8) (w : World) (hv : RdB w v l) (hl : l.length ≤ 140737488355328) :
    Calls Try.prog 42 #[v] w fun e w' => ∃ v', e = .returned v' ∧ OwB w' w.heap.size v' l ∧ Below w.heap.size w w' := by
  obtain ⟨A, c, rfl, hm⟩ := hv.form
  have q22 : ∀ (w : World) (a : Option Addr) (n c n' c' : Nat), (binOp .eql 25 (.slice a n c) (.slice none n' c')).run Try.prog w = .ok (.bool a.isNone) w := fun w a n c n' c' => Lib.run_eql_slice_nil w _ _ a n c n' c' Try.underlying25
  cases A with
  | none =>
    have : l = [] := by
      cases l with
      | nil => rfl
      | cons x r => obtain ⟨ad, h, _⟩ := hv.at_ (j := 0) (by simp); cases h
    subst this
    go_enter Try.func42, Try.ntmps42
    go_wp2_with fail
    go_ret
    exact ⟨_, rfl, OwB.nil _ _, Below.refl _ _⟩
  | some ad =>
    go_enter Try.func42, Try.ntmps42
    have hbase : OwB (w.alloc (.cells #[] 5)) w.heap.size (.slice (some ⟨w.heap.size, 0, none⟩) 0 0) [] := by
      have := (OBlk.new' w 5 []).owB' (base := w.heap.size) (m := []) (Nat.le_refl _) (by simp)
      exact this
    go_wp2_with (first
      | (at_builtin; refine wp_append_B rfl (.tmp 5) (.tmp 6) rfl w.heap.size _ [] rfl hbase _ l rfl (hv.alloc _) (by simp; omega) (by simp) ?_; intro v' w' ho hg hbk)
      | fail)
    go_ret
    exact ⟨v', rfl, ho, ((Below.refl w.heap.size w).alloc (Nat.le_refl _) _).grown hg (by simp) (fun k hk => Nat.le_of_eq (Option.some.inj hk))⟩
end Go.Proofs.Ytgnhakgfgdelpaa
