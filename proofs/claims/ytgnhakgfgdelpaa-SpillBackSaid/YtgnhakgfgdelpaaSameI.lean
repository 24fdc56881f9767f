/- espalierlaw09.sameInts of equal lists: the walk. -/
import Derived.Test.YtgnhakgfgdelpaaInts2
import Derived.BigQuiet
import Derived.Deep.CutRange
namespace Go.Proofs.Ytgnhakgfgdelpaa
open Go.RowKit
theorem RdI.drewN {w : World} {v : Value} {l : List Int} (h : RdI w v l) (n : Nat) : RdI (w.drewN n) v l := h
set_option maxRecDepth 100000 in
set_option maxHeartbeats 4000000 in
theorem sameInts_any (va vb : Value) (l : List Int) (w : World) (ha : RdI w va l) (hb : RdI w vb l) :
    Calls Try.prog 28 #[va, vb] w fun e w' => e = .returned (.bool true) ∧ ∃ nq, w' = w.drewN nq := by
  obtain ⟨A, c, rfl, hm, hc⟩ := ha.form
  obtain ⟨B, d, rfl, -, -⟩ := hb.form
  go_enter Try.func28, Try.ntmps28
  go_upto_region 4 with (fail)
  go_loopw [5] (fun i wr => ∃ k nq : Nat, k ≤ l.length ∧ i = .int .i64 (k : Int) ∧ wr = w.drewN nq) (fun i _ => l.length - (intOf i).toNat)
  case atStart => exact ⟨0, 0, Nat.zero_le _, rfl, rfl⟩
  case round =>
    obtain ⟨k, nq, hk, rfl, rfl⟩ := hrel
    have ha := ha.drewN nq
    have hb := hb.drewN nq
    obtain ⟨wr, HW⟩ : ∃ wr, Hid (w.drewN nq = wr) := ⟨_, Lib.hid rfl⟩
    rw [HW.out] at ha hb ⊢
    by_cases hlt : k < l.length
    · have i1 : (k : Int) < (l.length : Int) := by omega
      obtain ⟨ad, rfl, hcell⟩ := ha.at_ hlt
      obtain ⟨bd, rfl, hcell2⟩ := hb.at_ hlt
      generalize l[k] = x at *
      go_upto_region 6 with (fail)
      go_quiet (fail)
      go_wp2_with fail
      rw [← HW.out, World.drewN_drewN]
      exact ⟨⟨k + 1, _, by omega, by go_num, rfl⟩, by simp [intOf]; omega⟩
    · obtain rfl : k = l.length := by omega
      have i1 : ¬ (l.length : Int) < (l.length : Int) := by omega
      go_wp2_with fail
      go_ret
      exact ⟨rfl, nq, HW.out.symm⟩
end Go.Proofs.Ytgnhakgfgdelpaa
