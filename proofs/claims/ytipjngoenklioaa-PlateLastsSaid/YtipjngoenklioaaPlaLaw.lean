/- espalierlaw03.page, awake: walks. -/
import Derived.Test.YtipjngoenklioaaPlaImg
import Derived.Test.YtipjngoenklioaaStep
namespace Go.Proofs.Ytipjngoenklioaa
open Go.RowKit
theorem repl_set (n k : Nat) (c : UInt8) (h : k < n) : (List.replicate k c ++ List.replicate (n - k) (0 : UInt8)).set k c = List.replicate (k + 1) c ++ List.replicate (n - (k + 1)) 0 := by
  apply List.ext_getElem?
  intro i
  rw [List.getElem?_set]
  simp only [List.length_append, List.length_replicate, List.getElem?_append, List.getElem?_replicate]
  by_cases h1 : k = i
  · subst h1
    simp; omega
  · by_cases h2 : i < k
    · simp [h1, h2, show i < k + 1 by omega]
    · simp only [h1, h2, if_false, show ¬ i < k + 1 by omega]
      congr 1
      simp; omega
set_option maxRecDepth 20000 in
set_option maxHeartbeats 1000000 in
theorem page_any (n : Nat) (c : UInt8) (hn : n ≤ 65536) (w : World) : Calls Try.prog 10 #[.int .i64 (n : Int), .int .u8 (c.toNat : Int)] w fun e w' => ∃ g, e = .returned (.slice (some ⟨g, 0, none⟩) n n) ∧ OwB w' w.heap.size (.slice (some ⟨g, 0, none⟩) n n) (List.replicate n c) ∧ Below w.heap.size w w' := by
  go_enter Try.func10, Try.ntmps10
  go_wp2_with (first
    | (at_make; refine wp_make_B rfl (.tmp 7) (.tmp 7) rfl _ n rfl rfl (by go_num) (by omega) ?_; intro w1 hb1 hw1 hs1)
    | fail)
  go_loopw [6] (fun i wr => ∃ k : Nat, k ≤ n ∧ i = .int .i64 (k : Int) ∧ OBlk wr w.heap.size 5 (bvs (List.replicate k c ++ List.replicate (n - k) 0)) ∧ Below w.heap.size w wr) (fun i _ => n - (intOf i).toNat)
  case atStart => exact ⟨0, Nat.zero_le _, rfl, by simpa using hb1, hw1⟩
  case round =>
    clear hb1 hw1
    obtain ⟨k, hk, rfl, hb, hw⟩ := hrel
    by_cases hlt : k < n
    · have ik : (k : Int) < (n : Int) := by omega
      have hlen : (List.replicate k c ++ List.replicate (n - k) (0 : UInt8)).length = n := by simp; omega
      have hc := hb.cell' (bvs_get' _ k (by omega))
      have hf := hb.frozen (j := k) (by rw [bvs_length]; omega)
      have hset := (hb.set k (.int .u8 (c.toNat : Int)))
      rw [← bvs_set, repl_set n k c hlt] at hset
      go_wp2_with fail
      go_roundw
      case rel => exact ⟨k + 1, by omega, by go_num, hset, hw.setCell (Nat.le_refl _) _⟩
      case measure => simp [intOf]; omega
    · obtain rfl : k = n := by omega
      go_wp2_with fail
      go_ret
      rw [Nat.sub_self, List.replicate_zero, List.append_nil] at hb
      have := hb.owB' (base := w.heap.size) (Nat.le_refl _) (by simp only [List.length_replicate, maxLen]; omega)
      rw [List.length_replicate] at this
      exact ⟨_, rfl, this, hw⟩
end Go.Proofs.Ytipjngoenklioaa
