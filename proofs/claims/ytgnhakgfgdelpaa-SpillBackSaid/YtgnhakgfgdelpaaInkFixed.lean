/- ink.Fixed, ink.half, ink.Sum; espalierref01.Fixed, step, SumOf: walks. -/
import Derived.Test.YtgnhakgfgdelpaaBytes
import Derived.Outline
import Derived.Test.YtgnhakgfgdelpaaCrc
namespace Go.Proofs.Ytgnhakgfgdelpaa
open Go.RowKit

theorem ret_int {k : IntKind} {a b : Int} (h : a = b) : Ending.returned (.int k a) = .returned (.int k b) := by rw [h]

/-! ### Fixed -/
def fixedF (n : Nat) : Nat → List UInt8
  | 0 => []
  | k + 1 => fixedF (n / 256) k ++ [UInt8.ofNat n]
theorem fixedF_length (n k : Nat) : (fixedF n k).length = k := by
  induction k generalizing n with
  | zero => rfl
  | succ k ih => simp [fixedF, ih]
theorem wrap_byte (n : Nat) : IntKind.u8.wrap (n : Int) = ((UInt8.ofNat n).toNat : Int) := by rw [IntKind.wrap_u8]; simp
theorem u8_byte (n : Nat) : ((UInt8.ofNat n).toNat : Int) = (n : Int) % 256 := by simp
set_option maxHeartbeats 400000 in
theorem Fixed_bad (n : Nat) (wd : Int) (h : wd < 1 ∨ 8 < wd) (w : World) :
    Calls Try.prog 37 #[.int .u64 n, .int .i64 wd] w fun e w' => e = .returned (.slice none 0 0) ∧ w = w' := by
  by_cases h1 : wd < 1
  · go_enter Try.func37, Try.ntmps37
    go_wp2
    go_ret
    exact ⟨rfl, rfl⟩
  · have h2 : 8 < wd := by omega
    go_enter Try.func37, Try.ntmps37
    go_wp2
    go_ret
    exact ⟨rfl, rfl⟩

set_option maxHeartbeats 400000 in
theorem Fixed_any (n : Nat) (hn : n < 18446744073709551616) (wd : Nat) (h1 : 1 ≤ wd) (h8 : wd ≤ 8) (w : World) :
    Calls Try.prog 37 #[.int .u64 n, .int .i64 wd] w fun e w' => e = .returned (.slice (some ⟨w.heap.size, 0, none⟩) wd wd) ∧ OBlk w' w.heap.size 5 (bvs (fixedF n wd)) ∧ Below w.heap.size w w' ∧ w'.heap.size = w.heap.size + 1 := by
  go_enter Try.func37, Try.ntmps37
  go_wp2_with (first | (at_make; refine wp_make_B rfl (.tmp 13) (.tmp 13) rfl _ wd rfl rfl rfl (by omega) ?_; intro w1 hb1 hw1 hs1))
  go_loopw [0, 6] (fun m i wr => ∃ (k m' : Nat) (t : List UInt8), i = .int .i64 ((k : Int) - 1) ∧ m = .int .u64 m' ∧ k ≤ wd ∧ m' < 18446744073709551616 ∧ fixedF n wd = fixedF m' k ++ t ∧ OBlk wr w.heap.size 5 (bvs (List.replicate k 0 ++ t)) ∧ Below w.heap.size w wr ∧ wr.heap.size = w.heap.size + 1)
    (fun _ i _ => (intOf i + 1).toNat)
  case atStart => exact ⟨wd, n, [], rfl, rfl, Nat.le_refl _, hn, by simp, by simpa using hb1, hw1, hs1⟩
  case round =>
    obtain ⟨k, m', t, rfl, rfl, hk, hm', ht, hb, hw, hs⟩ := hrel
    rcases Nat.eq_zero_or_pos k with rfl | hpos
    · go_wp2
      go_ret
      simp only [fixedF, List.nil_append, List.replicate_zero] at ht hb
      rw [← ht] at hb
      exact ⟨rfl, hb, hw, hs⟩
    · obtain ⟨k', rfl⟩ : ∃ k', k = k' + 1 := ⟨k - 1, by omega⟩
      have e1 : ((k' + 1 : Nat) : Int) - 1 = (k' : Int) := by omega
      rw [e1]
      have hc : wr.cell? ⟨w.heap.size, k', none⟩ = some (.int .u8 0) := by
        refine hb.cell' ?_
        rw [bvs_append, bvs_replicate, List.getElem?_append_left (by simp)]
        simp
      have hf : wr.frozen? ⟨w.heap.size, k', none⟩ = false := hb.frozen (by simp [bvs_length]; omega)
      have b1 : (0 : Int) ≤ (k' : Int) := by omega
      have b2 : (k' : Int) < (wd : Int) := by omega
      go_wp2
      go_roundw
      case rel =>
        refine ⟨k', m' / 256, UInt8.ofNat m' :: t, rfl, by go_num, by omega, by omega, by rw [ht]; simp [fixedF], ?_, hw.setCell (Nat.le_refl _) _, by simpa using hs⟩
        have := hb.set k' (.int .u8 ((m' : Int) % 256))
        rw [← u8_byte, ← bvs_set] at this
        rw [← u8_byte]
        have e : (List.replicate (k' + 1) (0 : UInt8) ++ t).set k' (UInt8.ofNat m') = List.replicate k' 0 ++ UInt8.ofNat m' :: t := by
          rw [List.replicate_succ', List.append_assoc, List.set_append_right _ _ (by simp)]
          simp
        rw [← e]; exact this
      case measure => simp [intOf]

theorem Fixed_4 (n : Nat) (hn : n < 18446744073709551616) (w : World) :
    Calls Try.prog 37 #[.int .u64 n, .int .i64 4] w fun e w' => e = .returned (.slice (some ⟨w.heap.size, 0, none⟩) 4 4) ∧ OBlk w' w.heap.size 5 (bvs (fixedF n 4)) ∧ Below w.heap.size w w' ∧ w'.heap.size = w.heap.size + 1 :=
  Fixed_any n hn 4 (by omega) (by omega) w
end Go.Proofs.Ytgnhakgfgdelpaa
