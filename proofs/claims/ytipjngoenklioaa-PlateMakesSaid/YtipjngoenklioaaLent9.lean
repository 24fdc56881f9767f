/- espalierref03.Lent, AsLent: walks. -/
import Derived.Test.YtipjngoenklioaaCopyAt
import Derived.Test.YtipjngoenklioaaStep
import Derived.Deep.QuietTactic
import Derived.BigQuiet
import Derived.Deep.DeepCutAuto
import Derived.Deep.RegionHeld3
namespace Go.Proofs.Ytipjngoenklioaa
open Go.RowKit
def mk9 (j : Nat) : List UInt8 := (List.range j).map fun (i : Nat) => UInt8.ofNat (200 + i)
theorem mk9_length (j : Nat) : (mk9 j).length = j := by simp [mk9]
theorem mk9_succ (j : Nat) : mk9 (j + 1) = mk9 j ++ [UInt8.ofNat (200 + j)] := by unfold mk9; rw [List.range_succ, List.map_append]; rfl
theorem mk9_get (j i : Nat) (h : i < j) : (mk9 j)[i]? = some (UInt8.ofNat (200 + i)) := by
  unfold mk9
  rw [List.getElem?_map, List.getElem?_range h]; rfl
def lent9 (l : List UInt8) (j : Nat) : List UInt8 := l ++ (mk9 j ++ List.replicate (9 - j) 0)
theorem lent9_length (l : List UInt8) (j : Nat) (h : j ≤ 9) : (lent9 l j).length = l.length + 9 := by simp [lent9, mk9_length]; omega
theorem lent9_set (l : List UInt8) (j : Nat) (h : j < 9) : (lent9 l j).set (l.length + j) (UInt8.ofNat (200 + j)) = lent9 l (j + 1) := by
  unfold lent9
  rw [List.set_append_right _ _ (by omega), Nat.add_sub_cancel_left]
  congr 1
  rw [List.set_append_right _ _ (by rw [mk9_length]; exact Nat.le_refl _), mk9_length, Nat.sub_self, mk9_succ, List.append_assoc]
  congr 1
  rw [show 9 - j = (9 - (j + 1)) + 1 by omega, List.replicate_succ, List.set_cons_zero]
  rfl
theorem lent9_start (l : List UInt8) : splice (List.replicate (l.length + 9) 0) 0 (l.take (min l.length (l.length + 9))) = lent9 l 0 := by
  rw [Nat.min_eq_left (by omega), List.take_length]
  unfold splice lent9
  simp [mk9, List.drop_replicate]
def marks9 : List UInt8 := mk9 9
theorem lent9_end (l : List UInt8) : lent9 l 9 = l ++ marks9 := by unfold lent9 marks9; simp
theorem b200 (j : Nat) (h : j < 9) : ((UInt8.ofNat (200 + j)).toNat : Int) = 200 + (j : Int) := by
  rw [UInt8.toNat_ofNat']
  omega
set_option maxHeartbeats 1000000 in
set_option maxRecDepth 20000 in
theorem Lent_any (v : Value) (l : List UInt8) (w : World) (hv : RdB w v l) (hl : l.length ≤ 140737488355328) :
    Calls Try.prog 21 #[v] w fun e w' => ∃ g, e = .returned (.slice (some ⟨g, 0, none⟩) l.length (l.length + 9)) ∧ OwB w' w.heap.size (.slice (some ⟨g, 0, none⟩) (l.length + 9) (l.length + 9)) (l ++ marks9) ∧ Below w.heap.size w w' := by
  obtain ⟨A, c, rfl, hm⟩ := hv.form
  go_enter Try.func21, Try.ntmps21
  go_wp2_with (first
    | (at_make; refine wp_make_B rfl (.tmp 7) (.tmp 7) rfl _ (l.length + 9) rfl rfl (by go_num) (by omega) ?_; intro w1 hb1 hw1 hs1)
    | ((with_reducible refine at_copy ?_); refine wp_copy_B rfl (.tmp 9) (.tmp 10) rfl _ (l.length + 9) _ w.heap.size 0 rfl _ hb1 (fun _ => rfl) (by simp) _ l rfl (hv.below hw1 (Nat.le_refl _)) ?_; intro w2 hb2 hg2; rw [lent9_start] at hb2)
    | fail)
  have hw2 := hw1.grown hg2 hw1.size (fun k hk => Nat.le_of_eq (Option.some.inj hk))
  clear hb1 hw1 hg2
  go_loopw [4] (fun i wr => ∃ d : Nat, d ≤ 9 ∧ i = .int .i64 ((l.length + d : Nat) : Int) ∧ OBlk wr w.heap.size 5 (bvs (lent9 l d)) ∧ Below w.heap.size w wr) (fun i _ => l.length + 9 - (intOf i).toNat)
  case atStart => exact ⟨0, by omega, rfl, hb2, hw2⟩
  case round =>
    clear hb2 hw2
    obtain ⟨d, hd, rfl, hb, hw⟩ := hrel
    by_cases hlt : d < 9
    · have hml := lent9_length l d (by omega)
      have hc := hb.cell' (bvs_get' (lent9 l d) (l.length + d) (by omega))
      have hf := hb.frozen (j := l.length + d) (by rw [bvs_length]; omega)
      have hset := hb.set (l.length + d) (.int .u8 ((UInt8.ofNat (200 + d)).toNat : Int))
      rw [← bvs_set, lent9_set l d hlt, b200 d hlt] at hset
      generalize ((lent9 l d)[l.length + d]'(by omega)).toNat = y at hc
      obtain ⟨k, hk⟩ : ∃ k, k = l.length + d := ⟨_, rfl⟩
      have e1 : (200 : Int) + (k : Int) - (l.length : Int) = 200 + (d : Int) := by omega
      have e2 : IntKind.u8.wrap (200 + (d : Int)) = 200 + (d : Int) := IntWalk.u8_in _ (by omega)
      have ik : k < l.length + 9 := by omega
      rw [← hk] at hc hf hset ⊢
      have HK := Lib.hid hk
      clear hml hk
      go_wp2_with fail
      go_roundw
      case rel => exact ⟨d + 1, by omega, by rw [HK.out]; go_num, hset, hw.setCell (Nat.le_refl _) _⟩
      case measure => have := HK.out; simp [intOf]; omega
    · obtain rfl : d = 9 := by omega
      have ho := hb.owB' (base := w.heap.size) (Nat.le_refl _) (by rw [lent9_length l 9 (by omega)]; simp only [maxLen]; omega)
      rw [lent9_length l 9 (by omega), lent9_end] at ho
      clear hb
      go_wp2_with fail
      go_ret
      exact ⟨w.heap.size, rfl, ho, hw⟩
end Go.Proofs.Ytipjngoenklioaa
