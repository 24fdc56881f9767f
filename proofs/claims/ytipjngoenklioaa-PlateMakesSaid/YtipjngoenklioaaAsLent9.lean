/- espalierref03.AsLent: the walk. -/
import Derived.Test.YtipjngoenklioaaLent9
import Derived.Test.YtipjngoenklioaaCut
namespace Go.Proofs.Ytipjngoenklioaa
open Go.RowKit
def as9 (l : List UInt8) (k : Nat) : List UInt8 := List.replicate k 77 ++ (l ++ marks9).drop k
theorem as9_length (l : List UInt8) (k : Nat) (h : k ≤ l.length + 9) : (as9 l k).length = l.length + 9 := by simp [as9, marks9, mk9_length]; omega
theorem as9_set (l : List UInt8) (k : Nat) (h : k < l.length + 9) : (as9 l k).set k 77 = as9 l (k + 1) := by
  have hl : (l ++ marks9).length = l.length + 9 := by simp [marks9, mk9_length]
  unfold as9
  rw [List.set_append_right _ _ (by simp), List.length_replicate, Nat.sub_self, List.drop_eq_getElem_cons (by omega), List.set_cons_zero, List.replicate_succ', List.append_assoc]
  rfl
theorem as9_get (l : List UInt8) (d : Nat) (h : d < 9) : (as9 l (l.length + d))[l.length + d]? = some (UInt8.ofNat (200 + d)) := by
  unfold as9
  rw [List.getElem?_append_right (by simp), List.length_replicate, Nat.sub_self, List.getElem?_drop, Nat.add_zero, List.getElem?_append_right (by omega), Nat.add_sub_cancel_left]
  exact mk9_get 9 d h
theorem OwB.part' {w : World} {base g n k c : Nat} {x s : List UInt8} (h : OwB w base (.slice (some ⟨g, 0, none⟩) (n + k) c) (x ++ s)) (hx : x.length = n) : RdB w (.slice (some ⟨g, 0, none⟩) n c) x := by
  subst hx
  have := (h.take (m := x.length) (by omega)).rd
  rw [List.take_left] at this
  exact this
set_option maxHeartbeats 2000000 in
set_option maxRecDepth 20000 in
theorem AsLent_any (g n : Nat) (vb : Value) (l : List UInt8) (base : Nat) (w : World) (hn : l.length = n) (ho : OwB w base (.slice (some ⟨g, 0, none⟩) (n + 9) (n + 9)) (l ++ marks9)) (hv : RdB w vb l) (hl : n ≤ 140737488355328) :
    Calls Try.prog 23 #[.slice (some ⟨g, 0, none⟩) n (n + 9), vb] w fun e w' => e = .returned (.bool true) ∧ w.grownBy w' (some g) := by
  subst hn
  obtain ⟨A, c, rfl, hm⟩ := hv.form
  have q1 := run_B_string hv
  have q2 := run_B_string (ho.part' rfl)
  go_enter Try.func23, Try.ntmps23
  go_wp2_with fail
  clear q1 q2
  go_loopw [6, 7] (fun gd i wr => ∃ k : Nat, gd = .bool true ∧ i = .int .i64 (k : Int) ∧ k ≤ l.length + 9 ∧ OwB wr base (.slice (some ⟨g, 0, none⟩) (l.length + 9) (l.length + 9)) (as9 l k) ∧ w.grownBy wr (some g)) (fun _ i _ => l.length + 9 - (intOf i).toNat)
  case atStart => exact ⟨0, rfl, rfl, Nat.zero_le _, by simpa [as9] using ho, World.grownBy.refl w _⟩
  case round =>
    clear ho hv
    obtain ⟨k, rfl, rfl, hk, ho, hg⟩ := hrel
    by_cases hlt : k < l.length + 9
    · have hml := as9_length l k hk
      have hc := ho.cell (j := k) (by omega)
      have hf := ho.frozen (j := k) (by omega)
      have hset := ho.set k 77
      rw [as9_set l k hlt] at hset
      have hset' : OwB (wr.setCell ⟨g, k, none⟩ (.int .u8 77)) base (.slice (some ⟨g, 0, none⟩) (l.length + 9) (l.length + 9)) (as9 l (k + 1)) := hset
      have ik : (k : Int) < ((l.length + 9 : Nat) : Int) := by omega
      have ik2 : k < l.length + 9 := hlt
      by_cases hd : k < l.length
      · have id : (k : Int) < (l.length : Int) := by omega
        have id2 : ¬ (l.length : Int) ≤ (k : Int) := by omega
        generalize ((as9 l k)[k]'(by omega)).toNat = y at hc
        clear hml hset
        go_wp2_with fail
        go_roundw
        case rel => exact ⟨k + 1, rfl, by go_num, by omega, hset', grownBy_trans hg (grownBy_setCell _ _ _)⟩
        case measure => simp [intOf]; omega
      · obtain ⟨d, hd2⟩ : ∃ d, k = l.length + d := ⟨k - l.length, by omega⟩
        have hd9 : d < 9 := by omega
        have e0 : (as9 l k)[k]'(by omega) = UInt8.ofNat (200 + d) := by
          have := as9_get l d hd9
          rw [← hd2, List.getElem?_eq_getElem (by omega)] at this
          exact Option.some.inj this
        rw [e0, b200 d hd9] at hc
        have e1 : (200 : Int) + (k : Int) - (l.length : Int) = 200 + (d : Int) := by omega
        have e2 : IntKind.u8.wrap (200 + (d : Int)) = 200 + (d : Int) := IntWalk.u8_in _ (by omega)
        have id : (l.length : Int) ≤ (k : Int) := by omega
        clear hml hset e0 hd2 hd
        go_wp2_with fail
        go_roundw
        case rel => exact ⟨k + 1, rfl, by go_num, by omega, hset', grownBy_trans hg (grownBy_setCell _ _ _)⟩
        case measure => simp [intOf]; omega
    · obtain rfl : k = l.length + 9 := by omega
      go_wp2_with fail
      go_ret
      exact ⟨rfl, hg⟩
end Go.Proofs.Ytipjngoenklioaa
