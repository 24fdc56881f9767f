/- ink.Common: the walk. -/
import Derived.Test.YtijlebjldnhnaaaInkCommon
namespace Go.Proofs.Ytijlebjldnhnaaa
open Go.RowKit
def comLs : List (List UInt8) → Nat
  | [] => 0
  | t :: r => r.foldl (fun n x => min n (comF t x)) t.length
theorem L_elem : Try.prog.underlying 44 = some (.slice (Try.prog.elem 44)) := by kernel_rfl
theorem L_sizeOf (w : World) : (sizeOf (Try.prog.elem 44)).run Try.prog w = .ok 1 w := by
  have he : Try.prog.elem 44 = 24 := by kernel_rfl
  rw [he]
  obtain ⟨i, hi, hz0, hz1, hz2⟩ := info_parts L_info
  simp [sizeOf, typeInfo, hi, hz1]
/-- x[lo:] of slices that are read. -/
theorem RdL.run_l {w : World} {A : Option Addr} {n c : Nat} {ls : List (List UInt8)} (h : RdL w (.slice A n c) ls) (lo : Nat) (h1 : lo ≤ ls.length) :
    ∃ A' c', (∀ w', (Instr.slice 44 (.slice A n c) (some (.int .i64 (lo : Int))) none none).run Try.prog w' = .ok (.slice A' (ls.length - lo) c') w') ∧ RdL w (.slice A' (ls.length - lo) c') (ls.drop lo) := by
  obtain ⟨vs, ⟨h0, A0, c0, hv, h2, h3, h4⟩, h5, h6⟩ := h
  injection hv with hA hn hc
  subst hA; subst hc; subst hn
  have hle : lo ≤ vs.length := by omega
  refine ⟨_, _, fun w' => ?_, vs.drop lo, ⟨by simp, (if c = lo then A else A.map (·.add lo)), c - lo, by rw [List.length_drop, ← h5], by simp; omega, by omega, fun j u hj => ?_⟩, by simp; omega, fun i hi => ?_⟩
  · have := run_slice_l (P := Try.prog) w' 44 A vs.length c L_elem .i64 lo (by omega) (by omega)
    rw [this, L_sizeOf, ← h5]
    simp [Result.andThen, sliced]
  · rw [List.getElem?_drop] at hj
    obtain ⟨ad, rfl, hcell⟩ := h4 _ _ hj
    have hlt := (List.getElem?_eq_some_iff.mp hj).1
    rw [if_neg (by omega)]
    exact ⟨ad.add lo, rfl, by rw [add_of_add]; exact hcell⟩
  · have hi' : lo + i < ls.length := by simp at hi; omega
    obtain ⟨u, hu, hr⟩ := h6 (lo + i) hi'
    refine ⟨u, by rw [List.getElem?_drop]; exact hu, ?_⟩
    rw [List.getElem_drop]
    exact hr
set_option maxRecDepth 20000 in
set_option maxHeartbeats 2000000 in
theorem Common_any (v : Value) (ls : List (List UInt8)) (w : World) (hv : RdL w v ls) : Calls Try.prog 32 #[v] w fun e w' => e = .returned (.int .i64 (comLs ls : Nat)) ∧ Below w.heap.size w w' := by
  obtain ⟨A, c, rfl, hm⟩ := hv.form
  cases ls with
  | nil =>
    go_enter Try.func32, Try.ntmps32
    go_wp2_with fail
    go_ret
    exact ⟨rfl, Below.refl _ _⟩
  | cons t r =>
    obtain ⟨ad, A0, c0, rfl, hc0, hr0⟩ := hv.at_ (k := 0) (by simp)
    have htl : t.length ≤ 9223372036854775807 := hr0.le
    have hc0 : w.cell? ad = some (.slice A0 t.length c0) := by simpa [Addr.add] using hc0
    have hr0 : RdB w (.slice A0 t.length c0) t := hr0
    obtain ⟨A1, c1, q1, hr1⟩ := hv.run_l 1 (by simp)
    have q1 : ∀ w', (Instr.slice 44 (.slice (some ad) (t :: r).length c) (some (.int .i64 1)) none none).run Try.prog w' = .ok (.slice A1 r.length c1) w' := fun w' => q1 w'
    have hr1 : RdL w (.slice A1 r.length c1) r := hr1
    have hrl : r.length + 1 ≤ 9223372036854775807 := by simpa using hm
    have hL : (t :: r).length = r.length + 1 := rfl
    rw [hL] at q1 hv hm ⊢
    have e0 : (((r.length : Int) + 1) == 0) = false := by simp; omega
    have i0 : (0 : Int) < (r.length : Int) + 1 := by omega
    clear hL
    go_enter Try.func32, Try.ntmps32
    go_wp2_with fail
    clear q1
    go_loopw [3, 16] (fun n i wr => ∃ j N : Nat, i = .int .i64 (j : Int) ∧ n = .int .i64 (N : Int) ∧ j ≤ r.length ∧ Hid (N = (r.take j).foldl (fun n x => min n (comF t x)) t.length) ∧ Below w.heap.size w wr)
      (fun _ i _ => r.length - (intOf i).toNat)
    case atStart => exact ⟨0, t.length, rfl, rfl, Nat.zero_le _, Lib.hid rfl, Below.refl _ _⟩
    case round =>
      obtain ⟨j, N, rfl, rfl, hj, HN, hb⟩ := hrel
      have hc0' : wr.cell? ad = some (.slice A0 t.length c0) := by
        obtain ⟨ad', A0', c0', e, h, _⟩ := (hv.below hb (Nat.le_refl _)).at_ (k := 0) (by simp)
        have hlt : ad.block < w.heap.size := block_lt_of_cell hc0
        rw [hb.cell hlt]; exact hc0
      by_cases hlt : j < r.length
      · obtain ⟨ad1, A2, c2, rfl, hcx, hrx⟩ := hr1.at_ hlt
        have hcx' : wr.cell? (ad1.add j) = some (.slice A2 r[j].length c2) := by
          have hlt' : (ad1.add j).block < w.heap.size := block_lt_of_cell hcx
          rw [hb.cell hlt']; exact hcx
        have HF : Hid ((r.take (j + 1)).foldl (fun n x => min n (comF t x)) t.length = min N (comF t r[j])) := Lib.hid (by
          rw [← List.take_append_getElem hlt, List.foldl_append, ← HN.out]; rfl)
        have hxl := hrx.le
        clear hcx
        generalize r[j] = x at *
        have i1 : (j : Int) < (r.length : Int) := by omega
        rcases (by omega : (N : Int) ≤ (comF t x : Int) ∨ (comF t x : Int) < (N : Int)) with hle | hle
        · go_wp2_with fail
          refine (common_any _ _ t x _ (hr0.below hb (Nat.le_refl _)) (hrx.below hb (Nat.le_refl _))).mono ?_
          rintro e w2 ⟨rfl, hw2⟩
          have hb2 := hb.trans (hw2.mono hb.size)
          go_wp2_with fail
          go_roundw
          case rel => exact ⟨j + 1, N, by go_num, rfl, by omega, Lib.hid (by rw [HF.out]; omega), hb2⟩
          case measure => simp [intOf]; omega
        · go_wp2_with fail
          refine (common_any _ _ t x _ (hr0.below hb (Nat.le_refl _)) (hrx.below hb (Nat.le_refl _))).mono ?_
          rintro e w2 ⟨rfl, hw2⟩
          have hb2 := hb.trans (hw2.mono hb.size)
          go_wp2_with fail
          go_roundw
          case rel => exact ⟨j + 1, comF t x, by go_num, rfl, by omega, Lib.hid (by rw [HF.out]; omega), hb2⟩
          case measure => simp [intOf]; omega
      · obtain rfl : j = r.length := by omega
        have HC : Hid (comLs (t :: r) = N) := Lib.hid (by rw [HN.out, List.take_length]; rfl)
        go_wp2_with fail
        go_ret
        rw [HC.out]
        exact ⟨rfl, hb⟩
end Go.Proofs.Ytijlebjldnhnaaa
