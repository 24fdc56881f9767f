/- espalierref01.Common: the walk. -/
import Derived.Test.YtijlebjldnhnaaaInkRefTxt2
import Derived.Deep.DeepCutAuto
import Derived.Deep.RegionHeld3
namespace Go.Proofs.Ytijlebjldnhnaaa
open Go.RowKit
set_option maxRecDepth 20000 in
set_option maxHeartbeats 4000000 in
theorem RCommon_any (v : Value) (ls : List (List UInt8)) (w : World) (hv : RdL w v ls) : Calls Try.prog 33 #[v] w fun e w' => e = .returned (.int .i64 (comLs ls : Nat)) ∧ Below w.heap.size w w' := by
  obtain ⟨A, c, rfl, hm⟩ := hv.form
  cases ls with
  | nil =>
    go_enter Try.func33, Try.ntmps33
    go_wp2_with fail
    go_ret
    exact ⟨rfl, Below.refl _ _⟩
  | cons t r =>
    obtain ⟨ad, A0, c0, rfl, hc0, hr0⟩ := hv.at_ (k := 0) (by simp)
    have htl : t.length ≤ 9223372036854775807 := hr0.le
    have hc0 : w.cell? ad = some (.slice A0 t.length c0) := by simpa [Addr.add] using hc0
    have hr0 : RdB w (.slice A0 t.length c0) t := hr0
    have hrl : r.length + 1 ≤ 9223372036854775807 := by simpa using hm
    have hL : (t :: r).length = r.length + 1 := rfl
    have HX : Hid (∀ j (h : j < r.length), ∃ A2 c2, w.cell? (ad.add (j + 1)) = some (.slice A2 r[j].length c2) ∧ RdB w (.slice A2 r[j].length c2) r[j]) := Lib.hid fun j h => by
      obtain ⟨ad', A2, c2, e, h1, h2⟩ := hv.at_ (k := j + 1) (by simp; omega)
      injection e with e
      subst e
      exact ⟨A2, c2, h1, h2⟩
    rw [hL] at hm ⊢
    obtain ⟨L, hL1⟩ : ∃ L, L = r.length + 1 := ⟨_, rfl⟩
    have HL := Lib.hid hL1
    rw [← hL1] at hm ⊢
    have e0 : ((L : Int) == 0) = false := by simp; omega
    have i0 : (0 : Int) < (L : Int) := by omega
    have i00 : 0 < L := by omega
    clear hL hv hrl hL1
    go_enter Try.func33, Try.ntmps33
    go_wp2_with fail
    go_loopw [3, 4, 5] (fun n i u wr => ∃ j J N : Nat, i = .int .i64 (J : Int) ∧ n = .int .i64 (N : Int) ∧ Hid (J = j + 1) ∧ J ≤ L ∧ N ≤ t.length ∧ Hid (N = (r.take j).foldl (fun n x => min n (comF t x)) t.length) ∧ Below w.heap.size w wr)
      (fun _ i _ _ => L - (intOf i).toNat)
    case atStart => exact ⟨0, 1, t.length, rfl, rfl, Lib.hid rfl, by omega, Nat.le_refl _, Lib.hid rfl, Below.refl _ _⟩
    case round =>
      obtain ⟨j, J, N, rfl, rfl, HJ, hJ, hNt, HN, hb⟩ := hrel
      by_cases hltJ : J < L
      · have hlt : j < r.length := by have := HJ.out; have := HL.out; omega
        obtain ⟨A2, c2, hcx, hrx⟩ := HX.out j hlt
        have HF : Hid ((r.take (j + 1)).foldl (fun n x => min n (comF t x)) t.length = min N (comF t r[j])) := Lib.hid (by
          rw [← List.take_append_getElem hlt, List.foldl_append, ← HN.out]; rfl)
        have hxl := hrx.le
        have HC : Hid (∀ w', Below w.heap.size w w' → w'.cell? (ad.add J) = some (.slice A2 r[j].length c2) ∧ w'.cell? ad = some (.slice A0 t.length c0)) := Lib.hid fun w' hb' => by
          have l1 : (ad.add (j + 1)).block < w.heap.size := block_lt_of_cell hcx
          have l2 : ad.block < w.heap.size := block_lt_of_cell hc0
          rw [HJ.out]
          exact ⟨(hb'.cell l1).trans hcx, by rw [hb'.cell l2]; exact hc0⟩
        clear hcx
        generalize r[j] = x at *
        have i1 : (J : Int) < (L : Int) := by omega
        clear hlt
        go_wp2_with fail
        go_loopw [3, 5] (fun n u wr => ∃ M : Nat, n = .int .i64 (M : Int) ∧ M ≤ N ∧ Hid (min M (comF t x) = min N (comF t x)) ∧ Below w.heap.size w wr)
          (fun n _ _ => (intOf n).toNat)
        case atStart => exact ⟨N, rfl, Nat.le_refl _, Lib.hid rfl, hb⟩
        case round =>
          clear hb
          obtain ⟨M, rfl, hMN, HM, hb⟩ := hrel
          rcases Nat.eq_zero_or_pos M with h0 | h0
          · subst h0
            have HF2 := Lib.hid (show 0 = (r.take (j + 1)).foldl (fun n x => min n (comF t x)) t.length by rw [HF.out, ← HM.out]; simp)
            go_wp2_with fail
            go_roundw
            case rel => exact ⟨j + 1, J + 1, 0, by go_num, rfl, Lib.hid (by rw [HJ.out]), by omega, Nat.zero_le _, HF2, hb⟩
            case measure => simp [intOf]; omega
          · obtain ⟨hcx, hct⟩ := HC.out _ hb.drew
            have hM0 : (0 : Int) < (M : Int) := by omega
            rcases Nat.lt_or_ge (comF t x) M with hlt3 | hge3
            · have HV : Hid (bgB x t M = false) := by show _ = _; unfold bgB; exact decide_eq_false (by omega)
              have HM2 : Hid (min (M - 1) (comF t x) = min N (comF t x)) := Lib.hid (by rw [← HM.out]; omega)
              go_upto_region 8 with (fail)
              go_region_held3 (fun w' => w'.cell? (ad.add J) = some (.slice A2 x.length c2) ∧ w'.cell? ad = some (.slice A0 t.length c0))
                (first | exact ⟨hcx, hct⟩ | exact HC.out _ hb7 | go_keep)
                (first
                  | (go_at_call 44; refine (begins_any _ _ x t M _ (hrx.below hb.drew (Nat.le_refl _)) (hr0.below hb.drew (Nat.le_refl _)) (by omega)).mono ?_; rintro e w7 ⟨rfl, hw7⟩; rw [HV.out]; have hb7 := hb.drew.trans (hw7.mono hb.drew.size))
                  | fail)
              go_wp2_with fail
              go_roundw
              case rel => exact ⟨M - 1, by go_num, by omega, HM2, hb7⟩
              case measure => simp [intOf]; omega
            · have HV : Hid (bgB x t M = true) := by show _ = _; unfold bgB; exact decide_eq_true hge3
              have HF2 := Lib.hid (show M = (r.take (j + 1)).foldl (fun n x => min n (comF t x)) t.length by rw [HF.out, ← HM.out]; omega)
              go_upto_region 8 with (fail)
              go_region_held3 (fun w' => w'.cell? (ad.add J) = some (.slice A2 x.length c2) ∧ w'.cell? ad = some (.slice A0 t.length c0))
                (first | exact ⟨hcx, hct⟩ | exact HC.out _ hb7 | go_keep)
                (first
                  | (go_at_call 44; refine (begins_any _ _ x t M _ (hrx.below hb.drew (Nat.le_refl _)) (hr0.below hb.drew (Nat.le_refl _)) (by omega)).mono ?_; rintro e w7 ⟨rfl, hw7⟩; rw [HV.out]; have hb7 := hb.drew.trans (hw7.mono hb.drew.size))
                  | fail)
              go_wp2_with fail
              go_roundw
              case rel => exact ⟨j + 1, J + 1, M, by go_num, rfl, Lib.hid (by rw [HJ.out]), by omega, by omega, HF2, hb7⟩
              case measure => simp [intOf]; omega
      · obtain rfl : j = r.length := by have := HJ.out; have := HL.out; omega
        have HC : Hid (comLs (t :: r) = N) := Lib.hid (by rw [HN.out, List.take_length]; rfl)
        go_wp2_with fail
        go_ret
        rw [HC.out]
        exact ⟨rfl, hb⟩
end Go.Proofs.Ytijlebjldnhnaaa
