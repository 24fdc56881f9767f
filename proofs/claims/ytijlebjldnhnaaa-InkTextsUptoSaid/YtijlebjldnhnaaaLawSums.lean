/- espalierlaw01.InkSums: the walk. -/
import Derived.Test.YtijlebjldnhnaaaLawLentL
import Derived.Deep.RegionHeld3
namespace Go.Proofs.Ytijlebjldnhnaaa
open Go.RowKit
theorem flat_le (ls : List (List UInt8)) : ls.flatten.length ≤ bulkL ls := by
  induction ls with
  | nil => simp [bulkL]
  | cons l r ih => simp [bulkL] at ih ⊢; omega
theorem bulkL_len (ls : List (List UInt8)) : ls.length ≤ bulkL ls := by
  induction ls with
  | nil => simp [bulkL]
  | cons l r ih => simp [bulkL] at ih ⊢; omega
theorem bulkL_mem {ls : List (List UInt8)} {k : Nat} (h : k < ls.length) : ls[k].length ≤ bulkL ls := by
  have h1 := bulkL_snoc ls k h
  have h2 := bulkL_le ls (k + 1)
  omega
set_option maxRecDepth 100000 in
set_option maxHeartbeats 8000000 in
theorem sums_any (v : Value) (ls : List (List UInt8)) (w : World) (hv : RdL w v ls) (hsz : ∀ l ∈ ls, l.length ≤ 140737488351232) :
    Calls Try.prog 11 #[v] w fun e w' => e = .returned (.bool true) ∧ Below w.heap.size w w' := by
  obtain ⟨A, c, rfl, hm⟩ := hv.form
  go_enter Try.func11, Try.ntmps11
  go_wp2_with fail
  refine (Great_any _ ls _ hv (fun l hl => by have := hsz l hl; omega)).mono ?_
  rintro e w0 ⟨⟨N, rfl, hN⟩, rfl⟩
  by_cases hg : (1000000 : Int) < (N : Int)
  · rw [decide_eq_true hg]
    go_wp2_with fail
    go_ret
    exact ⟨rfl, Below.refl _ _⟩
  rw [decide_eq_false hg]
  have hbulk : bulkL ls ≤ 1000000 := hN (by omega)
  clear hN hg
  go_wp2_with fail
  refine (live_any _).mono ?_
  rintro e w1 ⟨rfl, hb⟩
  go_wp2_with fail
  have hlen := bulkL_len ls
  have hflat := flat_le ls
  go_loopw [5, 6, 7] (fun got av i wr => ∃ (k : Nat) (vs : List Value), i = .int .i64 (k : Int) ∧ k ≤ ls.length ∧ LentI w ls k got vs wr ∧ OwB wr w.heap.size av (ls.take k).flatten)
    (fun _ _ i _ => ls.length - (intOf i).toNat)
  case atStart => exact ⟨0, [], rfl, Nat.zero_le _, ⟨rfl, Own.nil _ _ _ _, fun j u h => by simp at h, fun i j u u' _ h => by simp at h, hb⟩, OwB.nil _ _⟩
  case round =>
    clear hb
    obtain ⟨k, vs, rfl, hk, hI, ha⟩ := hrel
    by_cases hlt : k < ls.length
    · obtain ⟨ad, A2, c2, rfl, hcell, hr⟩ := (hv.below hI.hb (Nat.le_refl _)).at_ hlt
      have hml := bulkL_mem hlt
      have hfl := flat_snoc ls k hlt
      have HF := Lib.hid hfl
      have hvl : vs.length + 1 ≤ 1000000 := by rw [hI.len]; omega
      have hgd : Hid (ls.getD k [] = ls[k]) := Lib.hid (by simp [List.getD, hlt])
      have hcell2 : Hid (∀ w', Below w.heap.size w w' → ∃ A3 c3, w'.cell? (ad.add k) = some (.slice A3 ls[k].length c3) ∧ RdB w' (.slice A3 ls[k].length c3) ls[k]) := Lib.hid fun w' hb' => by
        obtain ⟨ad', A3, c3, e, h1, h2⟩ := (hv.below hb' (Nat.le_refl _)).at_ hlt
        injection e with e
        subst e
        exact ⟨A3, c3, h1, h2⟩
      have hfk : ((ls.take k).flatten).length + ls[k].length ≤ 140737488355328 := by
        have h1 := flat_le (ls.take (k + 1))
        rw [hfl, List.length_append] at h1
        have h2 := bulkL_le ls (k + 1)
        omega
      clear hfl
      generalize ls[k] = l at *
      obtain ⟨G, cG, rfl⟩ := hI.own.slice
      go_wp2_with fail
      refine (Lent_any _ l _ hr (by omega)).mono ?_
      rintro e w2 ⟨g, rfl, ol, hw⟩
      have hI2 := hI.below hw
      have hl2 : LentAt w2 wr.heap.size (.slice (some ⟨g, 0, none⟩) l.length (l.length + 3)) (ls.getD k []) := by rw [hgd.out]; exact ⟨g, rfl, ol⟩
      have ha2 := ha.below' hw (Nat.le_refl _)
      have hvs := hI.len
      have HV := Lib.hid hvs
      clear hvs
      go_wp2_with (first
        | (at_builtin; refine wp_append_L1 rfl (.tmp 29) (.tmp 31) rfl w.heap.size _ vs rfl hI2.own _ rfl 24 rfl (by omega) hI2.hb.size ?_; intro got3 w3 hg3 hgr3 _; have hI3 := hI.push hw hl2 hg3 hgr3; obtain ⟨A3, c3, hc3, hr3⟩ := hcell2.out _ hI3.hb; have ha3 := ha2.grown hgr3 (fun g hg he => ha2.ne_own hI2.own he.symm hg.symm))
        | fail)
      refine (both_any _ _ _ l _ ha3.rd hr3 hfk).mono ?_
      rintro e w4 ⟨v4, rfl, o4, hw4⟩
      go_wp2_with fail
      go_roundw
      case rel => exact ⟨k + 1, _, by go_num, by omega, hI3.below hw4, by rw [HF.out]; exact o4.low hI3.hb.size⟩
      case measure => simp [intOf]; omega
    · obtain rfl : k = ls.length := by omega
      rw [List.take_length] at ha
      have hs32 := sumF_lt ls.flatten
      have HS : Hid (sumF ls.flatten = sumF ls.flatten) := Lib.hid rfl
      obtain ⟨fl, hfl⟩ : ∃ fl, fl = ls.flatten := ⟨_, rfl⟩
      rw [← hfl] at ha hs32
      have HFL := Lib.hid hfl
      clear hfl HS
      obtain ⟨Af, cf, rfl⟩ := ha.sl
      obtain ⟨G, cG, rfl⟩ := hI.own.slice
      have hvs := hI.len
      rw [hvs]
      have HV := Lib.hid hvs
      clear hvs
      have hrl := hI.rdL
      rw [HV.out] at hrl
      go_wp2_with fail
      refine (Sum_any _ ls _ hrl).mono ?_
      rintro e w2 ⟨rfl, hw⟩
      rw [← HFL.out]
      replace hI := hI.below hw
      replace ha := ha.below' hw (Nat.le_refl _)
      clear hw hrl
      go_wp2_with fail
      refine (RSum_any _ ls _ (hv.below hI.hb (Nat.le_refl _))).mono ?_
      rintro e w3 ⟨rfl, rfl⟩
      rw [← HFL.out]
      go_wp2_with fail
      refine (Sum_one _ fl _ ha.rd).mono ?_
      rintro e w4 ⟨rfl, hw⟩
      replace hI := hI.below hw
      clear hw ha
      have hL := hI.look
      clear hI
      generalize sumF fl = S at *
      go_wp2_with fail
      go_loopw [12] (fun i wr => ∃ j : Nat, i = .int .i64 (j : Int) ∧ j ≤ ls.length ∧ LookI w ls j (.slice G ls.length cG) vs wr)
        (fun i _ => ls.length - (intOf i).toNat)
      case atStart => exact ⟨0, rfl, Nat.zero_le _, by have h := hL; rw [HV.out] at h; exact h⟩
      case round =>
        clear hL
        obtain ⟨j, rfl, hj, hL⟩ := hrel
        by_cases hlt : j < ls.length
        · obtain ⟨ad, A2, c2, rfl, hcell, hr⟩ := (hv.below hL.hb (Nat.le_refl _)).at_ hlt
          have hju : vs[j]? = some (vs[j]'(by rw [HV.out]; exact hlt)) := List.getElem?_eq_getElem _
          have hel := hL.el j _ (Nat.le_refl _) hju
          obtain ⟨gG, rfl⟩ : ∃ gG, G = some ⟨gG, 0, none⟩ := by
            rcases hL.own.form with ⟨h, h0⟩ | ⟨g, c, h, _⟩
            · rw [HV.out] at h0; omega
            · injection h with h; exact ⟨g, h⟩
          have hown := hL.own
          rw [HV.out] at hown
          have hcG := hown.cells j _ hju
          have hgd : ls.getD j [] = ls[j] := by simp [List.getD, hlt]
          rw [hgd] at hel
          obtain ⟨g, hu, ho⟩ := hel
          have hub : (vs[j]'(by rw [HV.out]; exact hlt)).ownBlock = some g := by rw [hu]; rfl
          rw [hu] at hcG
          have hml := bulkL_mem hlt
          have i1 : (j : Int) < (ls.length : Int) := by omega
          have HU := Lib.hid hju
          have HB := Lib.hid hub
          have HC : Hid (∀ w', LookI w ls (j + 1) (.slice (some ⟨gG, 0, none⟩) ls.length cG) vs w' → w'.cell? ⟨gG, j, none⟩ = some (.slice (some ⟨g, 0, none⟩) ls[j].length (ls[j].length + 3)) ∧ w'.cell? (ad.add j) = some (.slice A2 ls[j].length c2)) := Lib.hid fun w' h => by
            have h1 := h.own
            rw [HV.out] at h1
            have h2 := h1.cells j _ hju
            rw [hu] at h2
            have hlt2 : (ad.add j).block < w.heap.size := by
              obtain ⟨ad', _, _, e, hc', _⟩ := hv.at_ hlt
              injection e with e
              subst e
              exact block_lt_of_cell hc'
            refine ⟨h2, ?_⟩
            rw [h.hb.cell hlt2, ← hL.hb.cell hlt2]
            exact hcell
          clear hju hub hu hgd hown
          generalize ls[j] = l at *
          go_upto_region 19 with (fail)
          go_region_held3 (fun w' => w'.cell? ⟨gG, j, none⟩ = some (.slice (some ⟨g, 0, none⟩) l.length (l.length + 3)) ∧ w'.cell? (ad.add j) = some (.slice A2 l.length c2))
            (first | exact ⟨hcG, hcell⟩ | exact HC.out _ hL7 | go_keep)
            (first
              | (go_at_call 27; refine (AsLent_any g l.length _ l _ _ rfl ho.drew hr.drew (by omega)).mono ?_; rintro e w7 ⟨rfl, hg7⟩; have hL7 := hL.step HU.out HB.out hg7)
              | fail)
          go_wp2_with fail
          go_roundw
          case rel => exact ⟨j + 1, by go_num, by omega, hL7⟩
          case measure => simp [intOf]; omega
        · obtain rfl : j = ls.length := by omega
          go_wp2_with fail
          go_ret
          exact ⟨rfl, hL.hb⟩
end Go.Proofs.Ytijlebjldnhnaaa
