/- slices.Index, Contains for integers; spill.Pages; the document's Pages. -/
import Derived.Test.YtgnhakgfgdelpaaSpDec
import Derived.Test.YtgnhakgfgdelpaaInts
namespace Go.Proofs.Ytgnhakgfgdelpaa
open Go.RowKit
/-- Where x stands first. -/
def idxF (l : List Int) (x : Int) : Int := match l.findIdx? (· == x) with | some k => (k : Int) | none => -1
theorem idxF_none {l : List Int} {x : Int} (h : x ∉ l) : idxF l x = -1 := by
  unfold idxF
  have : l.findIdx? (· == x) = none := by
    rw [List.findIdx?_eq_none_iff]
    intro y hy
    simp only [beq_eq_false_iff_ne]
    rintro rfl; exact h hy
  rw [this]
theorem idxF_at {l : List Int} {x : Int} {k : Nat} (hk : k < l.length) (he : l[k] = x) (hb : ∀ j (hj : j < k), l[j]'(by omega) ≠ x) : idxF l x = (k : Int) := by
  unfold idxF
  have : l.findIdx? (· == x) = some k := by
    rw [List.findIdx?_eq_some_iff_getElem]
    refine ⟨hk, by simp [he], fun j hj => ?_⟩
    simp only [Bool.not_eq_true, beq_eq_false_iff_ne]
    exact hb j hj
  rw [this]
theorem idxF_ge {l : List Int} {x : Int} : decide (0 ≤ idxF l x) = decide (x ∈ l) := by
  by_cases h : x ∈ l
  · have h2 : idxF l x ≠ -1 → 0 ≤ idxF l x := by
      unfold idxF
      cases l.findIdx? (· == x) with
      | none => simp
      | some k => intro _; simp only; omega
    have h3 : idxF l x ≠ -1 := by
      unfold idxF
      cases e : l.findIdx? (· == x) with
      | none =>
        rw [List.findIdx?_eq_none_iff] at e
        have := e x h
        simp at this
      | some k => simp only; omega
    rw [decide_eq_true (h2 h3), decide_eq_true h]
  · rw [idxF_none h, decide_eq_false h]; rfl
set_option maxRecDepth 20000 in
set_option maxHeartbeats 2000000 in
theorem Index_any (v : Value) (l : List Int) (x : Int) (w : World) (hv : RdI w v l) :
    Calls Try.prog 68 #[v, .int .i64 x] w fun e w' => e = .returned (.int .i64 (idxF l x)) ∧ w' = w := by
  obtain ⟨A, c, rfl, hm, hc⟩ := hv.form
  go_enter Try.func68, Try.ntmps68
  go_upto_region 2 with (fail)
  go_loopw [8] (fun i wr => ∃ k : Nat, k ≤ l.length ∧ i = .int .i64 (k : Int) ∧ w = wr ∧ Hid (∀ j (hj : j < l.length), j < k → l[j] ≠ x)) (fun i _ => l.length - (intOf i).toNat)
  case atStart => exact ⟨0, Nat.zero_le _, rfl, rfl, Lib.hid (fun j _ h => absurd h (Nat.not_lt_zero _))⟩
  case round =>
    obtain ⟨k, hk, rfl, rfl, HB⟩ := hrel
    by_cases hlt : k < l.length
    · have i1 : (k : Int) < (l.length : Int) := by omega
      obtain ⟨ad, rfl, hcell⟩ := hv.at_ hlt
      by_cases he : l[k] = x
      · have HX : Hid (idxF l x = (k : Int)) := Lib.hid (idxF_at hlt he (fun j hj => HB.out j (by omega) hj))
        have e1 : (x == l[k]) = true := by rw [he]; simp
        clear he
        go_wp2_with fail
        go_ret
        rw [HX.out]
        exact ⟨rfl, rfl⟩
      · have e1 : (x == l[k]) = false := beq_eq_false_iff_ne.2 (fun h => he h.symm)
        have HN : Hid (∀ j (hj : j < l.length), j < k + 1 → l[j] ≠ x) := Lib.hid (fun j hj h => by
          rcases (by omega : j < k ∨ j = k) with h1 | rfl
          · exact HB.out j hj h1
          · exact he)
        clear he
        go_wp2_with fail
        go_roundw
        case rel => exact ⟨k + 1, by omega, by go_num, by trivial, HN⟩
        case measure => simp [intOf]; omega
    · obtain rfl : k = l.length := by omega
      have HX : Hid (idxF l x = -1) := Lib.hid (idxF_none (fun h => by
        obtain ⟨j, hj, he⟩ := List.getElem_of_mem h
        exact HB.out j hj hj he))
      have i1 : ¬ (l.length : Int) < (l.length : Int) := by omega
      go_wp2_with fail
      go_ret
      rw [HX.out]
      exact ⟨rfl, rfl⟩
set_option maxRecDepth 20000 in
theorem Contains_any (v : Value) (l : List Int) (x : Int) (w : World) (hv : RdI w v l) :
    Calls Try.prog 62 #[v, .int .i64 x] w fun e w' => e = .returned (.bool (decide (x ∈ l))) ∧ w' = w := by
  have hi := Index_any v l x w hv
  have hg := @idxF_ge l x
  generalize idxF l x = z at *
  go_enter Try.func62, Try.ntmps62
  go_wp2_with (first | (go_at_call 68; with_reducible refine hi.mono ?_; rintro e w1 ⟨rfl, rfl⟩) | fail)
  go_ret
  exact ⟨by rw [← hg]; rfl, rfl⟩
theorem pages_step {p n : Int} (hp : 512 ≤ p) (hn : 1 ≤ n) : (n - 1) / (p - 16) + 1 = (if n - (p - 16) < 1 then 0 else (n - (p - 16) - 1) / (p - 16) + 1) + 1 := by
  by_cases h : n - (p - 16) < 1
  · rw [if_pos h, Int.ediv_eq_zero_of_lt (by omega) (by omega)]
  · rw [if_neg h]
    have e : n - 1 = (n - (p - 16) - 1) + (p - 16) * 1 := by omega
    rw [e, Int.add_mul_ediv_left _ _ (by omega)]
set_option maxRecDepth 20000 in
set_option maxHeartbeats 2000000 in
theorem SPages_any (p n : Int) (hp : i64w p) (hn : i64w n) (w : World) :
    Calls Try.prog 10 #[.int .i64 p, .int .i64 n] w fun e w' => e = .returned (.int .i64 (pagesF p n)) ∧ w' = w := by
  have hPa := SisPage_any p hp w
  cases hpw : isPowB p with
  | false =>
    have HV : Hid (pagesF p n = 0) := by show _ = _; unfold pagesF; rw [if_pos (.inl hpw)]
    rw [hpw] at hPa
    go_enter Try.func10, Try.ntmps10
    go_wp2_with (first | (go_at_call 33; with_reducible refine hPa.mono ?_; rintro e w1 ⟨rfl, rfl⟩) | fail)
    go_ret
    rw [HV.out]
    exact ⟨rfl, rfl⟩
  | true =>
    obtain ⟨h1, h2⟩ := isPowB_range hpw
    rw [hpw] at hPa
    by_cases hl : n < 1
    · have HV : Hid (pagesF p n = 0) := by show _ = _; unfold pagesF; rw [if_pos (.inr hl)]
      go_enter Try.func10, Try.ntmps10
      go_wp2_with (first | (go_at_call 33; with_reducible refine hPa.mono ?_; rintro e w1 ⟨rfl, rfl⟩) | fail)
      go_ret
      rw [HV.out]
      exact ⟨rfl, rfl⟩
    · have HV : Hid (pagesF p n = (n - 1) / (p - 16) + 1) := by show _ = _; unfold pagesF; rw [if_neg (by rw [hpw]; simp; omega)]
      have nz : ¬ (p - 12 - 4 = 0) := by omega
      have e0 : ((p - 12 - 4) == 0) = false := beq_eq_false_iff_ne.2 nz
      have e1 : IntKind.i64.wrap (p - 12 - 4) = p - 12 - 4 := by rw [IntKind.wrap_i64]; omega
      have e2 : IntKind.i64.wrap (n - 1) = n - 1 := by unfold i64w at hn; rw [IntKind.wrap_i64]; omega
      go_enter Try.func10, Try.ntmps10
      go_wp2_with (first | (go_at_call 33; with_reducible refine hPa.mono ?_; rintro e w1 ⟨rfl, rfl⟩) | fail)
      go_ret
      rw [HV.out]
      refine ⟨?_, rfl⟩
      have d1 : (n - 1).tdiv (p - 12 - 4) = (n - 1) / (p - 16) := by
        rw [Int.tdiv_eq_ediv_of_nonneg (by omega)]
        congr 1
        omega
      have d2 : 0 ≤ (n - 1) / (p - 16) := Int.ediv_nonneg (by omega) (by omega)
      have d3 : (n - 1) / (p - 16) ≤ n - 1 := Int.ediv_le_self _ (by omega)
      unfold i64w at hn
      show Ending.returned (.int .i64 (wrap64 (wrap64 ((n - 1).tdiv (p - 12 - 4)) + 1))) = _
      rw [d1]
      generalize (n - 1) / (p - 16) = q at *
      have f1 : wrap64 q = q := by unfold wrap64; omega
      have f2 : wrap64 (q + 1) = q + 1 := by unfold wrap64; omega
      rw [f1, f2]
end Go.Proofs.Ytgnhakgfgdelpaa
