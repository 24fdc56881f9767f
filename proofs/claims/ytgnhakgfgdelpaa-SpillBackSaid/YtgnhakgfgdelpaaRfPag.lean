/- The document's Pages. -/
import Derived.Test.YtgnhakgfgdelpaaSpCon
import Derived.Test.YtgnhakgfgdelpaaRpIsPage
namespace Go.Proofs.Ytgnhakgfgdelpaa
open Go.RowKit
theorem pagesF_le {p n : Int} (h : n < 1) : pagesF p n = 0 := by unfold pagesF; rw [if_pos (.inr h)]
theorem pagesF_next {p n : Int} (hp : isPowB p = true) (h : 1 ≤ n) : pagesF p n = pagesF p (n - (p - 16)) + 1 := by
  have hr := isPowB_range hp
  unfold pagesF
  rw [if_neg (by rw [hp]; simp; omega)]
  rw [pages_step hr.1 h]
  by_cases h2 : n - (p - 16) < 1
  · rw [if_pos h2, if_pos (.inr h2)]
  · rw [if_neg h2, if_neg (by rw [hp]; simp; omega)]
theorem pagesF_nonneg {p n : Int} : 0 ≤ pagesF p n := by
  unfold pagesF
  split
  · omega
  · rename_i h
    have h1 : isPowB p = true := by
      cases e : isPowB p with
      | true => rfl
      | false => exact absurd (.inl e) h
    have hr := isPowB_range h1
    have h2 : ¬ n < 1 := fun e => h (.inr e)
    have := Int.ediv_nonneg (a := n - 1) (b := p - 16) (by omega) (by omega)
    omega
theorem pagesF_bound {p n : Int} (h : 0 ≤ n) : pagesF p n ≤ n := by
  unfold pagesF
  split
  · exact h
  · rename_i hh
    have h1 : isPowB p = true := by
      cases e : isPowB p with
      | true => rfl
      | false => exact absurd (.inl e) hh
    have hr := isPowB_range h1
    have h2 : ¬ n < 1 := fun e => hh (.inr e)
    have := Int.ediv_le_self (a := n - 1) (p - 16) (by omega)
    omega
set_option maxRecDepth 20000 in
set_option maxHeartbeats 2000000 in
theorem RPages_any (p n : Int) (hp : i64w p) (hn : i64w n) (w : World) :
    Calls Try.prog 11 #[.int .i64 p, .int .i64 n] w fun e w' => e = .returned (.int .i64 (pagesF p n)) ∧ w' = w := by
  have hPa := IsPage_any p w
  cases hpw : isPowB p with
  | false =>
    have HV : Hid (pagesF p n = 0) := by show _ = _; unfold pagesF; rw [if_pos (.inl hpw)]
    rw [hpw] at hPa
    go_enter Try.func11, Try.ntmps11
    go_upto_region 3 with (first | (go_at_call 34; with_reducible refine hPa.mono ?_; rintro e w1 ⟨rfl, rfl⟩) | fail)
    refine wp_loop_rounds 1 ?_
    rw [rounds_succ]
    go_wp2_with fail
    go_ret
    rw [HV.out]
    exact ⟨rfl, rfl⟩
  | true =>
    obtain ⟨h1, h2⟩ := isPowB_range hpw
    rw [hpw] at hPa
    have HP := Lib.hid hpw
    clear hpw
    go_enter Try.func11, Try.ntmps11
    go_upto_region 3 with (first | (go_at_call 34; with_reducible refine hPa.mono ?_; rintro e w1 ⟨rfl, rfl⟩) | fail)
    go_loopw [1, 6] (fun m c wr => ∃ y k : Int, m = .int .i64 y ∧ c = .int .i64 k ∧ w = wr ∧ y ≤ n ∧ (0 ≤ y ∨ (-65520 ≤ y ∨ y = n)) ∧ 0 ≤ k ∧ Hid (pagesF p y + k = pagesF p n)) (fun m _ _ => (intOf m).toNat)
    case atStart => exact ⟨n, 0, rfl, rfl, rfl, Int.le_refl _, .inr (.inr rfl), Int.le_refl _, Lib.hid (by omega)⟩
    case round =>
      obtain ⟨y, k, rfl, rfl, rfl, hy1, hy2, hk0, HS⟩ := hrel
      by_cases hy : 0 < y
      · have HN := Lib.hid (pagesF_next HP.out (show 1 ≤ y by omega))
        have hb := pagesF_bound (p := p) (n := n) (by omega)
        have hnn := pagesF_nonneg (p := p) (n := y - (p - 16))
        have hsum : k + 1 ≤ n := by have := HS.out; have := HN.out; omega
        unfold i64w at hn
        have e1 : IntKind.i64.wrap (p - 16) = p - 16 := by rw [IntKind.wrap_i64]; omega
        have e2 : IntKind.i64.wrap (y - (p - 16)) = y - (p - 16) := by rw [IntKind.wrap_i64]; omega
        have e3 : IntKind.i64.wrap (k + 1) = k + 1 := by rw [IntKind.wrap_i64]; omega
        clear hb hnn
        go_wp2_with fail
        go_roundw
        case rel => exact ⟨y - (p - 16), k + 1, rfl, rfl, by trivial, by omega, by omega, by omega, Lib.hid (by have := HS.out; have := HN.out; omega)⟩
        case measure => simp [intOf]; omega
      · have HV : Hid (pagesF p n = k) := by
          show _ = _
          rw [← HS.out, pagesF_le (by omega), Int.zero_add]
        go_wp2_with fail
        go_ret
        rw [HV.out]
        exact ⟨rfl, rfl⟩
end Go.Proofs.Ytgnhakgfgdelpaa
