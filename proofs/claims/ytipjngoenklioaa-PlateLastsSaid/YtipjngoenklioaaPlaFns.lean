/- plate.isPage, Page, Pages, Up, Start, Loose, refused, place, act, settle: walks. -/
import Derived.Test.YtipjngoenklioaaPla
import Derived.Test.YtipjngoenklioaaPow
import Derived.Deep.QuietTactic
import Derived.BigQuiet
import Derived.Deep.DeepCutAuto
import Derived.Deep.RegionHeld3
namespace Go.Proofs.Ytipjngoenklioaa
open Go.RowKit Go.WideShapes
theorem below_drewN {B : Nat} {w w' : World} (h : Below B w w') : ∀ n, Below B w (w'.drewN n)
  | 0 => h
  | n + 1 => (below_drewN h n).drew
set_option maxRecDepth 20000 in
set_option maxHeartbeats 1000000 in
theorem isPage_any (p : Int) (hp : -9223372036854775808 ≤ p ∧ p ≤ 9223372036854775807) (w : World) : Calls Try.prog 33 #[.int .i64 p] w fun e w' => e = .returned (.bool (isPowB p)) ∧ w = w' := by
  by_cases h1 : p < 512
  · have HV := Lib.hid (isPowB_out (.inl h1))
    go_enter Try.func33, Try.ntmps33
    go_wp2_with fail
    go_ret
    rw [HV.out]
    exact ⟨rfl, rfl⟩
  by_cases h2 : 65536 < p
  · have HV := Lib.hid (isPowB_out (.inr h2))
    go_enter Try.func33, Try.ntmps33
    go_wp2_with fail
    go_ret
    rw [HV.out]
    exact ⟨rfl, rfl⟩
  have hq := pow_eq p (by omega) (by omega)
  go_enter Try.func33, Try.ntmps33
  go_wp2_with fail
  go_ret
  exact ⟨rfl, rfl⟩
section
variable {w : World} {F : Nat → Prop} {r : Raw} {S : PS}
theorem PlRaw.c0 (h : PlRaw w F r S) : w.cell? ⟨r.pb, 0, none⟩ = some (.int .i64 (S.page : Int)) := h.blk.cell' rfl
theorem PlRaw.c1 (h : PlRaw w F r S) : w.cell? ⟨r.pb, 1, none⟩ = some (.slice (some ⟨r.sb, 0, none⟩) S.sz S.sz) := h.blk.cell' rfl
theorem PlRaw.c2 (h : PlRaw w F r S) : w.cell? ⟨r.pb, 2, none⟩ = some r.vl := h.blk.cell' rfl
theorem PlRaw.c3 (h : PlRaw w F r S) : w.cell? ⟨r.pb, 3, none⟩ = some (.map (some r.mb)) := h.blk.cell' rfl
theorem PlRaw.c4 (h : PlRaw w F r S) : w.cell? ⟨r.pb, 4, none⟩ = some (.bool S.down) := h.blk.cell' rfl
theorem PlRaw.c5 (h : PlRaw w F r S) : w.cell? ⟨r.pb, 5, none⟩ = some (.int .i64 S.acts) := h.blk.cell' rfl
theorem PlRaw.c6 (h : PlRaw w F r S) : w.cell? ⟨r.pb, 6, none⟩ = some r.vk := h.blk.cell' rfl
theorem PlRaw.c7 (h : PlRaw w F r S) : w.cell? ⟨r.pb, 7, none⟩ = some (.int .i64 S.torn) := h.blk.cell' rfl
theorem PlRaw.c8 (h : PlRaw w F r S) : w.cell? ⟨r.pb, 8, none⟩ = some (.int .i64 S.at_) := h.blk.cell' rfl
theorem PlRaw.c9 (h : PlRaw w F r S) : w.cell? ⟨r.pb, 9, none⟩ = some (.int .i64 S.cr) := h.blk.cell' rfl
theorem PlRaw.c10 (h : PlRaw w F r S) : w.cell? ⟨r.pb, 10, none⟩ = some (.int .i64 S.cw) := h.blk.cell' rfl
theorem PlRaw.c11 (h : PlRaw w F r S) : w.cell? ⟨r.pb, 11, none⟩ = some (.int .i64 S.cs) := h.blk.cell' rfl
theorem PlRaw.fz (h : PlRaw w F r S) {j : Nat} (hj : j < 12) : w.frozen? ⟨r.pb, j, none⟩ = false := h.blk.frozen (by simpa [plCells] using hj)
end
set_option maxRecDepth 20000 in
theorem Page_any (w : World) (F : Nat → Prop) (r : Raw) (S : PS) (h : PlRaw w F r S) : Calls Try.prog 19 #[plPtr r] w fun e w' => e = .returned (.int .i64 (S.page : Int)) ∧ w = w' := by
  have c0 := h.c0
  unfold plPtr
  go_enter Try.func19, Try.ntmps19
  go_wp2_with fail
  go_ret
  exact ⟨rfl, rfl⟩
set_option maxRecDepth 20000 in
theorem Pages_any (w : World) (F : Nat → Prop) (r : Raw) (S : PS) (h : PlRaw w F r S) : Calls Try.prog 20 #[plPtr r] w fun e w' => e = .returned (.int .i64 (S.np : Int)) ∧ Below w.heap.size w w' := by
  have c0 := h.c0
  have c1 := h.c1
  have hp0 : 0 < S.page := by have := h.ok.p1; omega
  have e1 : (S.sz : Int) / (S.page : Int) = (S.np : Int) := by
    have : S.sz / S.page = S.np := by rw [h.ok.sn, Nat.mul_div_cancel_left _ hp0]
    omega
  have e2 : (S.sz : Int).tdiv (S.page : Int) = (S.np : Int) := by rw [Int.tdiv_eq_ediv_of_nonneg (by omega)]; exact e1
  have e3 : ((S.page : Int) == 0) = false := by simp; omega
  have k1 := h.ok.n2
  have k2 := h.ok.pn
  have k3 := h.ok.p2
  unfold plPtr
  go_enter Try.func20, Try.ntmps20
  go_upto_region 1 with (fail)
  go_quiet (fail)
  go_wp2_with fail
  go_ret
  exact ⟨rfl, below_drewN (Below.refl _ _) _⟩
set_option maxRecDepth 20000 in
theorem Up_any (w : World) (F : Nat → Prop) (r : Raw) (S : PS) (h : PlRaw w F r S) : Calls Try.prog 14 #[plPtr r] w fun e w' => e = .returned (.bool (!S.down)) ∧ w = w' := by
  have c4 := h.c4
  unfold plPtr
  go_enter Try.func14, Try.ntmps14
  go_wp2_with fail
  go_ret
  exact ⟨rfl, rfl⟩
set_option maxRecDepth 20000 in
theorem Loose_any (w : World) (F : Nat → Prop) (r : Raw) (S : PS) (h : PlRaw w F r S) : Calls Try.prog 17 #[plPtr r] w fun e w' => e = .returned (.int .i64 (S.wild.length : Int)) ∧ w = w' := by
  have c2 := h.c2
  obtain ⟨A, c, hv⟩ := h.loose.slice
  rw [hv] at c2
  clear hv
  unfold plPtr
  go_enter Try.func17, Try.ntmps17
  go_wp2_with fail
  go_ret
  exact ⟨rfl, rfl⟩
/-- Why a page can not be asked for. -/
def PS.ref (S : PS) (n : Int) : Int := if S.down then 3 else if n < 0 ∨ (S.np : Int) ≤ n then 30 else 0
set_option maxRecDepth 20000 in
set_option maxHeartbeats 1000000 in
theorem refused_any (w : World) (F : Nat → Prop) (r : Raw) (S : PS) (n : Int) (h : PlRaw w F r S) : Calls Try.prog 34 #[plPtr r, .int .i64 n] w fun e w' => e = .returned (.int .i64 (S.ref n)) ∧ Below w.heap.size w w' := by
  have c4 := h.c4
  cases hd : S.down
  · rw [hd] at c4
    by_cases h0 : n < 0
    · have HV : Hid (S.ref n = 30) := by show _ = _; unfold PS.ref; rw [hd, if_neg (by simp), if_pos (.inl h0)]
      unfold plPtr
      go_enter Try.func34, Try.ntmps34
      go_wp2_with fail
      go_ret
      rw [HV.out]
      exact ⟨rfl, Below.refl _ _⟩
    · by_cases h1 : (S.np : Int) ≤ n
      · have HV : Hid (S.ref n = 30) := by show _ = _; unfold PS.ref; rw [hd, if_neg (by simp), if_pos (.inr h1)]
        have hP := Pages_any w F r S h
        unfold plPtr at hP ⊢
        go_enter Try.func34, Try.ntmps34
        go_wp2_with fail
        refine hP.mono ?_
        rintro e w1 ⟨rfl, hb⟩
        go_wp2_with fail
        go_ret
        rw [HV.out]
        exact ⟨rfl, hb⟩
      · have HV : Hid (S.ref n = 0) := by show _ = _; unfold PS.ref; rw [hd, if_neg (by simp), if_neg (by omega)]
        have hP := Pages_any w F r S h
        unfold plPtr at hP ⊢
        go_enter Try.func34, Try.ntmps34
        go_wp2_with fail
        refine hP.mono ?_
        rintro e w1 ⟨rfl, hb⟩
        go_wp2_with fail
        go_ret
        rw [HV.out]
        exact ⟨rfl, hb⟩
  · rw [hd] at c4
    have HV : Hid (S.ref n = 3) := by show _ = _; unfold PS.ref; rw [hd, if_pos rfl]
    unfold plPtr
    go_enter Try.func34, Try.ntmps34
    go_wp2_with fail
    go_ret
    rw [HV.out]
    exact ⟨rfl, Below.refl _ _⟩
end Go.Proofs.Ytipjngoenklioaa
