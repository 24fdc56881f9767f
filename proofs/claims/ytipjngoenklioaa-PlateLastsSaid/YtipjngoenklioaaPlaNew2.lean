/- plate.New (refused), Load, Safe, Counts, Crash, Arm: walks. -/
import Derived.Test.YtipjngoenklioaaPlaNew
namespace Go.Proofs.Ytipjngoenklioaa
open Go.RowKit
theorem devB_pow {p n : Int} (h : isPowB p = false) : devB p n = false := by unfold devB; rw [h]; rfl
theorem devB_rest {p n : Int} (h : devB p n = false) (hp : isPowB p = true) : n < 4 ∨ 65536 < n ∨ 67108864 / p < n := by
  have h5 := isPowB_range hp
  rcases Int.lt_or_le n 4 with h1 | h1
  · exact .inl h1
  rcases Int.lt_or_le 65536 n with h2 | h2
  · exact .inr (.inl h2)
  rcases Int.lt_or_le (67108864 / p) n with h3 | h3
  · exact .inr (.inr h3)
  have h4 : n * p ≤ 67108864 := (Int.le_ediv_iff_mul_le (by omega)).1 h3
  unfold devB at h
  rw [hp, decide_eq_true h1, decide_eq_true h2, decide_eq_true h4] at h
  cases h
set_option maxRecDepth 20000 in
set_option maxHeartbeats 2000000 in
theorem New_bad (page n : Int) (hp : -9223372036854775808 ≤ page ∧ page ≤ 9223372036854775807) (h : devB page n = false) (w : World) : Calls Try.prog 8 #[.int .i64 page, .int .i64 n] w fun e w' => e = .returned (.pointer none) ∧ w = w' := by
  cases hq : isPowB page
  · have HP := Lib.hid hq
    clear hq h
    go_enter Try.func8, Try.ntmps8
    go_wp2_with (first
      | (go_at_call 33; refine (isPage_any _ (by omega) _).mono ?_; rintro e w0 ⟨rfl, rfl⟩; rw [HP.out]))
    go_ret
    exact ⟨rfl, rfl⟩
  · have h5 := isPowB_range hq
    have hr := devB_rest h hq
    have HP := Lib.hid hq
    clear hq h
    rcases hr with h1 | h1 | h1
    · go_enter Try.func8, Try.ntmps8
      go_wp2_with (first
        | (go_at_call 33; refine (isPage_any _ (by omega) _).mono ?_; rintro e w0 ⟨rfl, rfl⟩; rw [HP.out]))
      go_ret
      exact ⟨rfl, rfl⟩
    · have h2 : ¬ n < 4 := by omega
      go_enter Try.func8, Try.ntmps8
      go_wp2_with (first
        | (go_at_call 33; refine (isPage_any _ (by omega) _).mono ?_; rintro e w0 ⟨rfl, rfl⟩; rw [HP.out]))
      go_ret
      exact ⟨rfl, rfl⟩
    · by_cases h2 : n < 4
      · go_enter Try.func8, Try.ntmps8
        go_wp2_with (first
          | (go_at_call 33; refine (isPage_any _ (by omega) _).mono ?_; rintro e w0 ⟨rfl, rfl⟩; rw [HP.out]))
        go_ret
        exact ⟨rfl, rfl⟩
      by_cases h3 : 65536 < n
      · go_enter Try.func8, Try.ntmps8
        go_wp2_with (first
          | (go_at_call 33; refine (isPage_any _ (by omega) _).mono ?_; rintro e w0 ⟨rfl, rfl⟩; rw [HP.out]))
        go_ret
        exact ⟨rfl, rfl⟩
      go_enter Try.func8, Try.ntmps8
      go_wp2_with (first
        | (go_at_call 33; refine (isPage_any _ (by omega) _).mono ?_; rintro e w0 ⟨rfl, rfl⟩; rw [HP.out]))
      go_ret
      exact ⟨rfl, rfl⟩
section
variable {w : World} {F : Nat → Prop} {r : Raw} {S : PS}
theorem PlRaw.flen (h : PlRaw w F r S) : S.pg.flatten.length = S.sz := by rw [flat_len h.ok.pe, h.ok.pl, h.ok.sn]
theorem PlRaw.safeRd (h : PlRaw w F r S) : RdB w (.slice (some ⟨r.sb, 0, none⟩) S.sz S.sz) S.pg.flatten := h.safe.rdB h.flen (by have := h.ok.pn; omega)
end
set_option maxRecDepth 20000 in
theorem Safe_any (w : World) (F : Nat → Prop) (r : Raw) (S : PS) (h : PlRaw w F r S) : Calls Try.prog 12 #[plPtr r] w fun e w' => ∃ v, e = .returned v ∧ OwB w' w.heap.size v S.pg.flatten ∧ Below w.heap.size w w' := by
  have c1 := h.c1
  have hn := h.ok.pn
  have hf := h.flen
  have hl : S.pg.flatten.length ≤ 140737488355328 := by omega
  have hr := h.safeRd
  have HF := Lib.hid hf
  clear hf
  unfold plPtr
  go_enter Try.func12, Try.ntmps12
  go_wp2_with fail
  refine (CloneB_any _ _ _ hr hl).mono ?_
  rintro e w1 ⟨v, rfl, ho, hb⟩
  go_wp2_with fail
  go_ret
  exact ⟨v, rfl, ho, hb⟩
set_option maxRecDepth 20000 in
set_option maxHeartbeats 1000000 in
theorem Counts_any (w : World) (F : Nat → Prop) (r : Raw) (S : PS) (h : PlRaw w F r S) : Calls Try.prog 52 #[plPtr r] w fun e w' => e = .returned (.agg #[.int .i64 S.cr, .int .i64 S.cw, .int .i64 S.cs]) ∧ Below w.heap.size w w' := by
  have lb := h.blk.lt
  have c9 := h.c9
  have c10 := h.c10
  have c11 := h.c11
  unfold plPtr
  go_enter Try.func52, Try.ntmps52
  go_upto_region 1 with (fail)
  refine wp_region_dtail 16 (by kernel_rfl) (by kernel_rfl) ?_
  simp only [List.take_succ_cons, List.take_zero, List.drop_succ_cons, List.drop_zero]
  repeat (quiet_step (fail))
  refine wpQuiet_nil ?_
  rintro _ ⟨nq, rfl⟩
  go_wp2_with fail
  exact bodyPost_ret (v := .agg #[.int .i64 S.cr, .int .i64 S.cw, .int .i64 S.cs]) (by simp [results, Try.results52, go_sem]) rfl ⟨rfl, (((below_drewN ((Below.refl _ _).alloc (Nat.le_refl _) _) _).setCell (Nat.le_refl _) _).setCell (Nat.le_refl _) _).setCell (Nat.le_refl _) _⟩
def FallsAt (w : World) (F : Nat → Prop) (r : Raw) (S' : PS) (e : Ending) (w' : World) : Prop := (∃ v, e = .returned v) ∧ (∃ r', r'.pb = r.pb ∧ PlRaw w' F r' S') ∧ Turn F w w'
def PS.crash (S : PS) (ks : List Int) (torn at_ : Int) : PS := if S.down then S else S.fell ks torn at_
set_option maxRecDepth 20000 in
set_option maxHeartbeats 1000000 in
theorem Crash_any (w : World) (F : Nat → Prop) (r : Raw) (S : PS) (vk : Value) (ks : List Int) (torn at_ : Int) (h : PlRaw w F r S) (hk : RdI w vk ks) (hko : KeepOff vk r.sb) (ht : -9223372036854775808 ≤ at_ ∧ at_ ≤ 9223372036854775807) :
    Calls Try.prog 15 #[plPtr r, fallV vk torn at_] w (FallsAt w F r (S.crash ks torn at_)) := by
  have hA : Below w.heap.size w (w.alloc (.cells #[vk, .int .i64 torn, .int .i64 at_] 31)) := (Below.refl _ _).alloc (Nat.le_refl _) _
  have lb := h.blk.lt
  have c4 := h.c4
  cases hd : S.down
  · rw [hd] at c4
    have HS : Hid (S.crash ks torn at_ = S.fell ks torn at_) := by show _ = _; unfold PS.crash; rw [hd]; rfl
    have hf := falls_any _ F r S vk ks torn at_ (h.below hA) (hk.below hA) hko ht
    clear hd
    unfold plPtr fallV at hf ⊢
    go_enter Try.func15, Try.ntmps15
    go_wp2_with fail
    refine hf.mono ?_
    rintro e w1 ⟨⟨v, rfl⟩, hP, hT⟩
    go_wp2_with fail
    refine bodyPost_end (results_none rfl _ _ _) rfl ?_
    rw [HS.out]
    exact ⟨⟨_, rfl⟩, ⟨r.settled, rfl, hP⟩, ((Turn.of_below hA).trans hT fun b hb => .inl hb)⟩
  · rw [hd] at c4
    have HS : Hid (S.crash ks torn at_ = S) := by show _ = _; unfold PS.crash; rw [hd]; rfl
    clear hd
    unfold plPtr fallV
    go_enter Try.func15, Try.ntmps15
    go_wp2_with fail
    refine bodyPost_end (results_none rfl _ _ _) rfl ?_
    rw [HS.out]
    exact ⟨⟨_, rfl⟩, ⟨_, rfl, h.below hA⟩, Turn.of_below hA⟩
end Go.Proofs.Ytipjngoenklioaa
