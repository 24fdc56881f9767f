/- api.Bench: Free, Lay, Alloc. -/
import Derived.Test.YtgnhakgfgdelpaaBen2
namespace Go.Proofs.Ytgnhakgfgdelpaa
open Go.RowKit Go.Maps
section
variable {w0 w : World} {gb gm : Nat} {pv : Int → Option Value} {S : BS} {L : List Ent}
def freeZ (S : BS) (n : Int) : Int := if S.held n = none then 30 else 0
def freeS (S : BS) (n : Int) : BS := if S.held n = none then S else S.put n none
set_option maxRecDepth 20000 in
set_option maxHeartbeats 4000000 in
theorem BFree_any (hS : Sep w0 w (benchE gb gm pv S :: L)) (n : Int) (hn : i64w n) :
    Calls Try.prog 66 #[.pointer (some ⟨gb, 0, none⟩), .int .i64 n] w fun e w' => e = .returned (.int .i64 (freeZ S n)) ∧ ∃ pv', Sep w0 w' (benchE gb gm pv' (freeS S n) :: L) := by
  have hE : (benchE gb gm pv S).p w := hS.head
  obtain ⟨c0, c1, c2, c3, c4, f4⟩ := benchE_cells hE
  have hM := hE.2.1
  cases hh : S.held n with
  | none =>
    have HZ : Hid (freeZ S n = 30) := by show _ = _; unfold freeZ; rw [if_pos hh]
    have HS : Hid (freeS S n = S) := by show _ = _; unfold freeS; rw [if_pos hh]
    have hp : pv n = none := (hE.2.2.2.2.1 n).1 hh
    go_enter Try.func66, Try.ntmps66
    go_wp2_with (first | (at_lookup; refine wp_look rfl _ _ rfl hM rfl n hn rfl none hp ?_) | fail)
    go_ret
    rw [HZ.out, HS.out]
    exact ⟨rfl, _, hS⟩
  | some l =>
    obtain ⟨v, hp, hv⟩ := benchE_some hE hh
    obtain ⟨A', c', rfl, hm'⟩ := hv.rd.form
    have HZ : Hid (freeZ S n = 0) := by show _ = _; unfold freeZ; rw [hh, if_neg (by simp)]
    have HS : Hid (freeS S n = S.put n none) := by show _ = _; unfold freeS; rw [hh, if_neg (by simp)]
    have hdm := hE.2.2.1.dom n (by rw [hh]; rfl)
    go_enter Try.func66, Try.ntmps66
    go_wp2_with (first | (at_lookup; refine wp_look rfl _ _ rfl hM rfl n hn rfl (some _) hp ?_) | (at_delete; refine wp_del rfl _ _ rfl hM rfl n hn rfl ?_; intro w1 hM1 ht1) | fail)
    go_ret
    rw [HZ.out, HS.out]
    exact ⟨rfl, _, benchE_del hS hdm hM1 ht1⟩
def layZ (S : BS) (n : Int) : Int := if n < 2 ∨ (S.pages : Int) ≤ n then 30 else 0
def layS (S : BS) (n : Int) (d : List UInt8) : BS := if n < 2 ∨ (S.pages : Int) ≤ n then S else S.put n (some d)
set_option maxRecDepth 20000 in
set_option maxHeartbeats 4000000 in
theorem BLay_any (hS : Sep w0 w (benchE gb gm pv S :: L)) (n : Int) (hn : i64w n) (x : Value) (d : List UInt8) (hx : RdB w x d) (hdl : d.length ≤ 200000) :
    Calls Try.prog 55 #[.pointer (some ⟨gb, 0, none⟩), .int .i64 n, x] w fun e w' => e = .returned (.int .i64 (layZ S n)) ∧ ∃ pv', Sep w0 w' (benchE gb gm pv' (layS S n d) :: L) := by
  have hE : (benchE gb gm pv S).p w := hS.head
  obtain ⟨A, c, rfl, hm⟩ := hx.form
  obtain ⟨c0, c1, c2, c3, c4, f4⟩ := benchE_cells hE
  have hM := hE.2.1
  by_cases h1 : n < 2 ∨ (S.pages : Int) ≤ n
  · have HZ : Hid (layZ S n = 30) := by show _ = _; unfold layZ; rw [if_pos h1]
    have HS : Hid (layS S n d = S) := by show _ = _; unfold layS; rw [if_pos h1]
    by_cases h2 : n < 2
    · clear h1
      go_enter Try.func55, Try.ntmps55
      go_wp2_with fail
      go_ret
      rw [HZ.out, HS.out]
      exact ⟨rfl, _, hS⟩
    · have h3 : (S.pages : Int) ≤ n := by omega
      clear h1
      go_enter Try.func55, Try.ntmps55
      go_wp2_with fail
      go_ret
      rw [HZ.out, HS.out]
      exact ⟨rfl, _, hS⟩
  · have HZ : Hid (layZ S n = 0) := by show _ = _; unfold layZ; rw [if_neg h1]
    have HS : Hid (layS S n d = S.put n (some d)) := by show _ = _; unfold layS; rw [if_neg h1]
    have hdm : 2 ≤ n ∧ n < S.pages := by omega
    have h2 : ¬ n < 2 := by omega
    have h3 : ¬ (S.pages : Int) ≤ n := by omega
    have hcl := cntB_le S
    have hph := hE.2.2.1.hi
    have hgs := hE.1.lt
    have hmk := fun w => run_make_0 w d.length (by omega)
    clear h1
    go_enter Try.func55, Try.ntmps55
    go_upto_region 3 with (fail)
    have ho2 := made_0 w.drew d.length w.drew.heap.size (Nat.le_refl _) (by omega)
    have hw2 : Below w.drew.heap.size w.drew _ := (Below.refl _ _).alloc (Nat.le_refl _) (.cells (bvs (List.replicate d.length 0)).toArray 5)
    go_region_held3 (fun w' => w'.cell? ⟨gb, 3, none⟩ = some (.map (some gm)))
      (first | exact c3 | exact (hw2.cell (p := ⟨gb, 3, none⟩) hgs).trans c3 | exact (hw3.cell (p := ⟨gb, 3, none⟩) hgs).trans c3 | exact (World.cell?_of_block ((Turn.of_map ht4).block gb (Nat.lt_of_lt_of_le hgs hw3.size) hE.2.2.2.1)).trans ((hw3.cell (p := ⟨gb, 3, none⟩) hgs).trans c3))
      (first
        | (refine step_append_B (by rfl) _ _ (by rfl) w.drew.heap.size _ _ (by rfl) ho2 _ _ (by rfl) (hx.drew.below hw2 (Nat.le_refl _)) (by simp; omega) hw2.size ?_; intro u w3 ho3 hg3 hb3; rw [List.nil_append] at ho3; have hw3 := hw2.grown hg3 hw2.size (fun k hk => (Own.lt ho2 k hk).1))
        | (refine upon_store (MapAt.heap hM (hw3.block gm hM.lt)) (by simp only [maxLen]; omega) n hn _ rfl ?_; intro w4 hM4 ht4)
        | fail)
    go_wp2_with fail
    go_ret
    rw [HZ.out, HS.out]
    exact ⟨rfl, _, benchE_put (hS.drew.bytes hw3 ho3 (Nat.le_refl _)) hdm hdl hM4 ht4⟩
end
/-! ### the least page that is not there -/
def freeAt (S : BS) (n : Nat) : Bool := decide (2 ≤ n) && (S.held n).isNone
def allocF (S : BS) : Option Nat := (List.range S.pages).find? (freeAt S)
def allocZ (S : BS) : Int × Int := match allocF S with | some n => ((n : Int), 0) | none => (0, 5)
def allocS (S : BS) : BS := match allocF S with | some n => S.put n (some (List.replicate S.page 0)) | none => S
theorem find_range (p : Nat → Bool) (n : Nat) (hp : p n = true) (hq : ∀ m, m < n → p m = false) : ∀ N, n < N → (List.range N).find? p = some n := by
  intro N hN
  obtain ⟨d, rfl⟩ : ∃ d, N = n + 1 + d := ⟨N - n - 1, by omega⟩
  rw [List.range_add, List.find?_append, List.range_succ, List.find?_append]
  have : (List.range n).find? p = none := by
    rw [List.find?_eq_none]
    intro x hx
    rw [hq x (List.mem_range.1 hx)]; simp
  rw [this]
  simp [hp]
theorem allocF_some {S : BS} {n : Nat} (h1 : 2 ≤ n) (h2 : n < S.pages) (h3 : S.held n = none) (h4 : ∀ m : Nat, 2 ≤ m → m < n → S.held m ≠ none) : allocF S = some n := by
  unfold allocF
  refine find_range _ n (by simp [freeAt, h1, h3]) (fun m hm => ?_) _ h2
  by_cases e : 2 ≤ m
  · have := h4 m e hm
    simp [freeAt]; intro _; exact Option.isSome_iff_ne_none.2 this
  · simp [freeAt, e]
theorem allocF_none {S : BS} (h4 : ∀ m : Nat, 2 ≤ m → m < S.pages → S.held m ≠ none) : allocF S = none := by
  unfold allocF
  rw [List.find?_eq_none]
  intro m hm
  have hm := List.mem_range.1 hm
  simp [freeAt]
  intro e; exact h4 m e hm
section
variable {w0 w : World} {gb gm : Nat} {pv : Int → Option Value} {S : BS} {L : List Ent}
set_option maxRecDepth 20000 in
set_option maxHeartbeats 4000000 in
theorem BAlloc_any (hS : Sep w0 w (benchE gb gm pv S :: L)) :
    Calls Try.prog 70 #[.pointer (some ⟨gb, 0, none⟩)] w fun e w' => e = .returned (.tuple #[.int .i64 (allocZ S).1, .int .i64 (allocZ S).2]) ∧ ∃ pv', Sep w0 w' (benchE gb gm pv' (allocS S) :: L) := by
  have hE : (benchE gb gm pv S).p w := hS.head
  obtain ⟨c0, c1, c2, c3, c4, f4⟩ := benchE_cells hE
  have hM := hE.2.1
  have hph := hE.2.2.1.hi
  have hpl := hE.2.2.1.lo
  have hgs := hE.1.lt
  have hpg := isPowB_range hE.2.2.1.page
  have hmk := fun w => run_make_n w S.page (by omega)
  go_enter Try.func70, Try.ntmps70
  go_upto_region 2 with (fail)
  go_loopw [4] (fun i wr => ∃ k : Nat, 2 ≤ k ∧ k ≤ S.pages ∧ i = .int .i64 (k : Int) ∧ w = wr ∧ Hid (∀ m : Nat, 2 ≤ m → m < k → S.held m ≠ none)) (fun i _ => S.pages - (intOf i).toNat)
  case atStart => exact ⟨2, by omega, hpl, rfl, rfl, Lib.hid (fun m h1 h2 => absurd h2 (by omega))⟩
  case round =>
    obtain ⟨k, hk1, hk2, rfl, rfl, HB⟩ := hrel
    by_cases hlt : k < S.pages
    · have i1 : (k : Int) < (S.pages : Int) := by omega
      have hkn : i64w (k : Int) := by unfold i64w; omega
      cases hh : S.held (k : Int) with
      | none =>
        have HA : Hid (allocF S = some k) := Lib.hid (allocF_some hk1 hlt hh HB.out)
        have HZ : Hid (allocZ S = ((k : Int), 0)) := by show _ = _; unfold allocZ; rw [HA.out]
        have HS : Hid (allocS S = S.put (k : Int) (some (List.replicate S.page 0))) := by show _ = _; unfold allocS; rw [HA.out]
        have hp : pv (k : Int) = none := (hE.2.2.2.2.1 (k : Int)).1 hh
        have hdm : 2 ≤ (k : Int) ∧ (k : Int) < S.pages := by omega
        have hcl := cntB_le S
        go_upto_region 6 with (first | (at_lookup; refine wp_look rfl _ _ rfl hM rfl (k : Int) hkn rfl none hp ?_) | fail)
        have ho2 := made_n w.drew S.page w.drew.heap.size (Nat.le_refl _) (by omega)
        have hw2 : Below w.drew.heap.size w.drew _ := (Below.refl _ _).alloc (Nat.le_refl _) (.cells (bvs (List.replicate S.page 0)).toArray 5)
        go_region_held3 (fun w' => w'.cell? ⟨gb, 3, none⟩ = some (.map (some gm)) ∧ w'.cell? ⟨gb, 1, none⟩ = some (.int .i64 S.page))
          (first | exact ⟨c3, c1⟩ | exact ⟨(hw2.cell (p := ⟨gb, 3, none⟩) hgs).trans c3, (hw2.cell (p := ⟨gb, 1, none⟩) hgs).trans c1⟩ | exact ⟨(World.cell?_of_block ((Turn.of_map ht4).block gb (Nat.lt_of_lt_of_le hgs hw2.size) hE.2.2.2.1)).trans ((hw2.cell (p := ⟨gb, 3, none⟩) hgs).trans c3), (World.cell?_of_block ((Turn.of_map ht4).block gb (Nat.lt_of_lt_of_le hgs hw2.size) hE.2.2.2.1)).trans ((hw2.cell (p := ⟨gb, 1, none⟩) hgs).trans c1)⟩)
          (first
            | (refine upon_store (MapAt.heap hM (hw2.block gm hM.lt)) (by simp only [maxLen]; omega) (k : Int) hkn _ rfl ?_; intro w4 hM4 ht4)
            | fail)
        go_wp2_with fail
        go_ret2
        rw [HZ.out, HS.out]
        exact ⟨rfl, _, benchE_put (hS.drew.bytes hw2 ho2 (Nat.le_refl _)) hdm (by simp; omega) hM4 ht4⟩
      | some l =>
        obtain ⟨v, hp, hv⟩ := benchE_some hE hh
        obtain ⟨A', c', rfl, hm'⟩ := hv.rd.form
        go_wp2_with (first | (at_lookup; refine wp_look rfl _ _ rfl hM rfl (k : Int) hkn rfl (some _) hp ?_) | fail)
        go_roundw
        case rel => exact ⟨k + 1, by omega, by omega, by go_num, by trivial, Lib.hid (fun m h1 h2 => by rcases (by omega : m < k ∨ m = k) with h3 | rfl; exact HB.out m h1 h3; rw [hh]; simp)⟩
        case measure => simp [intOf]; omega
    · obtain rfl : k = S.pages := by omega
      have HA : Hid (allocF S = none) := Lib.hid (allocF_none HB.out)
      have HZ : Hid (allocZ S = (0, 5)) := by show _ = _; unfold allocZ; rw [HA.out]
      have HS : Hid (allocS S = S) := by show _ = _; unfold allocS; rw [HA.out]
      have i1 : ¬ (S.pages : Int) < (S.pages : Int) := by omega
      go_wp2_with fail
      go_ret2
      rw [HZ.out, HS.out]
      exact ⟨rfl, _, hS⟩
end
end Go.Proofs.Ytgnhakgfgdelpaa
