/- What is written into a chain is read, and freed: plain laws. -/
import Derived.Test.YtgnhakgfgdelpaaSpRd
namespace Go.Proofs.Ytgnhakgfgdelpaa
open Go.RowKit
/-- The same bench, but for the count of reads. -/
structure Like (S S' : BS) : Prop where
  eng : S'.eng = S.eng
  page : S'.page = S.page
  pages : S'.pages = S.pages
  held : S'.held = S.held
theorem Like.refl (S : BS) : Like S S := ⟨rfl, rfl, rfl, rfl⟩
theorem Like.trans {a b c : BS} (h : Like a b) (k : Like b c) : Like a c := ⟨k.eng.trans h.eng, k.page.trans h.page, k.pages.trans h.pages, k.held.trans h.held⟩
theorem Like.ok {S S' : BS} (h : Like S S') (k : okB S) : okB S' := ⟨by rw [h.page]; exact k.page, by rw [h.pages]; exact k.lo, by rw [h.pages]; exact k.hi, by rw [h.held, h.pages]; exact k.dom, by rw [h.held]; exact k.len⟩
theorem Like.taken {S S' : BS} (h : Like S S') : takenF S' = takenF S := by unfold takenF takenTo; rw [h.held, h.pages]
theorem Like.cnt {S S' : BS} (h : Like S S') : cntB S' = cntB S := by unfold cntB; rw [h.held, h.pages]
structure HoldsV (S : BS) (l : List Int) (v : List UInt8) : Prop where
  len : l.length = nCh v.length (S.page - 16)
  nodup : l.Nodup
  rng : ∀ n ∈ l, 2 ≤ n ∧ n < 65536
  held : ∀ i (h : i < l.length), S.held l[i] = some (laidS (nextP l i) (pieceF v (S.page - 16) i) S.page)
theorem HoldsV.like {S S' : BS} {l : List Int} {v : List UInt8} (h : HoldsV S l v) (k : Like S S') : HoldsV S' l v :=
  ⟨by rw [k.page]; exact h.len, h.nodup, h.rng, fun i hi => by rw [k.held, k.page]; exact h.held i hi⟩
theorem HoldsV.only {S S' : BS} {l : List Int} {v : List UInt8} (h : HoldsV S l v) (hp : S'.page = S.page) (k : ∀ n ∈ l, S'.held n = S.held n) : HoldsV S' l v :=
  ⟨by rw [hp]; exact h.len, h.nodup, h.rng, fun i hi => by rw [k _ (List.getElem_mem hi), hp]; exact h.held i hi⟩
theorem decS_laidS {next : Int} {d : List UInt8} {P : Nat} (h : spZ next d (P : Int) = 0) : decS (laidS next d P) = some (next, d) := by
  obtain ⟨h1, h2, h3⟩ := parse_laidS h
  obtain ⟨k1, k2, k3, k4, k5, k6⟩ := spZ_zero h
  have hl : (laidS next d P).length = P := laidS_length (by omega)
  unfold decS
  rw [h1, h2, h3, hl, if_pos ⟨k1, by omega, h, rfl⟩]
theorem nextP_zero {l : List Int} {k : Nat} (hr : ∀ n ∈ l, 2 ≤ n ∧ n < 65536) (hk : k < l.length) : nextP l k = 0 ↔ k + 1 = l.length := by
  unfold nextP
  rw [List.getD_eq_getElem?_getD]
  rcases Nat.lt_or_ge (k + 1) l.length with h1 | h1
  · rw [List.getElem?_eq_getElem h1]
    have := hr _ (List.getElem_mem h1)
    simp only [Option.getD_some]
    omega
  · rw [List.getElem?_eq_none h1]
    exact ⟨fun _ => by omega, fun _ => rfl⟩
theorem nextP_rng2 {l : List Int} (hr : ∀ n ∈ l, 2 ≤ n ∧ n < 65536) (k : Nat) : nextP l k = 0 ∨ (2 ≤ nextP l k ∧ nextP l k < 65536) := by
  unfold nextP
  rw [List.getD_eq_getElem?_getD]
  rcases Nat.lt_or_ge (k + 1) l.length with h1 | h1
  · rw [List.getElem?_eq_getElem h1]
    exact .inr (hr _ (List.getElem_mem h1))
  · rw [List.getElem?_eq_none h1]; exact .inl rfl
theorem nCh_last {len h k : Nat} (hh : 1 ≤ h) (hk : k < nCh len h) : k + 1 = nCh len h ↔ len - k * h ≤ h := by
  have h1 := nCh_lt (len := len) (k := k) hh
  have h2 := nCh_lt (len := len) (k := k + 1) hh
  rw [Nat.add_mul, Nat.one_mul] at h2
  omega
theorem getD_at {l : List Int} {i : Nat} (h : i < l.length) : l.getD i 0 = l[i] := by
  rw [List.getD_eq_getElem?_getD, List.getElem?_eq_getElem h]; rfl
theorem piece_take (v : List UInt8) (h i : Nat) : v.take (i * h) ++ pieceF v h i = v.take ((i + 1) * h) := by
  unfold pieceF mCh
  rw [Nat.add_mul, Nat.one_mul, List.take_add]
  congr 1
  rcases Nat.le_total h (v.length - i * h) with h1 | h1
  · rw [Nat.min_eq_left h1]
  · rw [Nat.min_eq_right h1, List.take_of_length_le (by rw [List.length_drop]; exact Nat.le_refl _), List.take_of_length_le (by rw [List.length_drop]; exact h1)]
/-- One step along a chain that holds v, seen as one of n bytes. -/
theorem step_law {S : BS} {l : List Int} {v : List UInt8} (hok : okB S) (h : HoldsV S l v) {i : Nat} (hi : i < l.length) (left : Int) :
    stepZ S l[i] left (l.take i) = (if ((pieceF v (S.page - 16) i).length : Int) ≠ min left ((S.page : Int) - 16) ∨ decide (nextP l i = 0) ≠ decide (left ≤ (S.page : Int) - 16) then 90 else 0) ∧
    stepS S l[i] (l.take i) = S.read ∧ stepN S l[i] = nextP l i ∧ stepD S l[i] = pieceF v (S.page - 16) i := by
  obtain ⟨hp1, hp2⟩ := isPowB_range hok.page
  have hni : l[i] ∉ l.take i := by
    intro hm
    obtain ⟨j, hj, he⟩ := List.getElem_of_mem hm
    rw [List.length_take] at hj
    rw [List.getElem_take] at he
    have := (List.pairwise_iff_getElem.1 h.nodup) j i (by omega) hi (by omega)
    exact this he
  have hpr := piece_rng (v := v) (h := S.page - 16) (k := i) (by omega) (by rw [← h.len]; exact hi)
  have hz := spZ_piece hok.page (nextP_rng2 h.rng i) hpr.1 hpr.2
  have hd := decS_laidS hz
  have hl : (laidS (nextP l i) (pieceF v (S.page - 16) i) S.page).length = S.page := laidS_length (by omega)
  obtain ⟨k1, k2, k3, k4⟩ := step_some (left := left) hni (h.held i hi)
  rw [hd, hl] at k1
  obtain ⟨d1, d2, -⟩ := dec_some hd
  rw [d1] at k3
  rw [d2] at k4
  refine ⟨?_, k2, k3, k4⟩
  rw [k1]
  by_cases hc : ((pieceF v (S.page - 16) i).length : Int) ≠ min left ((S.page : Int) - 16) ∨ decide (nextP l i = 0) ≠ decide (left ≤ (S.page : Int) - 16)
  · rw [if_pos hc, stepQ_bad rfl hc]
  · rw [if_neg hc, stepQ_ok rfl (Classical.byContradiction fun e => hc (.inl e)) (Classical.byContradiction fun e => hc (.inr e))]
theorem read_like (S : BS) : Like S S.read := ⟨rfl, rfl, rfl, rfl⟩
/-- A chain that holds v is read, as far as is asked. -/
theorem chF_from {S0 : BS} {l : List Int} {v : List UInt8} (hok : okB S0) (h : HoldsV S0 l v) {most : Nat} (hm : most ≤ v.length) : ∀ (k i f : Nat) (S : BS), i + k = nCh most (S0.page - 16) → Like S0 S → k + 1 ≤ f →
    ∃ S', chF (most : Int) f S (l.getD i 0) ((v.length : Int) - (i * (S0.page - 16) : Nat)) (l.take i) (v.take (i * (S0.page - 16))) = (0, l.take (i + k), v.take ((i + k) * (S0.page - 16)), S') ∧ Like S0 S' := by
  obtain ⟨hp1, hp2⟩ := isPowB_range hok.page
  intro k
  induction k with
  | zero =>
    intro i f S hk hS _
    refine ⟨S, ?_, hS⟩
    rw [Nat.add_zero, chF_done]
    have h1 := nCh_lt (len := most) (h := S0.page - 16) (k := i) (by omega)
    rw [List.length_take]
    omega
  | succ k ih =>
    intro i f S hk hS hf
    have hh1 : 1 ≤ S0.page - 16 := by omega
    have hlt : i < nCh most (S0.page - 16) := by omega
    have h1 := (nCh_lt hh1).1 hlt
    have hiv : i < nCh v.length (S0.page - 16) := (nCh_lt hh1).2 (by omega)
    have hil : i < l.length := by rw [h.len]; exact hiv
    have hlast := nCh_last hh1 hiv
    have hout : (v.take (i * (S0.page - 16))).length = i * (S0.page - 16) := by rw [List.length_take]; omega
    obtain ⟨s1, s2, s3, s4⟩ := step_law (hS.ok hok) (h.like hS) hil ((v.length : Int) - (i * (S0.page - 16) : Nat))
    rw [hS.page] at s1 s4
    have hpl := pieceF_length v (S0.page - 16) i
    have hmc : mCh v.length (S0.page - 16) i = min (S0.page - 16) (v.length - i * (S0.page - 16)) := rfl
    have hnz := nextP_zero h.rng hil
    rw [h.len] at hnz
    rw [if_neg] at s1
    · rw [getD_at hil, chF_next (by rw [hout]; omega) (by omega) s1 s3 s4]
      have e1 : l.take i ++ [l[i]] = l.take (i + 1) := by rw [List.take_succ_eq_append_getElem hil]
      rw [e1, piece_take]
      by_cases hk0 : k = 0
      · subst hk0
        refine ⟨S.read, ?_, hS.trans (read_like S)⟩
        have h3 := nCh_lt (len := most) (h := S0.page - 16) (k := i + 1) hh1
        rw [chF_done]
        rw [List.length_take]
        omega
      · have h3 := (nCh_lt (len := most) (h := S0.page - 16) (k := i + 1) hh1).1 (by omega)
        have h4 : i + 1 < l.length := by rw [h.len]; exact (nCh_lt hh1).2 (by omega)
        obtain ⟨S', e, hS'⟩ := ih (i + 1) (f - 1) S.read (by omega) (hS.trans (read_like S)) (by omega)
        refine ⟨S', ?_, hS'⟩
        rw [show i + (k + 1) = i + 1 + k by omega, ← e]
        have hnx : nextP l i = l.getD (i + 1) 0 := rfl
        rw [hnx]
        congr 1
        rw [hpl, hmc]
        have h5 : (i + 1) * (S0.page - 16) = i * (S0.page - 16) + (S0.page - 16) := by rw [Nat.add_mul, Nat.one_mul]
        omega
    · rintro (hc | hc)
      · apply hc
        rw [hpl, hmc]
        omega
      · apply hc
        rw [decide_eq_decide, hnz, hlast]
        omega
theorem chF_law {S : BS} {l : List Int} {v : List UInt8} (hok : okB S) (h : HoldsV S l v) {most : Nat} (hm : most ≤ v.length) (hv : v.length ≤ 65536) :
    ∃ S', chF (most : Int) (most + 1) S (l.getD 0 0) v.length [] [] = (0, l.take (nCh most (S.page - 16)), v.take (nCh most (S.page - 16) * (S.page - 16)), S') ∧ Like S S' := by
  obtain ⟨hp1, hp2⟩ := isPowB_range hok.page
  have hn : nCh most (S.page - 16) ≤ most := by
    rcases Nat.lt_or_ge most (nCh most (S.page - 16)) with h1 | h1
    · have := (nCh_lt (len := most) (h := S.page - 16) (k := most) (by omega)).1 h1
      have := Nat.le_mul_of_pos_right most (show 0 < S.page - 16 by omega)
      omega
    · exact h1
  obtain ⟨S', e, hS'⟩ := chF_from hok h hm (nCh most (S.page - 16)) 0 (most + 1) S (by omega) (Like.refl S) (by omega)
  refine ⟨S', ?_, hS'⟩
  rw [Nat.zero_mul, List.take_zero, List.take_zero, Nat.zero_add] at e
  rw [← e]
  simp
end Go.Proofs.Ytgnhakgfgdelpaa
