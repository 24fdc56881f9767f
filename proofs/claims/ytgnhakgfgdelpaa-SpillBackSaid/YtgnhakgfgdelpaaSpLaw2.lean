/- What Write and Free of a long value do to a bench: plain laws. -/
import Derived.Test.YtgnhakgfgdelpaaSpLaw
namespace Go.Proofs.Ytgnhakgfgdelpaa
open Go.RowKit
theorem cnt_full {S : BS} (h : allocF S = none) : S.pages ≤ cntB S + 2 := by
  unfold allocF at h
  rw [List.find?_eq_none] at h
  have h2 : ∀ N, N ≤ S.pages → N ≤ ((List.range N).filter fun (n : Nat) => (S.held n).isSome).length + 2 := by
    intro N
    induction N with
    | zero => intro _; omega
    | succ N ih =>
      intro hN
      have h1 := ih (by omega)
      rw [List.range_succ, List.filter_append, List.length_append]
      rcases Nat.lt_or_ge N 2 with h3 | h3
      · omega
      · have h4 := h N (List.mem_range.2 (by omega))
        simp only [freeAt, decide_eq_true h3, Bool.true_and, Bool.not_eq_true] at h4
        have h5 : (S.held (N : Int)).isSome = true := by
          cases e : S.held (N : Int) with
          | none => rw [e] at h4; cases h4
          | some l => rfl
        have h6 : ([N].filter fun (n : Nat) => (S.held n).isSome) = [N] := by simp [h5]
        rw [h6, List.length_singleton]
        omega
  exact h2 S.pages (Nat.le_refl _)
structure Alloc (S S' : BS) (l : List Int) : Prop where
  eng : S'.eng = S.eng
  page : S'.page = S.page
  pages : S'.pages = S.pages
  nodup : l.Nodup
  rng : ∀ n ∈ l, 2 ≤ n ∧ n < S.pages
  old : ∀ n ∈ l, S.held n = none
  new : ∀ n ∈ l, S'.held n ≠ none
  rest : ∀ n, n ∉ l → S'.held n = S.held n
  cnt : cntB S' = cntB S + l.length
  ok : okB S'
theorem allocN_law : ∀ (k : Nat) (S : BS) (l : List Int), okB S → cntB S + k + 2 ≤ S.pages → ∃ l' S', allocN k S l = (some (l ++ l'), S') ∧ l'.length = k ∧ Alloc S S' l'
  | 0, S, l, hok, _ => ⟨[], S, by rw [List.append_nil]; rfl, rfl, rfl, rfl, rfl, List.nodup_nil, fun _ h => (by cases h), fun _ h => (by cases h), fun _ h => (by cases h), fun _ _ => rfl, rfl, hok⟩
  | k + 1, S, l, hok, hc => by
    cases e : allocF S with
    | none => have := cnt_full e; omega
    | some n =>
      obtain ⟨h1, h2, h3⟩ := allocF_spec e
      have hp := isPowB_range hok.page
      have hok2 : okB (S.put n (some (List.replicate S.page 0))) := hok.put (fun _ => by omega) (fun l' hl' => by obtain rfl := Option.some.inj hl'; rw [List.length_replicate]; omega)
      have hcp := cntB_put (S := S) (n := (n : Int)) (some (List.replicate S.page 0)) (by omega) (by omega)
      rw [h3] at hcp
      simp at hcp
      obtain ⟨l', S', h4, h5, h6⟩ := allocN_law k (S.put n (some (List.replicate S.page 0))) (l ++ [(n : Int)]) hok2 (by rw [hcp]; show _ ≤ S.pages; omega)
      have hn : (n : Int) ∉ l' := fun hm => by have := h6.old _ hm; simp [BS.put] at this
      have hput : ∀ m, m ≠ (n : Int) → (S.put n (some (List.replicate S.page 0))).held m = S.held m := fun m hm => by unfold BS.put; simp only [if_neg hm]
      refine ⟨(n : Int) :: l', S', ?_, by rw [List.length_cons, h5], h6.eng, h6.page, h6.pages, List.nodup_cons.2 ⟨hn, h6.nodup⟩, fun m hm => ?_, fun m hm => ?_, fun m hm => ?_, fun m hm => ?_, ?_, h6.ok⟩
      · rw [allocN, e]
        show allocN k _ _ = _
        rw [h4, List.append_assoc]; rfl
      · rcases List.mem_cons.1 hm with rfl | hm
        · omega
        · exact h6.rng m hm
      · rcases List.mem_cons.1 hm with rfl | hm
        · exact h3
        · rw [← hput m (fun e => hn (e ▸ hm))]; exact h6.old m hm
      · rcases List.mem_cons.1 hm with rfl | hm
        · rw [h6.rest _ hn]; simp [BS.put]
        · exact h6.new m hm
      · rw [List.mem_cons, not_or] at hm
        rw [h6.rest m hm.2, hput m hm.1]
      · rw [h6.cnt, hcp, List.length_cons]; omega
theorem putTo_law {S : BS} {l : List Int} {v : List UInt8} (hok : okB S) (hn : l.Nodup) (hr : ∀ n ∈ l, 2 ≤ n ∧ n < S.pages) (hh : ∀ n ∈ l, S.held n ≠ none) (hl : l.length = nCh v.length (S.page - 16)) : ∀ k, k ≤ l.length →
    okB (putTo S l v k) ∧ cntB (putTo S l v k) = cntB S ∧ (putTo S l v k).eng = S.eng ∧ (∀ i (hi : i < l.length), i < k → (putTo S l v k).held l[i] = some (laidS (nextP l i) (pieceF v (S.page - 16) i) S.page)) ∧ ∀ m, m ∉ l → (putTo S l v k).held m = S.held m
  | 0, _ => ⟨hok, rfl, rfl, fun _ _ h => absurd h (Nat.not_lt_zero _), fun _ _ => rfl⟩
  | k + 1, hk => by
    obtain ⟨h1, h2, h3, h4, h5⟩ := putTo_law hok hn hr hh hl k (by omega)
    obtain ⟨hp1, hp2⟩ := isPowB_range hok.page
    obtain ⟨q1, q2⟩ := putTo_page S l v k
    have hkl : k < l.length := by omega
    have hm := List.getElem_mem hkl
    have hpr := piece_rng (v := v) (h := S.page - 16) (k := k) (by omega) (by omega)
    have hll : (laidS (nextP l k) (pieceF v (S.page - 16) k) S.page).length = S.page := laidS_length (by omega)
    have hrk := hr _ hm
    have hsk := putTo_held (l := l) (v := v) (hh _ hm) k
    have e : putTo S l v (k + 1) = (putTo S l v k).put l[k] (some (laidS (nextP l k) (pieceF v (S.page - 16) k) S.page)) := by rw [putTo, getD_at hkl]
    rw [e]
    have hput : ∀ m, m ≠ l[k] → ((putTo S l v k).put l[k] (some (laidS (nextP l k) (pieceF v (S.page - 16) k) S.page))).held m = (putTo S l v k).held m := fun m hm => by unfold BS.put; simp only [if_neg hm]
    refine ⟨h1.put (fun _ => by rw [q2]; exact hrk) (fun l' hl' => by obtain rfl := Option.some.inj hl'; rw [hll]; omega), ?_, h3, fun i hi hik => ?_, fun m hm2 => ?_⟩
    · have := cntB_put (S := putTo S l v k) (n := l[k]) (some (laidS (nextP l k) (pieceF v (S.page - 16) k) S.page)) (by omega) (by rw [q2]; omega)
      rw [Option.isSome_iff_ne_none.2 hsk] at this
      simp at this
      rw [this, h2]
    · by_cases hik2 : i = k
      · subst hik2; unfold BS.put; simp
      · rw [hput _ (fun e => (List.pairwise_iff_getElem.1 hn) i k hi hkl (by omega) e)]
        exact h4 i hi (by omega)
    · rw [hput m (fun e => hm2 (e ▸ hm)), h5 m hm2]
/-- What Write of a value does, where there is room. -/
theorem wrF_law {S : BS} {v : List UInt8} (hok : okB S) (h1 : 1 ≤ v.length) (h2 : v.length ≤ 65536) (hc : cntB S + nCh v.length (S.page - 16) + 2 ≤ S.pages) :
    ∃ l S', wrF S v = (l.getD 0 0, 0, S') ∧ HoldsV S' l v ∧ Alloc S S' l := by
  have hb : ¬ (v.length < 1 ∨ 65536 < v.length) := by omega
  rw [wrF_ok hok.page hb, if_neg (by unfold spareF; rw [decide_eq_true (by omega)]; simp)]
  obtain ⟨l, S', e, hl, hA⟩ := allocN_law (nCh v.length (S.page - 16)) S [] hok hc
  rw [e, List.nil_append]
  have hl' : l.length = nCh v.length (S'.page - 16) := by rw [hA.page, hl]
  obtain ⟨k1, k2, k3, k4, k5⟩ := putTo_law (v := v) hA.ok hA.nodup (by rw [hA.pages]; exact hA.rng) hA.new hl' l.length (Nat.le_refl _)
  obtain ⟨q1, q2⟩ := putTo_page S' l v l.length
  have hhi := hok.hi
  refine ⟨l, putTo S' l v l.length, by rw [← hl]; rfl, ⟨by rw [q1]; exact hl', hA.nodup, fun n hn => by have := hA.rng n hn; omega, fun i hi => by rw [q1]; exact k4 i hi hi⟩, ⟨k3.trans hA.eng, q1.trans hA.page, q2.trans hA.pages, hA.nodup, hA.rng, hA.old, fun n hn => putTo_held (hA.new n hn) _, fun n hn => (k5 n hn).trans (hA.rest n hn), k2.trans hA.cnt, k1⟩⟩
/-- What Free of pages that are there does. -/
theorem freeAll_law : ∀ (l : List Int) (z : Int) (S : BS), okB S → l.Nodup → (∀ n ∈ l, S.held n ≠ none) → ∃ S', freeAll l z S = (if l = [] then z else 0, S') ∧ S'.eng = S.eng ∧ S'.page = S.page ∧ S'.pages = S.pages ∧ okB S' ∧ (∀ n ∈ l, S'.held n = none) ∧ ∀ n, n ∉ l → S'.held n = S.held n
  | [], z, S, hok, _, _ => ⟨S, rfl, rfl, rfl, rfl, hok, fun _ h => (by cases h), fun _ _ => rfl⟩
  | p :: ps, z, S, hok, hn, hh => by
    have h1 := hh p (List.mem_cons_self ..)
    obtain ⟨hn1, hn2⟩ := List.nodup_cons.1 hn
    have e1 : freeZ S p = 0 := by unfold freeZ; rw [if_neg h1]
    have e2 : freeS S p = S.put p none := by unfold freeS; rw [if_neg h1]
    have hput : ∀ m, m ≠ p → (S.put p none).held m = S.held m := fun m hm => by unfold BS.put; simp only [if_neg hm]
    have hok2 : okB (S.put p none) := hok.put (fun h => by cases h) (fun _ h => by cases h)
    obtain ⟨S', k1, k2, k3, k4, k5, k6, k7⟩ := freeAll_law ps 0 (S.put p none) hok2 hn2 (fun n hm => by rw [hput n (fun e => hn1 (e ▸ hm))]; exact hh n (List.mem_cons_of_mem _ hm))
    refine ⟨S', ?_, k2, k3, k4, k5, fun n hm => ?_, fun n hm => ?_⟩
    · rw [freeAll, if_pos e1, e2, k1]
      by_cases hp : ps = []
      · simp [hp]
      · simp [hp]
    · rcases List.mem_cons.1 hm with rfl | hm
      · rw [k7 _ hn1]; simp [BS.put]
      · exact k6 n hm
    · rw [List.mem_cons, not_or] at hm
      rw [k7 n hm.2, hput n hm.1]
theorem takenF_length {S : BS} (hok : okB S) : (takenF S).length = cntB S := by
  unfold takenF takenTo cntB
  rw [List.length_map]
  congr 1
  apply List.filter_congr
  intro n _
  cases e : (S.held (n : Int)).isSome with
  | false => rw [Bool.and_false]
  | true =>
    have := (hok.dom n e).1
    rw [decide_eq_true (by omega)]; rfl
theorem takenF_congr {S S' : BS} (h1 : S'.pages = S.pages) (h2 : ∀ n, S'.held n = S.held n) : takenF S' = takenF S := by
  unfold takenF takenTo
  rw [h1, funext h2]
theorem takenF_none {S : BS} (h : ∀ n, S.held n = none) : takenF S = [] := by
  unfold takenF takenTo
  rw [show S.held = fun _ => none from funext h]
  simp
theorem emptyB_ok {eng page pages : Int} (h : newB page pages = true) : okB (emptyB eng page pages) := by
  unfold newB at h
  simp at h
  obtain ⟨h1, h2, h3⟩ := h
  have hp := isPowB_range h1
  refine ⟨by show isPowB ((page.toNat : Nat) : Int) = true; rw [show ((page.toNat : Nat) : Int) = page by omega]; exact h1, by show 2 ≤ pages.toNat; omega, by show pages.toNat ≤ 65536; omega, fun _ h => (by cases h), fun _ _ h => (by cases h)⟩
theorem emptyB_cnt (eng page pages : Int) : cntB (emptyB eng page pages) = 0 := by
  unfold cntB emptyB
  simp
end Go.Proofs.Ytgnhakgfgdelpaa
