/- Writes made safe in any order: plain laws. -/
import Derived.Test.YtipjngoenklioaaPlaWrite2
namespace Go.Proofs.Ytipjngoenklioaa
open Go.RowKit Go.WideShapes
/-- Pages as they are while some of them (left) are still to be written. -/
def mix (ws : List (Nat × List UInt8)) (pg : List (List UInt8)) (left : Lit → Bool) : List (List UInt8) :=
  (List.range pg.length).map fun (n : Nat) => if left (.int .i64 (n : Int)) then pg.getD n [] else (readPg ws pg n).getD []
theorem mix_length (ws : List (Nat × List UInt8)) (pg : List (List UInt8)) (left : Lit → Bool) : (mix ws pg left).length = pg.length := by simp [mix]
theorem mix_get (ws : List (Nat × List UInt8)) (pg : List (List UInt8)) (left : Lit → Bool) {n : Nat} (hn : n < pg.length) :
    (mix ws pg left)[n]? = some (if left (.int .i64 (n : Int)) then pg.getD n [] else (readPg ws pg n).getD []) := by
  unfold mix
  rw [List.getElem?_map, List.getElem?_range hn]
  rfl
theorem readPg_some {ws : List (Nat × List UInt8)} {pg : List (List UInt8)} {n : Nat} (hn : n < pg.length) : ∃ l, readPg ws pg n = some l := by
  unfold readPg
  split
  · rename_i i hi
    obtain ⟨h, _⟩ := lastI_some hi
    rw [List.getElem?_eq_getElem h]
    exact ⟨_, rfl⟩
  · exact ⟨_, List.getElem?_eq_getElem hn⟩
theorem mix_start {D : DataW Unit} {ws : List (Nat × List UInt8)} (h : LastD D ws) (pg : List (List UInt8)) : mix ws pg (Maps.has D) = pg := by
  apply List.ext_getElem?
  intro n
  rcases Nat.lt_or_ge n pg.length with hn | hn
  · rw [mix_get ws pg _ hn, List.getElem?_eq_getElem hn]
    congr 1
    split
    · simp [List.getD, hn]
    · rename_i hh
      rw [(h.2 n).1] at hh
      have : lastI ws (n : Int) = none := by
        cases e : lastI ws (n : Int)
        · rfl
        · rw [e] at hh; exact absurd rfl hh
      unfold readPg
      rw [this]
      simp [hn]
  · rw [List.getElem?_eq_none (by rw [mix_length]; exact hn), List.getElem?_eq_none hn]
theorem mix_step {ws : List (Nat × List UInt8)} {pg : List (List UInt8)} {left : Lit → Bool} {p i : Nat} {l : List UInt8} (hi : lastI ws (p : Int) = some i) (hw : ws[i]? = some (p, l)) (hp : p < pg.length) :
    mix ws pg (fun z => left z && !z.sameKey (.int .i64 (p : Int))) = (mix ws pg left).set p l := by
  apply List.ext_getElem?
  intro n
  rcases Nat.lt_or_ge n pg.length with hn | hn
  · rw [mix_get ws pg _ hn]
    by_cases e : n = p
    · subst e
      rw [List.getElem?_set_self (by rw [mix_length]; exact hn)]
      have : ((Lit.int .i64 (n : Int)).sameKey (.int .i64 (n : Int))) = true := by simp [Lit.sameKey]
      rw [this]
      unfold readPg
      simp [hi, hw]
    · rw [List.getElem?_set_ne (by omega), mix_get ws pg _ hn]
      have : ((Lit.int .i64 (n : Int)).sameKey (.int .i64 (p : Int))) = false := by simp [Lit.sameKey]; omega
      rw [this]
      simp
  · rw [List.getElem?_eq_none (by rw [mix_length]; exact hn), List.getElem?_eq_none (by simp [mix_length]; exact hn)]
theorem mix_end {ws : List (Nat × List UInt8)} {pg : List (List UInt8)} {left : Lit → Bool} (h : ∀ z, left z = false) : mix ws pg left = syncPg ws pg := by
  apply List.ext_getElem?
  intro n
  rcases Nat.lt_or_ge n pg.length with hn | hn
  · rw [mix_get ws pg _ hn, syncPg_get pg n hn ws, h]
    obtain ⟨l, hl⟩ := readPg_some (ws := ws) hn
    rw [hl]; rfl
  · rw [List.getElem?_eq_none (by rw [mix_length]; exact hn), List.getElem?_eq_none (by rw [syncPg_length]; exact hn)]
theorem mix_each {ws : List (Nat × List UInt8)} {pg : List (List UInt8)} {left : Lit → Bool} {P : Nat} (h : ∀ l ∈ pg, l.length = P) (hw : ∀ x ∈ ws, x.2.length = P) : ∀ l ∈ mix ws pg left, l.length = P := by
  intro l hl
  obtain ⟨n, hn, rfl⟩ := List.mem_map.1 hl
  have hn := List.mem_range.1 hn
  split
  · simp only [List.getD, List.getElem?_eq_getElem hn, Option.getD_some]
    exact h _ (List.getElem_mem hn)
  · obtain ⟨l, hl⟩ := readPg_some (ws := ws) hn
    rw [hl, Option.getD_some]
    unfold readPg at hl
    split at hl
    · rename_i i hi
      obtain ⟨hlt, _⟩ := lastI_some hi
      rw [List.getElem?_eq_getElem hlt] at hl
      injection hl with hl
      rw [← hl]
      exact hw _ (List.getElem_mem hlt)
    · exact h _ (List.mem_of_getElem? hl)
/-- What the range step brings: the last write to a page. -/
theorem LastD.key {D : DataW Unit} {ws : List (Nat × List UInt8)} (h : LastD D ws) {x c : Int} (hat : ∀ zd, D.atKey (.int .i64 x) zd = .lit (.int .i64 c)) : ∃ (i : Nat) (hi : i < ws.length), c = (i : Int) ∧ x = (ws[i].1 : Int) ∧ lastI ws x = some i := by
  have hh := Maps.has_true_of_atKey (h := hat)
  rw [(h.2 x).1] at hh
  obtain ⟨i, hi⟩ := Option.isSome_iff_exists.1 hh
  obtain ⟨h1, h2⟩ := lastI_some hi
  have h3 := (h.2 x).2 i hi (.lit (.int .i64 0))
  rw [hat] at h3
  injection h3 with h3
  injection h3 with _ h3
  exact ⟨i, h1, h3, h2.symm, hi⟩
end Go.Proofs.Ytipjngoenklioaa
