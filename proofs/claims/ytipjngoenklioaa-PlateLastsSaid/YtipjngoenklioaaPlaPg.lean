/- Pages as one list of bytes; what a fall leaves: plain laws. -/
import Derived.Test.YtipjngoenklioaaPlaFns2
namespace Go.Proofs.Ytipjngoenklioaa
open Go.RowKit
/-- The first bytes of page n are written over. -/
def putPg (pg : List (List UInt8)) (n : Nat) (m : List UInt8) : List (List UInt8) := pg.set n (m ++ (pg.getD n []).drop m.length)
theorem putPg_length (pg : List (List UInt8)) (n : Nat) (m : List UInt8) : (putPg pg n m).length = pg.length := by simp [putPg]
theorem putPg_each {pg : List (List UInt8)} {n P : Nat} {m : List UInt8} (h : ∀ l ∈ pg, l.length = P) (hn : n < pg.length) (hm : m.length ≤ P) : ∀ l ∈ putPg pg n m, l.length = P := by
  intro l hl
  rcases List.mem_or_eq_of_mem_set hl with h1 | rfl
  · exact h l h1
  · have := h pg[n] (List.getElem_mem hn)
    simp [List.getD, hn]; omega
theorem putPg_full {pg : List (List UInt8)} {n P : Nat} {m : List UInt8} (h : ∀ l ∈ pg, l.length = P) (hm : m.length = P) : putPg pg n m = pg.set n m := by
  unfold putPg
  by_cases hn : n < pg.length
  · have := h pg[n] (List.getElem_mem hn)
    rw [show (pg.getD n []).drop m.length = [] from List.drop_of_length_le (by simp [List.getD, hn]; omega), List.append_nil]
  · rw [List.set_eq_of_length_le (by omega), List.set_eq_of_length_le (by omega)]
theorem flat_len {P : Nat} : ∀ {pg : List (List UInt8)}, (∀ l ∈ pg, l.length = P) → pg.flatten.length = P * pg.length
  | [], _ => by simp
  | x :: r, h => by
    have h1 := h x (by simp)
    have h2 := flat_len (pg := r) (fun l hl => h l (by simp [hl]))
    rw [List.flatten_cons, List.length_append, h1, h2, List.length_cons, Nat.mul_add]; omega
theorem flat_splice {P : Nat} : ∀ (pg : List (List UInt8)) (n : Nat) (m : List UInt8), (∀ l ∈ pg, l.length = P) → n < pg.length → m.length ≤ P → splice pg.flatten (n * P) m = (putPg pg n m).flatten
  | [], _, _, _, h, _ => by simp at h
  | x :: r, 0, m, h, _, hm => by
    have h1 := h x (by simp)
    unfold splice putPg
    simp only [Nat.zero_mul, List.take_zero, Nat.zero_add, List.flatten_cons, List.nil_append, List.set_cons_zero, List.getD_cons_zero]
    rw [List.drop_append_of_le_length (by omega), List.append_assoc]
  | x :: r, n + 1, m, h, hn, hm => by
    have h1 := h x (by simp)
    have ih := flat_splice r n m (fun l hl => h l (by simp [hl])) (by simpa using hn) hm
    unfold splice at ih ⊢
    unfold putPg at ih ⊢
    have e : (n + 1) * P = x.length + n * P := by rw [Nat.add_mul, h1]; omega
    rw [List.flatten_cons, e, List.take_append, List.take_of_length_le (by omega), show x.length + n * P - x.length = n * P by omega, List.set_cons_succ, List.getD_cons_succ, List.flatten_cons, ← ih]
    rw [show x.length + n * P + m.length = x.length + (n * P + m.length) by omega, List.drop_append, List.drop_of_length_le (by omega)]
    simp [List.append_assoc]
theorem flat_page {P : Nat} : ∀ (pg : List (List UInt8)) (n : Nat) (_ : ∀ l ∈ pg, l.length = P) (h : n < pg.length), (pg.flatten.take ((n + 1) * P)).drop (n * P) = pg[n]
  | [], _, _, h => by simp at h
  | x :: r, 0, h, _ => by
    have h1 := h x (by simp)
    simp [List.take_append, h1]
  | x :: r, n + 1, h, hn => by
    have h1 := h x (by simp)
    have ih := flat_page r n (fun l hl => h l (by simp [hl])) (by simpa using hn)
    have e1 : (n + 1 + 1) * P = x.length + (n + 1) * P := by rw [Nat.add_mul (n + 1), h1]; omega
    have e2 : (n + 1) * P = x.length + n * P := by rw [Nat.add_mul, h1]; omega
    rw [List.flatten_cons, e1, List.take_append, List.take_of_length_le (by omega), show x.length + (n + 1) * P - x.length = (n + 1) * P by omega, e2, List.drop_append, List.drop_of_length_le (by omega), List.nil_append,
      show x.length + n * P - x.length = n * P by omega, ← e2, ih]
    rfl
/-- How much of a torn write stays. -/
def tornLen (at_ : Int) (P : Nat) : Nat := (min (max at_ 0) (P : Int)).toNat
theorem tornLen_le (at_ : Int) (P : Nat) : tornLen at_ P ≤ P := by unfold tornLen; omega
def fallOne (P : Nat) (ks : List Int) (torn at_ : Int) (i : Nat) (x : Nat × List UInt8) (pg : List (List UInt8)) : List (List UInt8) :=
  if (i : Int) = torn then putPg pg x.1 (x.2.take (tornLen at_ P)) else if (i : Int) ∈ ks then putPg pg x.1 x.2 else pg
/-- The first n loose writes have fallen. -/
def fallN (P : Nat) (ks : List Int) (torn at_ : Int) (ws : List (Nat × List UInt8)) (pg : List (List UInt8)) : Nat → List (List UInt8)
  | 0 => pg
  | n + 1 => match ws[n]? with
    | some x => fallOne P ks torn at_ n x (fallN P ks torn at_ ws pg n)
    | none => fallN P ks torn at_ ws pg n
theorem fallN_succ (P : Nat) (ks : List Int) (torn at_ : Int) (ws : List (Nat × List UInt8)) (pg : List (List UInt8)) (n : Nat) (h : n < ws.length) : fallN P ks torn at_ ws pg (n + 1) = fallOne P ks torn at_ n ws[n] (fallN P ks torn at_ ws pg n) := by
  rw [fallN, List.getElem?_eq_getElem h]
theorem fallOne_length (P : Nat) (ks : List Int) (torn at_ : Int) (i : Nat) (x : Nat × List UInt8) (pg : List (List UInt8)) : (fallOne P ks torn at_ i x pg).length = pg.length := by
  unfold fallOne
  split
  · exact putPg_length _ _ _
  · split
    · exact putPg_length _ _ _
    · rfl
theorem fallN_length (P : Nat) (ks : List Int) (torn at_ : Int) (ws : List (Nat × List UInt8)) (pg : List (List UInt8)) : ∀ n, (fallN P ks torn at_ ws pg n).length = pg.length
  | 0 => rfl
  | n + 1 => by
    rw [fallN]
    split
    · rw [fallOne_length, fallN_length P ks torn at_ ws pg n]
    · exact fallN_length P ks torn at_ ws pg n
theorem fallOne_each {P : Nat} {ks : List Int} {torn at_ : Int} {i : Nat} {x : Nat × List UInt8} {pg : List (List UInt8)} (h : ∀ l ∈ pg, l.length = P) (h1 : x.1 < pg.length) (h2 : x.2.length = P) : ∀ l ∈ fallOne P ks torn at_ i x pg, l.length = P := by
  unfold fallOne
  split
  · exact putPg_each h h1 (by simp; omega)
  · split
    · exact putPg_each h h1 (by omega)
    · exact h
theorem fallN_each {P : Nat} {ks : List Int} {torn at_ : Int} {ws : List (Nat × List UInt8)} {pg : List (List UInt8)} (h : ∀ l ∈ pg, l.length = P) (hw : ∀ x ∈ ws, x.1 < pg.length ∧ x.2.length = P) : ∀ n, ∀ l ∈ fallN P ks torn at_ ws pg n, l.length = P
  | 0 => h
  | n + 1 => by
    rw [fallN]
    split
    · rename_i x hx
      have hm := hw x (List.mem_of_getElem? hx)
      exact fallOne_each (fallN_each h hw n) (by rw [fallN_length]; exact hm.1) hm.2
    · exact fallN_each h hw n
/-- All that was written is safe. -/
def syncPg (ws : List (Nat × List UInt8)) (pg : List (List UInt8)) : List (List UInt8) := ws.foldl (fun pg x => pg.set x.1 x.2) pg
theorem syncPg_length (ws : List (Nat × List UInt8)) : ∀ pg : List (List UInt8), (syncPg ws pg).length = pg.length := by
  induction ws with
  | nil => intro pg; rfl
  | cons x r ih => intro pg; show (syncPg r (pg.set x.1 x.2)).length = _; rw [ih]; simp
theorem syncPg_snoc (ws : List (Nat × List UInt8)) (x : Nat × List UInt8) (pg : List (List UInt8)) : syncPg (ws ++ [x]) pg = (syncPg ws pg).set x.1 x.2 := by simp [syncPg]
/-- A page as it is read. -/
def readPg (ws : List (Nat × List UInt8)) (pg : List (List UInt8)) (n : Nat) : Option (List UInt8) :=
  match lastI ws (n : Int) with
  | some i => (ws[i]?).map (·.2)
  | none => pg[n]?
theorem snoc_ind {α : Type} {p : List α → Prop} (h0 : p []) (h1 : ∀ l x, p l → p (l ++ [x])) : ∀ l, p l := by
  intro l
  rw [← List.reverse_reverse l]
  induction l.reverse with
  | nil => exact h0
  | cons x r ih => rw [List.reverse_cons]; exact h1 _ _ ih
theorem syncPg_get (pg : List (List UInt8)) (n : Nat) (hn : n < pg.length) : ∀ ws : List (Nat × List UInt8), (syncPg ws pg)[n]? = readPg ws pg n := by
  refine snoc_ind rfl fun ws x ih => ?_
  · rw [syncPg_snoc]
    unfold readPg
    rw [lastI_snoc]
    by_cases h : x.1 = n
    · subst h
      rw [if_pos rfl]
      simp [syncPg_length, hn]
    · rw [if_neg (by omega), List.getElem?_set_ne h, ih]
      unfold readPg
      split
      · rename_i i hi
        obtain ⟨hlt, _⟩ := lastI_some hi
        rw [List.getElem?_append_left hlt]
      · rfl
end Go.Proofs.Ytipjngoenklioaa
