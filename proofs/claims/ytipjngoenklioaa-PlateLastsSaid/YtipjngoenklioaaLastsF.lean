/- espalierlaw03.PlateLasts: what a fall may change: plain laws. -/
import Derived.Test.YtipjngoenklioaaPlaImg
import Derived.Test.YtipjngoenklioaaOpenOps
namespace Go.Proofs.Ytipjngoenklioaa
open Go.RowKit
def nOf (n : Int) : Nat := (bits .and .i64 n 7).toNat
theorem nOf_eq (n : Int) : bits .and .i64 n 7 = (nOf n : Int) ∧ nOf n < 8 := by
  have e : bits .and .i64 n 7 = IntKind.i64.wrap (((BitVec.ofInt 64 n) &&& (BitVec.ofInt 64 7)).toNat : Int) := rfl
  have h7 : (BitVec.ofInt 64 7).toNat = 7 := by decide
  have h : ((BitVec.ofInt 64 n) &&& (BitVec.ofInt 64 7)).toNat ≤ 7 := by
    rw [BitVec.toNat_and, h7]
    exact Nat.and_le_right
  unfold nOf
  rw [e, IntKind.wrap_i64]
  omega
def byteAt (pg : List (List UInt8)) (q j : Nat) : Option UInt8 := (pg[q]?).bind fun l => l[j]?
/-- Each byte is that of B, or that of a write to its page. -/
def MayPg (ws : List (Nat × List UInt8)) (B A : List (List UInt8)) : Prop :=
  A.length = B.length ∧ ∀ q j, byteAt A q j = byteAt B q j ∨ ∃ x ∈ ws, x.1 = q ∧ byteAt A q j = x.2[j]?
theorem MayPg.refl (ws : List (Nat × List UInt8)) (B : List (List UInt8)) : MayPg ws B B := ⟨rfl, fun _ _ => .inl rfl⟩
theorem byteAt_put (pg : List (List UInt8)) (n : Nat) (m : List UInt8) (q j : Nat) : byteAt (putPg pg n m) q j = byteAt pg q j ∨ (q = n ∧ j < m.length ∧ byteAt (putPg pg n m) q j = m[j]?) := by
  unfold putPg byteAt
  by_cases h : n = q
  · subst h
    by_cases hn : n < pg.length
    · rw [List.getElem?_set_self hn, List.getElem?_eq_getElem hn]
      simp only [Option.bind_some, List.getD, List.getElem?_eq_getElem hn, Option.getD_some]
      rcases Nat.lt_or_ge j m.length with hj | hj
      · refine .inr ⟨trivial, hj, ?_⟩
        exact List.getElem?_append_left hj
      · refine .inl ?_
        rw [List.getElem?_append_right hj, List.getElem?_drop]
        congr 1; omega
    · rw [List.set_eq_of_length_le (by omega)]; exact .inl rfl
  · rw [List.getElem?_set_ne h]; exact .inl rfl
theorem MayPg.put {ws : List (Nat × List UInt8)} {B A : List (List UInt8)} (h : MayPg ws B A) {x : Nat × List UInt8} (hx : x ∈ ws) (k : Nat) : MayPg ws B (putPg A x.1 (x.2.take k)) := by
  refine ⟨by rw [putPg_length]; exact h.1, fun q j => ?_⟩
  rcases byteAt_put A x.1 (x.2.take k) q j with e | ⟨rfl, hj, e⟩
  · rw [e]; exact h.2 q j
  · refine .inr ⟨x, hx, rfl, ?_⟩
    rw [e, List.getElem?_take, if_pos (by simp at hj; omega)]
theorem MayPg.fallOne {P : Nat} {ks : List Int} {torn at_ : Int} {i : Nat} {ws : List (Nat × List UInt8)} {B A : List (List UInt8)} (h : MayPg ws B A) {x : Nat × List UInt8} (hx : x ∈ ws) : MayPg ws B (fallOne P ks torn at_ i x A) := by
  unfold Proofs.Ytipjngoenklioaa.fallOne
  split
  · exact h.put hx _
  · split
    · have := h.put hx x.2.length
      rwa [List.take_length] at this
    · exact h
theorem MayPg.fall (P : Nat) (ks : List Int) (torn at_ : Int) (ws : List (Nat × List UInt8)) (B : List (List UInt8)) : ∀ n, MayPg ws B (fallN P ks torn at_ ws B n)
  | 0 => MayPg.refl _ _
  | n + 1 => by
    rw [fallN]
    split
    · rename_i x hx
      exact (MayPg.fall P ks torn at_ ws B n).fallOne (List.mem_of_getElem? hx)
    · exact MayPg.fall P ks torn at_ ws B n
theorem MayPg.mono {ws ws' : List (Nat × List UInt8)} {B A : List (List UInt8)} (h : MayPg ws B A) (hs : ∀ x ∈ ws, x ∈ ws') : MayPg ws' B A :=
  ⟨h.1, fun q j => (h.2 q j).imp id fun ⟨x, hx, e⟩ => ⟨x, hs x hx, e⟩⟩
theorem flat_at {P : Nat} (hP : 0 < P) : ∀ (pg : List (List UInt8)) (k : Nat), (∀ l ∈ pg, l.length = P) → pg.flatten[k]? = byteAt pg (k / P) (k % P)
  | [], k, _ => by simp [byteAt]
  | x :: r, k, h => by
    have h1 := h x (by simp)
    rw [List.flatten_cons]
    rcases Nat.lt_or_ge k P with hk | hk
    · rw [List.getElem?_append_left (by omega), Nat.div_eq_of_lt hk, Nat.mod_eq_of_lt hk]; rfl
    · rw [List.getElem?_append_right (by omega), h1, flat_at hP r (k - P) (fun l hl => h l (by simp [hl]))]
      have e1 : k / P = (k - P) / P + 1 := by
        rw [← Nat.add_div_right _ hP, Nat.sub_add_cancel hk]
      have e2 : k % P = (k - P) % P := by
        rw [← Nat.add_mod_right (k - P) P, Nat.sub_add_cancel hk]
      rw [e1, e2]
      rfl
/-- The writes that ops stand for. -/
def wsOf (l : List OpV) : List (Nat × List UInt8) := l.map fun o => (nOf o.n, List.replicate 512 o.byte)
/-- The check of one byte, after i writes. -/
def mayF (l : List OpV) (a b : UInt8) (q : Nat) : Nat → Bool
  | 0 => a == b
  | i + 1 => mayF l a b q i || ((nOf (l.getD i default).n == q) && (a == (l.getD i default).byte))
theorem mayF_true {l : List OpV} {a b : UInt8} {q n : Nat} (h : a = b ∨ ∃ i, i < n ∧ nOf (l.getD i default).n = q ∧ a = (l.getD i default).byte) : mayF l a b q n = true := by
  induction n with
  | zero =>
    rcases h with h | ⟨i, hi, _⟩
    · simp [mayF, h]
    · omega
  | succ n ih =>
    rw [mayF]
    rcases h with h | ⟨i, hi, h1, h2⟩
    · rw [ih (.inl h)]; rfl
    · by_cases e : i = n
      · subst e
        rw [Bool.or_eq_true, Bool.and_eq_true]
        exact .inr ⟨by rw [h1]; exact beq_self_eq_true _, by rw [← h2]; exact beq_self_eq_true _⟩
      · rw [ih (.inr ⟨i, by omega, h1, h2⟩)]; rfl
theorem may_bytes {l : List OpV} {n : Nat} (hn : n ≤ l.length) {B A : List (List UInt8)} (h : MayPg (wsOf (l.take n)) B A) (hA : ∀ x ∈ A, x.length = 512) (hB : ∀ x ∈ B, x.length = 512) {k : Nat} {a b : UInt8} (ha : A.flatten[k]? = some a) (hb : B.flatten[k]? = some b) :
    mayF l a b (k / 512) n = true := by
  rw [flat_at (P := 512) (by omega) A k hA] at ha
  rw [flat_at (P := 512) (by omega) B k hB] at hb
  refine mayF_true ?_
  rcases h.2 (k / 512) (k % 512) with e | ⟨x, hx, e1, e2⟩
  · rw [ha, hb] at e
    exact .inl (Option.some.inj e)
  · obtain ⟨o, ho, rfl⟩ := List.mem_map.1 hx
    obtain ⟨i, hi, rfl⟩ := List.getElem_of_mem ho
    have hi' : i < n := by simp at hi; omega
    have hil : i < l.length := by omega
    refine .inr ⟨i, hi', ?_, ?_⟩
    · simp only [List.getD, List.getElem?_eq_getElem hil, Option.getD_some]
      simpa using e1
    · rw [ha] at e2
      rw [List.getElem?_replicate, if_pos (Nat.mod_lt _ (by omega))] at e2
      simp only [List.getD, List.getElem?_eq_getElem hil, Option.getD_some]
      simpa using Option.some.inj e2
end Go.Proofs.Ytipjngoenklioaa
