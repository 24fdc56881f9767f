/- Lists of bytes that were lent. -/
import Derived.Test.YtijlebjldnhnaaaLawTurned
import Derived.Test.YtijlebjldnhnaaaInkRefTxt2
import Derived.Test.YtijlebjldnhnaaaOpenRows
import Derived.Test.YtijlebjldnhnaaaLawWrites
namespace Go.Proofs.Ytijlebjldnhnaaa
open Go.RowKit
/-- Bytes that were lent. -/
def LentAt (w : World) (base : Nat) (u : Value) (l : List UInt8) : Prop := ∃ g, u = .slice (some ⟨g, 0, none⟩) l.length (l.length + 3) ∧ OwB w base (.slice (some ⟨g, 0, none⟩) (l.length + 3) (l.length + 3)) (l ++ marks)
theorem LentAt.rd {w : World} {base : Nat} {u : Value} {l : List UInt8} (h : LentAt w base u l) : RdB w u l := by
  obtain ⟨g, rfl, ho⟩ := h
  exact ho.part rfl
theorem LentAt.lt {w : World} {base : Nat} {u : Value} {l : List UInt8} (h : LentAt w base u l) : ∀ g, u.ownBlock = some g → base ≤ g ∧ g < w.heap.size := by
  obtain ⟨g, rfl, ho⟩ := h
  exact fun k hk => ho.lt k hk
theorem LentAt.below {w w' : World} {base : Nat} {u : Value} {l : List UInt8} (h : LentAt w base u l) (hb : Below w.heap.size w w') : LentAt w' base u l := by
  obtain ⟨g, rfl, ho⟩ := h
  exact ⟨g, rfl, ho.below' hb (Nat.le_refl _)⟩
theorem LentAt.grown {w w' : World} {base : Nat} {row : Option Nat} {u : Value} {l : List UInt8} (h : LentAt w base u l) (hg : w.grownBy w' row) (hne : ∀ g, u.ownBlock = some g → some g ≠ row) : LentAt w' base u l := by
  obtain ⟨g, rfl, ho⟩ := h
  exact ⟨g, rfl, ho.grown hg hne⟩
theorem LentAt.low {w : World} {base b : Nat} {u : Value} {l : List UInt8} (h : LentAt w base u l) (hb : b ≤ base) : LentAt w b u l := by
  obtain ⟨g, rfl, ho⟩ := h
  exact ⟨g, rfl, ho.low hb⟩
theorem LentAt.ne_own {w : World} {b b' n : Nat} {u v : Value} {l : List UInt8} {vs : List Value} (h : LentAt w b u l) (h' : Own w b' 24 1 v n vs) : ∀ g, u.ownBlock = some g → some g ≠ v.ownBlock := by
  obtain ⟨g, rfl, ho⟩ := h
  exact fun k hk he => ho.ne_own h' he.symm hk.symm
theorem LentAt.one {w : World} {b : Nat} {u : Value} {l : List UInt8} (h : LentAt w b u l) : u.oneCell' = true := by
  obtain ⟨g, rfl, ho⟩ := h
  rfl
/-- The lists that were lent so far. -/
structure LentI (w : World) (ls : List (List UInt8)) (k : Nat) (got : Value) (vs : List Value) (wi : World) : Prop where
  len : vs.length = k
  own : Own wi w.heap.size 24 1 got vs.length vs
  el : ∀ (j : Nat) (u : Value), vs[j]? = some u → LentAt wi w.heap.size u (ls.getD j [])
  ap : ∀ (i j : Nat) (u u' : Value), i ≠ j → vs[i]? = some u → vs[j]? = some u' → ∀ g, u.ownBlock = some g → some g ≠ u'.ownBlock
  hb : Below w.heap.size w wi
section
variable {w wi w' : World} {ls : List (List UInt8)} {k : Nat} {got : Value} {vs : List Value}
theorem LentI.below (h : LentI w ls k got vs wi) (hb : Below wi.heap.size wi w') : LentI w ls k got vs w' :=
  ⟨h.len, h.own.below' hb (Nat.le_refl _), fun j u hj => (h.el j u hj).below hb, h.ap, h.hb.trans (hb.mono h.hb.size)⟩
theorem LentI.push {w2 w3 : World} {got3 u : Value} (h : LentI w ls k got vs wi) (h2 : Below wi.heap.size wi w2) (hu : LentAt w2 wi.heap.size u (ls.getD k [])) (hg3 : Own w3 w.heap.size 24 1 got3 (vs.length + 1) (vs ++ [u])) (hgr : w2.grownBy w3 got.ownBlock) :
    LentI w ls (k + 1) got3 (vs ++ [u]) w3 := by
  have h' := h.below h2
  have key : ∀ (j : Nat) (v : Value), vs[j]? = some v → ∀ g, v.ownBlock = some g → some g ≠ u.ownBlock := fun j v hj g hg he => by
    have h1 := ((h.el j v hj).lt g hg).2
    have h3 := (hu.lt g he.symm).1
    omega
  refine ⟨by simp [h.len], by simpa using hg3, ?_, ?_, h'.hb.grown hgr h'.hb.size (fun g hg => (h'.own.lt g hg).1)⟩
  · intro j v hj
    rcases Nat.lt_or_ge j vs.length with hlt | hge
    · rw [List.getElem?_append_left hlt] at hj
      exact (h'.el j v hj).grown hgr ((h'.el j v hj).ne_own h'.own)
    · rw [List.getElem?_append_right hge] at hj
      have hj0 : j = vs.length := by
        have := (List.getElem?_eq_some_iff.mp hj).1
        simp at this; omega
      subst hj0
      simp at hj
      subst hj
      rw [h.len]
      exact (hu.low h.hb.size).grown hgr ((hu.low h.hb.size).ne_own h'.own)
  · intro i j v v' hij hi hj g hg
    rcases Nat.lt_or_ge i vs.length with hi1 | hi1 <;> rcases Nat.lt_or_ge j vs.length with hj1 | hj1
    · rw [List.getElem?_append_left hi1] at hi
      rw [List.getElem?_append_left hj1] at hj
      exact h.ap i j v v' hij hi hj g hg
    · rw [List.getElem?_append_left hi1] at hi
      rw [List.getElem?_append_right hj1] at hj
      obtain rfl : u = v' := by
        have := (List.getElem?_eq_some_iff.mp hj).1
        have h0 : j - vs.length = 0 := by simp at this; omega
        rw [h0] at hj; simpa using hj
      exact key i v hi g hg
    · rw [List.getElem?_append_right hi1] at hi
      rw [List.getElem?_append_left hj1] at hj
      obtain rfl : u = v := by
        have := (List.getElem?_eq_some_iff.mp hi).1
        have h0 : i - vs.length = 0 := by simp at this; omega
        rw [h0] at hi; simpa using hi
      intro he
      exact key j v' hj g he.symm hg.symm
    · have h1 := (List.getElem?_eq_some_iff.mp hi).1
      have h2 := (List.getElem?_eq_some_iff.mp hj).1
      simp at h1 h2
      omega
theorem LentI.rdL (h : LentI w ls ls.length got vs wi) : RdL wi got ls := by
  refine ⟨vs, Own.rd h.own, h.len, fun i hi => ?_⟩
  have hv : vs[i]? = some (vs[i]'(by rw [h.len]; exact hi)) := List.getElem?_eq_getElem _
  refine ⟨_, hv, ?_⟩
  have := (h.el i _ hv).rd
  simpa [List.getD, hi] using this
end
/-- Looked at from j on. -/
structure LookI (w : World) (ls : List (List UInt8)) (j : Nat) (got : Value) (vs : List Value) (wi : World) : Prop where
  len : vs.length = ls.length
  own : Own wi w.heap.size 24 1 got vs.length vs
  el : ∀ (i : Nat) (u : Value), j ≤ i → vs[i]? = some u → LentAt wi w.heap.size u (ls.getD i [])
  ap : ∀ (i j : Nat) (u u' : Value), i ≠ j → vs[i]? = some u → vs[j]? = some u' → ∀ g, u.ownBlock = some g → some g ≠ u'.ownBlock
  hb : Below w.heap.size w wi
theorem LentI.look {w wi : World} {ls : List (List UInt8)} {got : Value} {vs : List Value} (h : LentI w ls ls.length got vs wi) : LookI w ls 0 got vs wi := ⟨h.len, h.own, fun i u _ hi => h.el i u hi, h.ap, h.hb⟩
theorem LookI.step {w wi w' : World} {ls : List (List UInt8)} {j : Nat} {got u : Value} {vs : List Value} {g : Nat} (h : LookI w ls j got vs wi) (hu : vs[j]? = some u) (hub : u.ownBlock = some g) (hg : wi.drew.grownBy w' (some g)) : LookI w ls (j + 1) got vs w' := by
  have hl := h.el j u (Nat.le_refl _) hu
  have hg' : wi.grownBy w' (some g) := ⟨hg.os, hg.tape, hg.output, hg.size, fun k hk hne => hg.block k hk hne⟩
  refine ⟨h.len, h.own.grown hg' (fun k hk he => ?_), fun i v hi hv => (h.el i v (by omega) hv).grown hg' (fun k hk => ?_), h.ap, h.hb.grown hg' h.hb.size (fun k hk => ?_)⟩
  · exact hl.ne_own h.own g hub (by rw [hk, he])
  · have := h.ap i j v u (by omega) hv hu k hk
    rwa [hub] at this
  · injection hk with hk
    subst hk
    exact (hl.lt _ hub).1
end Go.Proofs.Ytijlebjldnhnaaa
