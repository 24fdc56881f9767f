/- Cells of pages, where they lie. -/
import Derived.Test.YtonbcipofakpjaaPlnF
import Derived.Test.YtonbcipofakpjaaMem3
namespace Go.Proofs.Ytonbcipofakpjaa
open Go.RowKit
structure CV where
  kv : Value
  vv : Value
  c : PC
instance : Inhabited CV := ⟨⟨.slice none 0 0, .slice none 0 0, default⟩⟩
def CV.cells (x : CV) : List Value := [x.kv, .int .i64 x.c.kind, x.vv, .int .i64 x.c.page, .int .i64 x.c.count]
def cellV (x : CV) : Value := .agg #[x.kv, .int .i64 x.c.kind, x.vv, .int .i64 x.c.page, .int .i64 x.c.count]
def i64r (n : Int) : Prop := -9223372036854775808 ≤ n ∧ n ≤ 9223372036854775807
structure CV.ok (W : World) (x : CV) : Prop where
  k : RdB W x.kv x.c.key
  v : RdB W x.vv x.c.val
  r1 : i64r x.c.kind
  r2 : i64r x.c.page
  r3 : i64r x.c.count
def flatC (l : List CV) : List Value := l.flatMap CV.cells
theorem flatC_length (l : List CV) : (flatC l).length = l.length * 5 := by
  induction l with
  | nil => rfl
  | cons x r ih =>
    have : flatC (x :: r) = x.cells ++ flatC r := rfl
    rw [this, List.length_append, ih, List.length_cons]
    show 5 + _ = _
    omega
theorem flatC_append (a b : List CV) : flatC (a ++ b) = flatC a ++ flatC b := by simp [flatC]
theorem flatC_at : ∀ (l : List CV) (i r : Nat) (hi : i < l.length), r < 5 → (flatC l)[i * 5 + r]? = l[i].cells[r]?
  | x :: s, 0, r, _, hr => by
    have : flatC (x :: s) = x.cells ++ flatC s := rfl
    rw [this, List.getElem?_append_left (by show _ < 5; omega)]
    simp
  | x :: s, i + 1, r, hi, hr => by
    have : flatC (x :: s) = x.cells ++ flatC s := rfl
    rw [this, List.getElem?_append_right (by show 5 ≤ _; omega)]
    have := flatC_at s i r (by simpa using hi) hr
    rw [show (i + 1) * 5 + r - x.cells.length = i * 5 + r by show _ - 5 = _; omega, this]
    rfl
structure RdCs (W : World) (v : Value) (l : List CV) : Prop where
  form : Rd W 5 v l.length (flatC l)
  ok : ∀ x ∈ l, x.ok W
def pcs (l : List CV) : List PC := l.map CV.c
theorem pcs_length (l : List CV) : (pcs l).length = l.length := by simp [pcs]
theorem CV.ok.below {w w' : World} {x : CV} (h : x.ok w) (hb : Below w.heap.size w w') : x.ok w' := { h with k := h.k.below hb (Nat.le_refl _), v := h.v.below hb (Nat.le_refl _) }
theorem RdCs.below {w w' : World} {v : Value} {l : List CV} (h : RdCs w v l) (hb : Below w.heap.size w w') : RdCs w' v l :=
  ⟨h.form.below hb (Nat.le_refl _), fun x hx => (h.ok x hx).below hb⟩
theorem RdCs.slice {w : World} {v : Value} {l : List CV} (h : RdCs w v l) : ∃ A c, v = .slice A l.length c ∧ l.length ≤ c ∧ c ≤ 9223372036854775807 := by
  obtain ⟨_, A, c, hv, h1, h2, _⟩ := h.form
  exact ⟨A, c, hv, h1, h2⟩
theorem RdCs.at_ {w : World} {A : Option Addr} {m c i : Nat} {l : List CV} (h : RdCs w (.slice A m c) l) (hi : i < l.length) :
    ∃ ad, A = some ad ∧ w.cell? (ad.add (i * 5)) = some l[i].kv ∧ w.cell? ⟨(ad.add (i * 5)).block, (ad.add (i * 5)).off + 1, none⟩ = some (.int .i64 l[i].c.kind) ∧ w.cell? ⟨(ad.add (i * 5)).block, (ad.add (i * 5)).off + 2, none⟩ = some l[i].vv ∧
      w.cell? ⟨(ad.add (i * 5)).block, (ad.add (i * 5)).off + 3, none⟩ = some (.int .i64 l[i].c.page) ∧ w.cell? ⟨(ad.add (i * 5)).block, (ad.add (i * 5)).off + 4, none⟩ = some (.int .i64 l[i].c.count) := by
  obtain ⟨_, A', c', hv, _, _, h3⟩ := h.form
  injection hv with hA
  subst hA
  have key : ∀ r u, r < 5 → l[i].cells[r]? = some u → ∃ ad, A = some ad ∧ w.cell? (ad.add (i * 5 + r)) = some u := fun r u hr hu => h3 (i * 5 + r) u (by rw [flatC_at l i r hi hr]; exact hu)
  obtain ⟨ad, rfl, e0⟩ := key 0 _ (by omega) rfl
  obtain ⟨_, he, e1⟩ := key 1 _ (by omega) rfl
  cases he
  obtain ⟨_, he, e2⟩ := key 2 _ (by omega) rfl
  cases he
  obtain ⟨_, he, e3⟩ := key 3 _ (by omega) rfl
  cases he
  obtain ⟨_, he, e4⟩ := key 4 _ (by omega) rfl
  cases he
  refine ⟨ad, rfl, e0, ?_, ?_, ?_, ?_⟩
  · have := e1; rw [← add_of_add] at this; exact this
  · have := e2; rw [← add_of_add] at this; exact this
  · have := e3; rw [← add_of_add] at this; exact this
  · have := e4; rw [← add_of_add] at this; exact this
/-- A cell's own block: five cells. -/
theorem cells5 {w : World} {g : Nat} {T : TypeId} {a0 a1 a2 a3 a4 : Value} (h : OBlk w g T [a0, a1, a2, a3, a4]) :
    w.cell? ⟨g, 0, none⟩ = some a0 ∧ w.cell? ⟨g, 1, none⟩ = some a1 ∧ w.cell? ⟨g, 2, none⟩ = some a2 ∧ w.cell? ⟨g, 3, none⟩ = some a3 ∧ w.cell? ⟨g, 4, none⟩ = some a4 :=
  ⟨h.cell 0, h.cell 1, h.cell 2, h.cell 3, h.cell 4⟩
/-- Owned cells. -/
structure OwCs (w : World) (base : Nat) (v : Value) (l : List CV) : Prop where
  own : Own w base 32 5 v l.length (flatC l)
  each : ∀ x ∈ l, OwB w base x.kv x.c.key ∧ OwB w base x.vv x.c.val
  rng : ∀ x ∈ l, i64r x.c.kind ∧ i64r x.c.page ∧ i64r x.c.count
  apart : ((l.flatMap fun x => [x.kv.ownBlock, x.vv.ownBlock]).filterMap id).Pairwise (· < ·)
end Go.Proofs.Ytonbcipofakpjaa
