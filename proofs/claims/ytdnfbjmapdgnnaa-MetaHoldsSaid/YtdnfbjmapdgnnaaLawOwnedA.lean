/- Lists of slices of bytes that the call owns, each in a block of its own. -/
import Derived.Test.YtdnfbjmapdgnnaaMem2
import Derived.Test.YtdnfbjmapdgnnaaMetaOk
namespace Go.Proofs.Ytdnfbjmapdgnnaa
open Go.RowKit
def mkB (i : Nat) : UInt8 := UInt8.ofNat (i + 1)
def OwLs (w : World) (base : Nat) (vs : List Value) (f : Nat → List UInt8) : Prop := ∀ (j : Nat) (u : Value), vs[j]? = some u → OwB w base u (f j)
def ApartL (vs : List Value) : Prop := ∀ (i j : Nat) (u u' : Value), i ≠ j → vs[i]? = some u → vs[j]? = some u' → ∀ g, u.ownBlock = some g → some g ≠ u'.ownBlock
theorem OwLs.grown {w w' : World} {base : Nat} {vs : List Value} {f : Nat → List UInt8} {row : Option Nat} (h : OwLs w base vs f) (hg : w.grownBy w' row) (hne : ∀ (j : Nat) (u : Value), vs[j]? = some u → ∀ g, u.ownBlock = some g → some g ≠ row) : OwLs w' base vs f :=
  fun j u hj => (h j u hj).grown hg (hne j u hj)
theorem OwLs.below' {w w' : World} {base B : Nat} {vs : List Value} {f : Nat → List UInt8} (h : OwLs w base vs f) (hb : Below B w w') (hB : w.heap.size ≤ B) : OwLs w' base vs f := fun j u hj => (h j u hj).below' hb hB
theorem OwLs.alloc {w : World} {base : Nat} {vs : List Value} {f : Nat → List UInt8} (h : OwLs w base vs f) (o : Obj) : OwLs (w.alloc o) base vs f := fun j u hj => (h j u hj).alloc o
/-- One byte of one of them is written. -/
theorem OwLs.set {w : World} {base : Nat} {vs : List Value} {f : Nat → List UInt8} (h : OwLs w base vs f) (ha : ApartL vs) {i g n c : Nat} (hi : vs[i]? = some (.slice (some ⟨g, 0, none⟩) n c)) (j : Nat) (x : UInt8) {f' : Nat → List UInt8} (hf : f' i = (f i).set j x) (hf' : ∀ k, k ≠ i → f' k = f k) :
    OwLs (w.setCell ⟨g, j, none⟩ (.int .u8 (x.toNat : Int))) base vs f' := by
  intro k u hk
  by_cases e : k = i
  · subst e
    rw [hi] at hk
    injection hk with hk
    subst hk
    rw [hf]
    exact (h k _ hi).set j x
  · rw [hf' k e]
    exact (h k u hk).grown (grownBy_setCell w _ _) (fun g' hg' => by
      have := ha k i u _ e hk hi g' hg'
      simpa [Value.ownBlock] using this)
/-- The slice e holds bytes b alone; where it lies in x's block it is no longer than n, and b is what x holds. -/
def EOk (w : World) (base : Nat) (x : Value) (n : Nat) (bx : UInt8) (e : Value) (b : UInt8) : Prop := ∃ m, OwB w base e (List.replicate m b) ∧ (∀ g, e.ownBlock = some g → x.ownBlock = some g → m ≤ n ∧ b = bx)
/-- What an append to x leaves of e. -/
theorem EOk.step {w w' : World} {base n s : Nat} {x x' e : Value} {bx b : UInt8} (h : EOk w base x n bx e b) (hx : OwB w base x (List.replicate n bx)) (hx' : OwB w' base x (List.replicate n bx)) (hg : w.grownBy w' x.ownBlock)
    (hb : x'.ownBlock = x.ownBlock ∨ x'.ownBlock = some s) (hs : w.heap.size ≤ s) : EOk w' base x' (n + 1) bx e b := by
  obtain ⟨m, ho, hm⟩ := h
  have hnew : ∀ g, e.ownBlock = some g → x'.ownBlock = some g → m ≤ n + 1 ∧ b = bx := by
    intro g he hxe
    rcases hb with hb | hb
    · rw [hb] at hxe
      have := hm g he hxe
      exact ⟨by omega, this.2⟩
    · rw [hb] at hxe
      injection hxe with hxe
      have := (ho.lt g he).2; omega
  refine ⟨m, ?_, hnew⟩
  by_cases hsame : ∃ g, e.ownBlock = some g ∧ x.ownBlock = some g
  · obtain ⟨g, he, hxg⟩ := hsame
    obtain ⟨hmn, rfl⟩ := hm g he hxg
    rcases ho.form with ⟨rfl, _⟩ | ⟨g1, c1, rfl, _⟩
    · cases he
    rcases hx.form with ⟨rfl, _⟩ | ⟨g2, c2, rfl, _⟩
    · cases hxg
    simp [Value.ownBlock] at he hxg
    subst he; subst hxg
    have hc := ho.cap_eq hx
    subst hc
    have := hx'.take (m := m) (by simpa using hmn)
    simp only [List.length_replicate] at this ⊢
    rw [List.take_replicate, Nat.min_eq_left hmn] at this
    exact this
  · exact ho.grown hg (fun g he hr => hsame ⟨g, he, hr.symm⟩)
theorem EOk.grown {w w' : World} {base n : Nat} {x e : Value} {bx b : UInt8} {row : Option Nat} (h : EOk w base x n bx e b) (hg : w.grownBy w' row) (hne : ∀ g, e.ownBlock = some g → some g ≠ row) : EOk w' base x n bx e b := by
  obtain ⟨m, ho, hm⟩ := h
  exact ⟨m, ho.grown hg hne, hm⟩
/-- Another slice comes into x's place: one in another block. -/
theorem EOk.fresh {w : World} {base n n' : Nat} {x y e : Value} {bx by' b : UInt8} (h : EOk w base x n bx e b) (hne : ∀ g, e.ownBlock = some g → y.ownBlock ≠ some g) : EOk w base y n' by' e b := by
  obtain ⟨m, ho, _⟩ := h
  exact ⟨m, ho, fun g he hy => absurd hy (hne g he)⟩
theorem OwB.ne_own' {w : World} {b b' : Nat} {u v : Value} {l : List UInt8} {n : Nat} {vs : List Value} (h : OwB w b u l) (h' : Own w b' 29 1 v n vs) : ∀ g, u.ownBlock = some g → some g ≠ v.ownBlock :=
  fun _ hg he => h.ne_own h' he.symm hg.symm
/-- Where the growing of slice k stands. -/
structure InvQ (w : World) (s2 base : Nat) (vs : List Value) (f : Nat → List UInt8) (v : Value) (k q : Nat) (gr x : Value) (es : List Value) (wi : World) : Prop where
  len : es.length = 16 * k + q
  own : Own wi s2 29 1 gr es.length es
  ox : OwB wi base x (List.replicate ((f k).length + q) (mkB k))
  hE : ∀ (j : Nat) (e : Value), es[j]? = some e → EOk wi base x ((f k).length + q) (mkB k) e (mkB (j / 16)) ∧ ∀ (i : Nat) (u : Value), k < i → vs[i]? = some u → ∀ g, e.ownBlock = some g → u.ownBlock ≠ some g
  hx : ∀ (i : Nat) (u : Value), k < i → vs[i]? = some u → ∀ g, x.ownBlock = some g → u.ownBlock ≠ some g
  hv : Own wi base 29 1 v vs.length vs
  hl : ∀ (j : Nat) (u : Value), k < j → vs[j]? = some u → OwB wi base u (List.replicate (f j).length (mkB j)) ∧ ∀ g, u.ownBlock = some g → g < s2
  hb : Below base w wi
  size : s2 ≤ wi.heap.size
theorem InvQ.step {w wi w3 w4 : World} {s2 base : Nat} {vs : List Value} {f : Nat → List UInt8} {v : Value} {k q : Nat} {gr x x3 gr4 : Value} {es : List Value} (h : InvQ w s2 base vs f v k q gr x es wi) (hq : q < 16)
    (hV : ∀ g, v.ownBlock = some g → g < s2) (h0 : base ≤ w.heap.size) (h00 : base ≤ s2)
    (ho3 : OwB w3 base x3 (List.replicate ((f k).length + q) (mkB k) ++ [mkB k])) (hg3 : wi.grownBy w3 x.ownBlock) (hb3 : x3.ownBlock = x.ownBlock ∨ x3.ownBlock = some (wi.heap.size + 1)) (hk3 : OwB w3 base x (List.replicate ((f k).length + q) (mkB k)))
    (hgr4 : Own w4 s2 29 1 gr4 (es.length + 1) (es ++ [x3])) (hg4 : w3.grownBy w4 gr.ownBlock) : InvQ w s2 base vs f v k (q + 1) gr4 x3 (es ++ [x3]) w4 := by
  have hgr3 : Own w3 s2 29 1 gr es.length es := h.own.grown hg3 (fun g hg => h.ox.ne_own h.own hg)
  have hrep : List.replicate ((f k).length + q) (mkB k) ++ [mkB k] = List.replicate ((f k).length + (q + 1)) (mkB k) := by rw [← Nat.add_assoc, List.replicate_succ']
  rw [hrep] at ho3
  have ho4 := ho3.grown hg4 (ho3.ne_own' hgr3)
  have hx3 : ∀ (i : Nat) (u : Value), k < i → vs[i]? = some u → ∀ g, x3.ownBlock = some g → u.ownBlock ≠ some g := by
    intro i u hi hu g hg hu'
    rcases hb3 with e | e
    · exact h.hx i u hi hu g (e ▸ hg) hu'
    · rw [e] at hg
      injection hg with hg
      have := (h.hl i u hi hu).2 g hu'
      have := h.size
      omega
  have hsz := h.hb.size
  have s3 := hg3.size
  have s4 := hg4.size
  refine ⟨by simp [h.len]; omega, by simpa using hgr4, ho4, ?_, hx3, ?_, ?_, ?_, by have := h.size; omega⟩
  · intro j e hj
    rcases Nat.lt_or_ge j es.length with hlt | hge
    · rw [List.getElem?_append_left hlt] at hj
      obtain ⟨he, hne⟩ := h.hE j e hj
      have he3 := he.step h.ox hk3 hg3 hb3 (by omega)
      refine ⟨?_, hne⟩
      obtain ⟨m, hm1, hm2⟩ := he3
      exact ⟨m, hm1.grown hg4 (hm1.ne_own' hgr3), hm2⟩
    · rw [List.getElem?_append_right hge] at hj
      have hj0 : j = es.length := by
        have := (List.getElem?_eq_some_iff.mp hj).1
        simp at this; omega
      subst hj0
      simp at hj
      subst hj
      have hd : es.length / 16 = k := by rw [h.len]; omega
      rw [hd]
      exact ⟨⟨_, ho4, fun g _ _ => ⟨Nat.le_refl _, rfl⟩⟩, hx3⟩
  · refine (h.hv.grown hg3 (fun g hg => h.ox.ne_own h.hv hg)).grown hg4 (fun g hg he => ?_)
    have h1 := hV g hg
    have h2 := (h.own.lt g he.symm).1
    omega
  · intro j u hj hu
    obtain ⟨h1, h2⟩ := h.hl j u hj hu
    have h3 := h1.grown hg3 (fun g hg he => h.hx j u hj hu g he.symm hg)
    exact ⟨h3.grown hg4 (h3.ne_own' hgr3), h2⟩
  · have hB1 : base ≤ wi.heap.size := by omega
    refine (h.hb.grown hg3 hB1 (fun g hg => (h.ox.lt g hg).1)).grown hg4 (by omega) (fun g hg => ?_)
    have := (h.own.lt g hg).1
    omega
theorem InvQ.gr3 {w wi : World} {s2 base : Nat} {vs : List Value} {f : Nat → List UInt8} {v : Value} {k q : Nat} {gr x : Value} {es : List Value} (h : InvQ w s2 base vs f v k q gr x es wi) :
    ∀ w3, wi.grownBy w3 x.ownBlock → Own w3 s2 29 1 gr es.length es := fun _ hg => h.own.grown hg (fun _ hg => h.ox.ne_own h.own hg)
theorem OwB.one {w : World} {b : Nat} {u : Value} {l : List UInt8} (h : OwB w b u l) : u.oneCell' = true := by
  rcases h.form with ⟨rfl, _⟩ | ⟨g, c, rfl, _⟩ <;> rfl
theorem OwB.slice' {w : World} {b n : Nat} {u : Value} {l : List UInt8} (h : OwB w b u l) (hn : l.length = n) : ∃ A c, u = .slice A n c := by
  subst hn; exact Own.slice h
end Go.Proofs.Ytdnfbjmapdgnnaa
