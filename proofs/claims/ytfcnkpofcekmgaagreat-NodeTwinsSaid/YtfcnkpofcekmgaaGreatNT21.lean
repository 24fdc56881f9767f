/- Texts joined: espalierref07.IsSize, May; espalierref01.Order; espalierref07.add, rest, ahead; espalierref07.bytes; espalierref01.begins; espalierref01.Common; espalierref03.Book -/
import Derived.Test.YtfcnkpofcekmgaaGreatNT3
import Derived.Test.YtfcnkpofcekmgaaGreatNT9
import Derived.Test.YtfcnkpofcekmgaaGreatNT11
import Derived.Test.YtfcnkpofcekmgaaGreatNT13
import Derived.Test.YtfcnkpofcekmgaaGreatNT20
import Derived.Deep.RegionHeld3
import Derived.Deep.DeepCutAuto
-- espalierref07.IsSize, May: walks.
namespace Go.Proofs.YtfcnkpofcekmgaaGreat
open Go.RowKit
end Go.Proofs.YtfcnkpofcekmgaaGreat

-- espalierref01.Order: the walk.
namespace Go.Proofs.YtfcnkpofcekmgaaGreat
open Go.RowKit
end Go.Proofs.YtfcnkpofcekmgaaGreat

-- espalierref07.add, rest, ahead: walks.
namespace Go.Proofs.YtfcnkpofcekmgaaGreat
open Go.RowKit
theorem RdIn.old {w : World} {v : Value} {l : List UInt8} {L : List Ent} (h : RdB w v l) (hm : oldE w ∈ L) : RdIn L v l :=
  ⟨oldE w, hm, fun _ hW => h.keep fun p hp => World.cell?_of_block (hW p.block hp)⟩
theorem RdIn.bytes {v : Value} {l : List UInt8} {L : List Ent} (hm : bytesE v l ∈ L) : RdIn L v l := ⟨_, hm, fun _ h => OwB.rd h⟩
end Go.Proofs.YtfcnkpofcekmgaaGreat

-- espalierref07.bytes: the walk.
namespace Go.Proofs.YtfcnkpofcekmgaaGreat
open Go.RowKit
end Go.Proofs.YtfcnkpofcekmgaaGreat

-- espalierref01.begins: the walk.
namespace Go.Proofs.YtfcnkpofcekmgaaGreat
open Go.RowKit
end Go.Proofs.YtfcnkpofcekmgaaGreat

-- espalierref01.Common: the walk.
namespace Go.Proofs.YtfcnkpofcekmgaaGreat
open Go.RowKit
end Go.Proofs.YtfcnkpofcekmgaaGreat

-- espalierref03.Book: lists of bytes that came out: words and laws.
namespace Go.Proofs.YtfcnkpofcekmgaaGreat
open Go.RowKit
/-- The mark of a byte: of list k, at place q. -/
def mrk (k q : Nat) : UInt8 := UInt8.ofNat (k + q / 251)
def mkL (k m : Nat) : List UInt8 := (List.range m).map (mrk k)
theorem mkL_length (k m : Nat) : (mkL k m).length = m := by simp [mkL]
theorem mkL_snoc (k m : Nat) : mkL k (m + 1) = mkL k m ++ [mrk k m] := by simp [mkL, List.range_succ]
theorem mkL_take (k : Nat) {m n : Nat} (h : m ≤ n) : (mkL k n).take m = mkL k m := by
  unfold mkL
  rw [← List.map_take, List.take_range, Nat.min_eq_left h]
def OwLs (w : World) (base : Nat) (vs : List Value) (f : Nat → List UInt8) : Prop := ∀ (j : Nat) (u : Value), vs[j]? = some u → OwB w base u (f j)
def ApartL (vs : List Value) : Prop := ∀ (i j : Nat) (u u' : Value), i ≠ j → vs[i]? = some u → vs[j]? = some u' → ∀ g, u.ownBlock = some g → some g ≠ u'.ownBlock
theorem OwLs.grown {w w' : World} {base : Nat} {vs : List Value} {f : Nat → List UInt8} {row : Option Nat} (h : OwLs w base vs f) (hg : w.grownBy w' row) (hne : ∀ (j : Nat) (u : Value), vs[j]? = some u → ∀ g, u.ownBlock = some g → some g ≠ row) : OwLs w' base vs f :=
  fun j u hj => (h j u hj).grown hg (hne j u hj)
theorem OwLs.below' {w w' : World} {base B : Nat} {vs : List Value} {f : Nat → List UInt8} (h : OwLs w base vs f) (hb : Below B w w') (hB : w.heap.size ≤ B) : OwLs w' base vs f := fun j u hj => (h j u hj).below' hb hB
theorem OwLs.alloc {w : World} {base : Nat} {vs : List Value} {f : Nat → List UInt8} (h : OwLs w base vs f) (o : Obj) : OwLs (w.alloc o) base vs f := fun j u hj => (h j u hj).alloc o
/-- One byte of one of them is written. -/
theorem OwLs.set {w : World} {base : Nat} {vs : List Value} {f : Nat → List UInt8} (h : OwLs w base vs f) (ha : ApartL vs) {i g n c : Nat} (hi : vs[i]? = some (.slice (some ⟨g, 0, none⟩) n c)) (j : Nat) (x : UInt8) {f' : Nat → List UInt8} (hf : f' i = (f i).set j x) (hf' : ∀ k, k ≠ i → f' k = f k) :
    OwLs (w.setCell ⟨g, j, none⟩ (.int .u8 (x.toNat : Int))) base vs f' := by
  intro k u hk
  by_cases e : k = i
  · subst e
    rw [hi] at hk
    injection hk with hk
    subst hk
    rw [hf]
    exact (h k _ hi).set j x
  · rw [hf' k e]
    exact (h k u hk).grown (grownBy_setCell w _ _) (fun g' hg' => by
      have := ha k i u _ e hk hi g' hg'
      simpa [Value.ownBlock] using this)
/-- The slice e holds the marks of list b; where it lies in x's block it is no longer than n, and b is x's list. -/
def EOk (w : World) (base : Nat) (x : Value) (n : Nat) (bx : Nat) (e : Value) (m b : Nat) : Prop := OwB w base e (mkL b m) ∧ (∀ g, e.ownBlock = some g → x.ownBlock = some g → m ≤ n ∧ b = bx)
/-- What an append to x leaves of e. -/
theorem EOk.step {w w' : World} {base n s : Nat} {x x' e : Value} {bx m b : Nat} (h : EOk w base x n bx e m b) (hx : OwB w base x (mkL bx n)) (hx' : OwB w' base x (mkL bx n)) (hg : w.grownBy w' x.ownBlock)
    (hb : x'.ownBlock = x.ownBlock ∨ x'.ownBlock = some s) (hs : w.heap.size ≤ s) : EOk w' base x' (n + 1) bx e m b := by
  obtain ⟨ho, hm⟩ := h
  have hnew : ∀ g, e.ownBlock = some g → x'.ownBlock = some g → m ≤ n + 1 ∧ b = bx := by
    intro g he hxe
    rcases hb with hb | hb
    · rw [hb] at hxe
      have := hm g he hxe
      exact ⟨by omega, this.2⟩
    · rw [hb] at hxe
      injection hxe with hxe
      have := (ho.lt g he).2; omega
  refine ⟨?_, hnew⟩
  by_cases hsame : ∃ g, e.ownBlock = some g ∧ x.ownBlock = some g
  · obtain ⟨g, he, hxg⟩ := hsame
    obtain ⟨hmn, rfl⟩ := hm g he hxg
    rcases ho.form with ⟨rfl, _⟩ | ⟨g1, c1, rfl, _⟩
    · cases he
    rcases hx.form with ⟨rfl, _⟩ | ⟨g2, c2, rfl, _⟩
    · cases hxg
    simp [Value.ownBlock] at he hxg
    subst he; subst hxg
    have hc := ho.cap_eq hx
    subst hc
    have := hx'.take (m := m) (by rw [mkL_length]; exact hmn)
    rw [mkL_take _ hmn] at this
    rw [mkL_length]
    exact this
  · exact ho.grown hg (fun g he hr => hsame ⟨g, he, hr.symm⟩)
theorem EOk.grown {w w' : World} {base n : Nat} {x e : Value} {bx m b : Nat} {row : Option Nat} (h : EOk w base x n bx e m b) (hg : w.grownBy w' row) (hne : ∀ g, e.ownBlock = some g → some g ≠ row) : EOk w' base x n bx e m b :=
  ⟨h.1.grown hg hne, h.2⟩
/-- Another slice comes into x's place: one in another block. -/
theorem EOk.fresh {w : World} {base n n' : Nat} {x y e : Value} {bx by' m b : Nat} (h : EOk w base x n bx e m b) (hne : ∀ g, e.ownBlock = some g → y.ownBlock ≠ some g) : EOk w base y n' by' e m b :=
  ⟨h.1, fun g he hy => absurd hy (hne g he)⟩
theorem OwB.ne_own' {w : World} {b b' : Nat} {u v : Value} {l : List UInt8} {n : Nat} {vs : List Value} (h : OwB w b u l) (h' : Own w b' 41 1 v n vs) : ∀ g, u.ownBlock = some g → some g ≠ v.ownBlock :=
  fun _ hg he => h.ne_own h' he.symm hg.symm
/-- How many of the first q are kept. -/
def cntQ (q : Nat) : Nat := min q 3 + (if 8 < q then 1 else 0) + (if 19 < q then 1 else 0)
def keptQ (q : Nat) : Bool := decide (q < 3 ∨ q = 8 ∨ q = 19)
theorem cntQ_keep {q : Nat} (h : keptQ q = true) : cntQ (q + 1) = cntQ q + 1 ∧ cntQ q < 5 := by
  have h := of_decide_eq_true h
  unfold cntQ
  rcases h with h | rfl | rfl
  · rw [if_neg (by omega), if_neg (by omega), if_neg (by omega), if_neg (by omega)]; omega
  · decide
  · decide
theorem cntQ_drop {q : Nat} (h : keptQ q = false) (hq : q < 20) : cntQ (q + 1) = cntQ q := by
  have h := of_decide_eq_false h
  unfold cntQ
  by_cases h1 : 8 < q
  · rw [if_pos (by omega), if_pos h1, if_neg (by omega), if_neg (by omega)]; omega
  · rw [if_neg (by omega), if_neg h1, if_neg (by omega), if_neg (by omega)]; omega
/-- Where the growing of slice k stands. -/
structure InvQ (F : Nat → Prop) (w : World) (s2 base : Nat) (vs : List Value) (f : Nat → List UInt8) (v : Value) (k q : Nat) (gr x : Value) (es : List Value) (wi : World) : Prop where
  len : es.length = 5 * k + cntQ q
  own : Own wi s2 41 1 gr es.length es
  ox : OwB wi base x (mkL k ((f k).length + q))
  hE : ∀ (j : Nat) (e : Value), es[j]? = some e → (∃ m, EOk wi base x ((f k).length + q) k e m (j / 5)) ∧ ∀ (i : Nat) (u : Value), k < i → vs[i]? = some u → ∀ g, e.ownBlock = some g → u.ownBlock ≠ some g
  hk : ∀ (u : Value), vs[k]? = some u → EOk wi base x ((f k).length + q) k u (f k).length k
  hx : ∀ (i : Nat) (u : Value), i ≠ k → vs[i]? = some u → ∀ g, x.ownBlock = some g → u.ownBlock ≠ some g
  hv : Own wi base 41 1 v vs.length vs
  hl : ∀ (j : Nat) (u : Value), j ≠ k → vs[j]? = some u → OwB wi base u (mkL j (f j).length)
  hs : ∀ (j : Nat) (u : Value), vs[j]? = some u → ∀ g, u.ownBlock = some g → g < s2
  ht : Turn F w wi
  hxF : ∀ g, x.ownBlock = some g → F g ∨ w.heap.size ≤ g
  s2w : w.heap.size ≤ s2
  size : s2 ≤ wi.heap.size
section
variable {F : Nat → Prop} {w wi w3 w4 : World} {s2 base : Nat} {vs : List Value} {f : Nat → List UInt8} {v : Value} {k q : Nat} {gr x x3 gr4 : Value} {es : List Value}
/-- A byte is put behind x. -/
theorem InvQ.grow (h : InvQ F w s2 base vs f v k q gr x es wi)
    (ho3 : OwB w3 base x3 (mkL k ((f k).length + q) ++ [mrk k ((f k).length + q)])) (hg3 : wi.grownBy w3 x.ownBlock) (hb3 : x3.ownBlock = x.ownBlock ∨ x3.ownBlock = some (wi.heap.size + 1)) (hk3 : OwB w3 base x (mkL k ((f k).length + q)))
    (_hq : es.length = 5 * k + cntQ (q + 1) ∨ es.length = 5 * k + cntQ q) :
    Own w3 s2 41 1 gr es.length es ∧ OwB w3 base x3 (mkL k ((f k).length + (q + 1))) ∧
    (∀ (j : Nat) (e : Value), es[j]? = some e → (∃ m, EOk w3 base x3 ((f k).length + (q + 1)) k e m (j / 5)) ∧ ∀ (i : Nat) (u : Value), k < i → vs[i]? = some u → ∀ g, e.ownBlock = some g → u.ownBlock ≠ some g) ∧
    (∀ (u : Value), vs[k]? = some u → EOk w3 base x3 ((f k).length + (q + 1)) k u (f k).length k) ∧
    (∀ (i : Nat) (u : Value), i ≠ k → vs[i]? = some u → ∀ g, x3.ownBlock = some g → u.ownBlock ≠ some g) ∧
    Own w3 base 41 1 v vs.length vs ∧ (∀ (j : Nat) (u : Value), j ≠ k → vs[j]? = some u → OwB w3 base u (mkL j (f j).length)) ∧ Turn F w w3 ∧ (∀ g, x3.ownBlock = some g → F g ∨ w.heap.size ≤ g) ∧ s2 ≤ w3.heap.size := by
  have hgr3 : Own w3 s2 41 1 gr es.length es := h.own.grown hg3 (fun g hg => h.ox.ne_own h.own hg)
  rw [← mkL_snoc, Nat.add_assoc] at ho3
  have hsz := h.ht.size
  have s3 := hg3.size
  have hz := h.size
  refine ⟨hgr3, ho3, fun j e hj => ?_, fun u hu => ?_, ?_, h.hv.grown hg3 (fun g hg => h.ox.ne_own h.hv hg), fun j u hj hu => (h.hl j u hj hu).grown hg3 (fun g hg he => h.hx j u hj hu g he.symm hg), h.ht.grown hg3 (fun g hg => h.hxF g hg), fun g hg => ?_, by omega⟩
  · obtain ⟨⟨m, he⟩, hne⟩ := h.hE j e hj
    exact ⟨⟨m, he.step h.ox hk3 hg3 hb3 (by omega)⟩, hne⟩
  · exact (h.hk u hu).step h.ox hk3 hg3 hb3 (by omega)
  · intro i u hi hu g hg hu'
    rcases hb3 with e | e
    · exact h.hx i u hi hu g (e ▸ hg) hu'
    · rw [e] at hg
      injection hg with hg
      have := h.hs i u hu g hu'
      omega
  · rcases hb3 with e | e
    · exact h.hxF g (e ▸ hg)
    · rw [e] at hg
      injection hg with hg
      right; omega
/-- .. and it is not kept. -/
theorem InvQ.drop (h : InvQ F w s2 base vs f v k q gr x es wi) (hq : q < 20) (hk : keptQ q = false)
    (ho3 : OwB w3 base x3 (mkL k ((f k).length + q) ++ [mrk k ((f k).length + q)])) (hg3 : wi.grownBy w3 x.ownBlock) (hb3 : x3.ownBlock = x.ownBlock ∨ x3.ownBlock = some (wi.heap.size + 1)) (hk3 : OwB w3 base x (mkL k ((f k).length + q))) :
    InvQ F w s2 base vs f v k (q + 1) gr x3 es w3 := by
  have hlen := h.len
  have hc := cntQ_drop hk hq
  obtain ⟨h1, h2, h3, h4, h5, h6, h7, h8, h8', h9⟩ := h.grow ho3 hg3 hb3 hk3 (.inr hlen)
  exact ⟨by rw [hc]; exact hlen, h1, h2, h3, h4, h5, h6, h7, h.hs, h8, h8', h.s2w, h9⟩
/-- .. and it is kept. -/
theorem InvQ.step (h : InvQ F w s2 base vs f v k q gr x es wi) (hk : keptQ q = true)
    (hV : ∀ g, v.ownBlock = some g → g < s2)
    (ho3 : OwB w3 base x3 (mkL k ((f k).length + q) ++ [mrk k ((f k).length + q)])) (hg3 : wi.grownBy w3 x.ownBlock) (hb3 : x3.ownBlock = x.ownBlock ∨ x3.ownBlock = some (wi.heap.size + 1)) (hk3 : OwB w3 base x (mkL k ((f k).length + q)))
    (hgr4 : Own w4 s2 41 1 gr4 (es.length + 1) (es ++ [x3])) (hg4 : w3.grownBy w4 gr.ownBlock) : InvQ F w s2 base vs f v k (q + 1) gr4 x3 (es ++ [x3]) w4 := by
  have hlen := h.len
  obtain ⟨hc, hc5⟩ := cntQ_keep hk
  obtain ⟨hgr3, ho, h3, h4, h5, h6, h7, h8, h8', h9⟩ := h.grow ho3 hg3 hb3 hk3 (.inr hlen)
  have ho4 := ho.grown hg4 (ho.ne_own' hgr3)
  have s4 := hg4.size
  have hsz := h8.size
  have hne : ∀ {u : Value} {l : List UInt8}, OwB w3 base u l → ∀ g, u.ownBlock = some g → some g ≠ gr.ownBlock := fun hu => OwB.ne_own' hu hgr3
  refine ⟨by simp [hlen, hc]; omega, by simpa using hgr4, ho4, ?_, fun u hu => (h4 u hu).grown hg4 (hne (h4 u hu).1), h5, ?_, fun j u hj hu => (h7 j u hj hu).grown hg4 (hne (h7 j u hj hu)), h.hs, ?_, h8', h.s2w, by omega⟩
  · intro j e hj
    rcases Nat.lt_or_ge j es.length with hlt | hge
    · rw [List.getElem?_append_left hlt] at hj
      obtain ⟨⟨m, he⟩, hn⟩ := h3 j e hj
      exact ⟨⟨m, he.grown hg4 (hne he.1)⟩, hn⟩
    · rw [List.getElem?_append_right hge] at hj
      have hj0 : j = es.length := by
        have := (List.getElem?_eq_some_iff.mp hj).1
        simp at this; omega
      subst hj0
      simp at hj
      subst hj
      have hd : es.length / 5 = k := by rw [hlen]; omega
      rw [hd]
      exact ⟨⟨_, ho4, fun g _ _ => ⟨Nat.le_refl _, rfl⟩⟩, fun i u hi hu => h5 i u (by omega) hu⟩
  · refine h6.grown hg4 (fun g hg he => ?_)
    have h1 := hV g hg
    have h2 := (hgr3.lt g he.symm).1
    omega
  · refine h8.grown hg4 (fun g hg => ?_)
    have h1 := (hgr3.lt g hg).1
    have h2 := h.s2w
    right; omega
end
theorem OwB.one {w : World} {b : Nat} {u : Value} {l : List UInt8} (h : OwB w b u l) : u.oneCell' = true := by
  rcases h.form with ⟨rfl, _⟩ | ⟨g, c, rfl, _⟩ <;> rfl
section laws
variable {w : World} {ops : Array Oper} {rest : List Oper} {o : Oper} {a : Act} {Q : Exit → Act → World → Prop}
end laws
end Go.Proofs.YtfcnkpofcekmgaaGreat
