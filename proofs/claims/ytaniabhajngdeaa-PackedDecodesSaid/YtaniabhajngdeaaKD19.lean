/- Texts joined: espalierref06.Book; Pieces of memory; espalierlaw07.mine, apart; espalierref07.Same, SameAll; Bytes made of a constant.; espalierlaw07.live -/
import Derived.Test.YtaniabhajngdeaaKN3
import Derived.Test.YtaniabhajngdeaaKN4
import Derived.Test.YtaniabhajngdeaaKN5
import Derived.Test.YtaniabhajngdeaaKN7
import Derived.Test.YtaniabhajngdeaaKN11
import Derived.Test.YtaniabhajngdeaaKN14
import Derived.Test.YtaniabhajngdeaaKD17
import Derived.Deep.RegionHeld3
import Derived.Lib.SlBytesConst
-- espalierref06.Book: lists of cells that came out: words and laws.
namespace Go.Proofs.Ytaniabhajngdeaa
open Go.RowKit
theorem Own.cap_same {w : World} {b b' g n n' c c' size : Nat} {T : TypeId} {xs xs' : List Value} (h : Own w b T size (.slice (some ⟨g, 0, none⟩) n c) n xs) (h' : Own w b' T size (.slice (some ⟨g, 0, none⟩) n' c') n' xs') (hs : 0 < size) : c = c' := by
  rcases h.2 with ⟨h, _⟩ | ⟨g1, c1, cs1, hv, _, hg, _, _, h3, _⟩
  · cases h
  rcases h'.2 with ⟨h, _⟩ | ⟨g2, c2, cs2, hv', _, hg', _, _, h3', _⟩
  · cases h
  injection hv with hA _ hc
  injection hA with hA
  injection hA with hA
  injection hv' with hB _ hd
  injection hB with hB
  injection hB with hB
  subst hA; subst hc; subst hB; subst hd
  obtain ⟨_, rfl⟩ := hg.same hg'
  exact Nat.eq_of_mul_eq_mul_right hs (h3.symm.trans h3')
/-- What is in the same block and no longer reads as it did, where the longer one does. -/
theorem Own.shorter {w w' : World} {g n m c c' size : Nat} {T : TypeId} {xs ys : List Value} (hs : 0 < size) (he : Own w 0 T size (.slice (some ⟨g, 0, none⟩) m c) m ys) (hx : Own w 0 T size (.slice (some ⟨g, 0, none⟩) n c') n xs) (hx' : Own w' 0 T size (.slice (some ⟨g, 0, none⟩) n c') n xs)
    (hm : m ≤ n) : Own w' 0 T size (.slice (some ⟨g, 0, none⟩) m c) m ys := by
  have hcc := he.cap_same hx hs
  subst hcc
  rcases he.2 with ⟨h, _⟩ | ⟨g1, c1, cs1, hv, _, hg, a1, _, a3, a4⟩
  · cases h
  rcases hx.2 with ⟨h, _⟩ | ⟨g2, c2, cs2, hv2, _, hg2, _, _, _, b4⟩
  · cases h
  rcases hx'.2 with ⟨h, _⟩ | ⟨g3, c3, cs3, hv3, _, hg3, d1, d2, d3, d4⟩
  · cases h
  injection hv with hA _ hc; injection hA with hA; injection hA with hA; subst hA; subst hc
  injection hv2 with hA _ hc; injection hA with hA; injection hA with hA; subst hA; subst hc
  injection hv3 with hA _ hc; injection hA with hA; injection hA with hA; subst hA; subst hc
  obtain ⟨_, rfl⟩ := hg.same hg2
  have hmn : m * size ≤ n * size := Nat.mul_le_mul_right _ hm
  refine ⟨he.1, .inr ⟨g, c, cs3, rfl, Nat.zero_le _, hg3, a1, d2, d3, ?_⟩⟩
  have e1 : cs3.take (m * size) = (cs3.take (n * size)).take (m * size) := by rw [List.take_take, Nat.min_eq_left hmn]
  have e2 : cs1.take (m * size) = (cs1.take (n * size)).take (m * size) := by rw [List.take_take, Nat.min_eq_left hmn]
  rw [e1, d4, ← b4, ← e2, a4]
/-- Cells of the call's own, of which the first q are of a kind. -/
def OwQ (w : World) (u : Value) (n : Nat) (m : Int) (q : Nat) : Prop := ∃ xs, Own w 0 50 5 u n xs ∧ ∀ k, k < q → xs[k * 5 + 1]? = some (.int .i64 m)
theorem OwQ.grown {w w' : World} {u : Value} {n q : Nat} {m : Int} {row : Option Nat} (h : OwQ w u n m q) (hg : w.grownBy w' row) (hne : ∀ g, u.ownBlock = some g → some g ≠ row) : OwQ w' u n m q := by
  obtain ⟨xs, h1, h2⟩ := h; exact ⟨xs, h1.grown hg hne, h2⟩
theorem OwQ.lt {w : World} {u : Value} {n q : Nat} {m : Int} (h : OwQ w u n m q) : ∀ k, u.ownBlock = some k → k < w.heap.size := by
  obtain ⟨xs, h1, h2⟩ := h; exact fun k hk => (h1.lt k hk).2
theorem OwQ.blkC {w : World} {u : Value} {n q : Nat} {m : Int} (h : OwQ w u n m q) {g : Nat} (hg : u.ownBlock = some g) : ∃ cs, OBlk w g 50 cs := by
  obtain ⟨xs, h1, _⟩ := h; exact h1.oblk hg
theorem OwQ.ne_T {w : World} {u : Value} {n q g : Nat} {m : Int} {T : TypeId} {cs : List Value} (h : OwQ w u n m q) (hg : OBlk w g T cs) (hT : 50 ≠ T) : some g ≠ u.ownBlock := fun e => by
  obtain ⟨cs', h'⟩ := h.blkC e.symm
  exact h'.ne hg hT rfl
theorem OwQ.ne_own {w : World} {u v : Value} {n q N b size : Nat} {m : Int} {T : TypeId} {xs : List Value} (h : OwQ w u n m q) (h' : Own w b T size v N xs) (hT : 50 ≠ T) : ∀ g, u.ownBlock = some g → some g ≠ v.ownBlock := fun g hg e => by
  obtain ⟨cs', h1⟩ := h.blkC hg
  obtain ⟨cs2, h2⟩ := h'.oblk e.symm
  exact h1.ne h2 hT rfl
/-- One more is turned. -/
theorem OwQ.set {w : World} {g n c q : Nat} {m : Int} (h : OwQ w (.slice (some ⟨g, 0, none⟩) n c) n m q) (hq : q < n) :
    OwQ (((((w.setCell ⟨g, q * 5, none⟩ (.slice none 0 0)).setCell ⟨g, q * 5 + 1, none⟩ (.int .i64 m)).setCell ⟨g, q * 5 + 2, none⟩ (.slice none 0 0)).setCell ⟨g, q * 5 + 3, none⟩ (.int .i64 0)).setCell ⟨g, q * 5 + 4, none⟩ (.int .i64 0)) (.slice (some ⟨g, 0, none⟩) n c) n m (q + 1) := by
  obtain ⟨xs, h1, h2⟩ := h
  refine ⟨_, ((((h1.set (q * 5) _).set (q * 5 + 1) _).set (q * 5 + 2) _).set (q * 5 + 3) _).set (q * 5 + 4) _, fun k hk => ?_⟩
  have hl := h1.1
  by_cases e : k = q
  · subst e
    rw [List.getElem?_set_ne (by omega), List.getElem?_set_ne (by omega), List.getElem?_set_ne (by omega), List.getElem?_set_self (by rw [List.length_set]; omega)]
  · rw [List.getElem?_set_ne (by omega), List.getElem?_set_ne (by omega), List.getElem?_set_ne (by omega), List.getElem?_set_ne (by omega), List.getElem?_set_ne (by omega)]
    exact h2 k (by omega)
theorem OwQ.cells {w : World} {g n c q : Nat} {m : Int} {j r : Nat} (h : OwQ w (.slice (some ⟨g, 0, none⟩) n c) n m q) (hj : j < n) (hr : r < 5) : (∃ u, w.cell? ⟨g, j * 5 + r, none⟩ = some u) ∧ w.frozen? ⟨g, j * 5 + r, none⟩ = false := by
  obtain ⟨xs, h1, _⟩ := h
  have hl := h1.1
  have hlt : j * 5 + r < xs.length := by rw [hl]; omega
  exact ⟨⟨_, h1.cells (j * 5 + r) _ (List.getElem?_eq_getElem hlt)⟩, h1.frozen hlt⟩
theorem OwQ.kind {w : World} {g n c q : Nat} {m : Int} {j : Nat} (h : OwQ w (.slice (some ⟨g, 0, none⟩) n c) n m q) (hj : j < q) : w.cell? ⟨g, j * 5 + 1, none⟩ = some (.int .i64 m) := by
  obtain ⟨xs, h1, h2⟩ := h
  exact h1.cells (j * 5 + 1) _ (h2 j hj)
/-- The slice e holds the marks of list b; where it lies in x's block it is no longer than n, and b is x's list. -/
def KOk (w : World) (x : Value) (n : Nat) (bx : Nat) (e : Value) (m b : Nat) : Prop := OwQ w e m (1000 + (b : Int)) m ∧ (∀ g, e.ownBlock = some g → x.ownBlock = some g → m ≤ n ∧ b = bx)
theorem KOk.step {w w' : World} {n s : Nat} {x x' e : Value} {xs : List Value} {bx m b : Nat} (h : KOk w x n bx e m b) (hx : Own w 0 50 5 x n xs) (hx' : Own w' 0 50 5 x n xs) (hg : w.grownBy w' x.ownBlock)
    (hb : x'.ownBlock = x.ownBlock ∨ x'.ownBlock = some s) (hs : w.heap.size ≤ s) : KOk w' x' (n + 1) bx e m b := by
  obtain ⟨ho, hm⟩ := h
  have hnew : ∀ g, e.ownBlock = some g → x'.ownBlock = some g → m ≤ n + 1 ∧ b = bx := by
    intro g he hxe
    rcases hb with hb | hb
    · rw [hb] at hxe
      have := hm g he hxe
      exact ⟨by omega, this.2⟩
    · rw [hb] at hxe
      injection hxe with hxe
      have := ho.lt g he; omega
  refine ⟨?_, hnew⟩
  by_cases hsame : ∃ g, e.ownBlock = some g ∧ x.ownBlock = some g
  · obtain ⟨g, he, hxg⟩ := hsame
    obtain ⟨hmn, rfl⟩ := hm g he hxg
    obtain ⟨ys, ho, hmk⟩ := ho
    rcases ho.form with ⟨rfl, _⟩ | ⟨g1, c1, rfl, _⟩
    · cases he
    rcases hx.form with ⟨rfl, _⟩ | ⟨g2, c2, rfl, _⟩
    · cases hxg
    simp [Value.ownBlock] at he hxg
    subst he; subst hxg
    exact ⟨ys, ho.shorter (by omega) hx hx' hmn, hmk⟩
  · exact ho.grown hg (fun g he hr => hsame ⟨g, he, hr.symm⟩)
theorem KOk.grown {w w' : World} {n : Nat} {x e : Value} {bx m b : Nat} {row : Option Nat} (h : KOk w x n bx e m b) (hg : w.grownBy w' row) (hne : ∀ g, e.ownBlock = some g → some g ≠ row) : KOk w' x n bx e m b :=
  ⟨h.1.grown hg hne, h.2⟩
theorem KOk.fresh {w : World} {n n' : Nat} {x y e : Value} {bx by' m b : Nat} (h : KOk w x n bx e m b) (hne : ∀ g, e.ownBlock = some g → y.ownBlock ≠ some g) : KOk w y n' by' e m b :=
  ⟨h.1, fun g he hy => absurd hy (hne g he)⟩
/-- Where the growing of list k stands. -/
structure InvK (F : Nat → Prop) (w : World) (s2 : Nat) (vs : List Value) (f : Nat → Nat) (v : Value) (k q : Nat) (gr x : Value) (es : List Value) (wi : World) : Prop where
  len : es.length = 5 * k + q
  own : Own wi s2 23 1 gr es.length es
  ox : OwQ wi x (f k + q) (1000 + (k : Int)) (f k + q)
  hE : ∀ (j : Nat) (e : Value), es[j]? = some e → (∃ m, KOk wi x (f k + q) k e m (j / 5)) ∧ ∀ (i : Nat) (u : Value), k < i → vs[i]? = some u → ∀ g, e.ownBlock = some g → u.ownBlock ≠ some g
  hk : ∀ (u : Value), vs[k]? = some u → KOk wi x (f k + q) k u (f k) k
  hx : ∀ (i : Nat) (u : Value), i ≠ k → vs[i]? = some u → ∀ g, x.ownBlock = some g → u.ownBlock ≠ some g
  hv : Own wi 0 23 1 v vs.length vs
  hl : ∀ (j : Nat) (u : Value), j ≠ k → vs[j]? = some u → OwQ wi u (f j) (1000 + (j : Int)) (f j)
  hs : ∀ (j : Nat) (u : Value), vs[j]? = some u → ∀ g, u.ownBlock = some g → g < s2
  ht : Turn F w wi
  hxF : ∀ g, x.ownBlock = some g → F g ∨ w.heap.size ≤ g
  s2w : w.heap.size ≤ s2
  size : s2 ≤ wi.heap.size
section
variable {F : Nat → Prop} {w wi w3 w4 : World} {s2 : Nat} {vs : List Value} {f : Nat → Nat} {v : Value} {k q : Nat} {gr x x3 gr4 : Value} {es xs : List Value}
/-- A cell is put behind x, and x is kept. -/
theorem InvK.step (h : InvK F w s2 vs f v k q gr x es wi) (hq : q < 5) (hV : ∀ g, v.ownBlock = some g → g < s2)
    (hox : Own wi 0 50 5 x (f k + q) xs) (hmk : ∀ j, j < f k + q → xs[j * 5 + 1]? = some (.int .i64 (1000 + (k : Int))))
    (ho3 : Own w3 0 50 5 x3 (f k + q + 1) (xs ++ [.slice none 0 0, .int .i64 (1000 + (k : Int)), .slice none 0 0, .int .i64 0, .int .i64 0])) (hg3 : wi.grownBy w3 x.ownBlock) (hb3 : x3.ownBlock = x.ownBlock ∨ x3.ownBlock = some (wi.heap.size + 1))
    (hk3 : Own w3 0 50 5 x (f k + q) xs)
    (hgr4 : Own w4 s2 23 1 gr4 (es.length + 1) (es ++ [x3])) (hg4 : w3.grownBy w4 gr.ownBlock) : InvK F w s2 vs f v k (q + 1) gr4 x3 (es ++ [x3]) w4 := by
  have hlen := h.len
  have hTT : 50 ≠ 23 := by decide
  have hgr3 : Own w3 s2 23 1 gr es.length es := h.own.grown hg3 (fun g hg e => h.ox.ne_own h.own hTT g e.symm hg.symm)
  have ho3q : OwQ w3 x3 (f k + (q + 1)) (1000 + (k : Int)) (f k + (q + 1)) := by
    refine ⟨_, ho3, fun j hj => ?_⟩
    have hl := hox.1
    rcases Nat.lt_or_ge j (f k + q) with h1 | h1
    · rw [List.getElem?_append_left (by omega)]
      exact hmk j h1
    · have : j = f k + q := by omega
      subst this
      rw [List.getElem?_append_right (by omega), hl, Nat.add_sub_cancel_left]
      rfl
  have hsz := h.ht.size
  have s3 := hg3.size
  have s4 := hg4.size
  have hz := h.size
  have hne : ∀ {u : Value} {n q' : Nat} {m : Int}, OwQ w3 u n m q' → ∀ g, u.ownBlock = some g → some g ≠ gr.ownBlock := fun hu => hu.ne_own hgr3 hTT
  have hv3 : Own w3 0 23 1 v vs.length vs := h.hv.grown hg3 (fun g hg e => h.ox.ne_own h.hv hTT g e.symm hg.symm)
  have hxx : ∀ (i : Nat) (u : Value), i ≠ k → vs[i]? = some u → ∀ g, x3.ownBlock = some g → u.ownBlock ≠ some g := by
    intro i u hi hu g hg hu'
    rcases hb3 with e | e
    · exact h.hx i u hi hu g (e ▸ hg) hu'
    · rw [e] at hg
      injection hg with hg
      have := h.hs i u hu g hu'
      omega
  refine ⟨by simp [hlen]; omega, by simpa using hgr4, ho3q.grown hg4 (hne ho3q), ?_, fun u hu => ?_, hxx, ?_, fun j u hj hu => ?_, h.hs, ?_, ?_, h.s2w, by omega⟩
  · intro j e hj
    rcases Nat.lt_or_ge j es.length with hlt | hge
    · rw [List.getElem?_append_left hlt] at hj
      obtain ⟨⟨m, he⟩, hn⟩ := h.hE j e hj
      have he3 := he.step hox hk3 hg3 hb3 (by omega)
      exact ⟨⟨m, he3.grown hg4 (hne he3.1)⟩, hn⟩
    · rw [List.getElem?_append_right hge] at hj
      have hj0 : j = es.length := by
        have := (List.getElem?_eq_some_iff.mp hj).1
        simp at this; omega
      subst hj0
      simp at hj
      subst hj
      have hd : es.length / 5 = k := by rw [hlen]; omega
      rw [hd]
      exact ⟨⟨_, ho3q.grown hg4 (hne ho3q), fun g _ _ => ⟨Nat.le_refl _, rfl⟩⟩, fun i u hi hu => hxx i u (by omega) hu⟩
  · have he3 := (h.hk u hu).step hox hk3 hg3 hb3 (by omega)
    exact he3.grown hg4 (hne he3.1)
  · refine hv3.grown hg4 (fun g hg he => ?_)
    have h1 := hV g hg
    have h2 := (hgr3.lt g he.symm).1
    omega
  · have h3 := (h.hl j u hj hu).grown hg3 (fun g hg he => h.hx j u hj hu g he.symm hg)
    exact h3.grown hg4 (hne h3)
  · refine (h.ht.grown hg3 (fun g hg => h.hxF g hg)).grown hg4 (fun g hg => ?_)
    have h1 := (hgr3.lt g hg).1
    have h2 := h.s2w
    right; omega
  · intro g hg
    rcases hb3 with e | e
    · exact h.hxF g (e ▸ hg)
    · rw [e] at hg
      injection hg with hg
      right; omega
end
theorem InvK.gr3 {F : Nat → Prop} {w wi : World} {s2 : Nat} {vs : List Value} {f : Nat → Nat} {v : Value} {k q : Nat} {gr x : Value} {es : List Value} (h : InvK F w s2 vs f v k q gr x es wi) :
    ∀ w3, wi.grownBy w3 x.ownBlock → Own w3 s2 23 1 gr es.length es := fun _ hg3 => h.own.grown hg3 (fun g hg e => h.ox.ne_own h.own (by decide) g e.symm hg.symm)
theorem LC_info : (Try.prog.info? 23).map (fun i => (i.zero, i.size, i.bytes)) = some (some (.slice none 0 0), 1, 24) := by kernel_rfl
section laws
variable {w : World} {ops : Array Oper} {rest : List Oper} {o : Oper} {a : Act} {Q : Exit → Act → World → Prop}
/-- append(l, c) of one cell that has just been laid; l reads as it did. -/
theorem wp_append_C1 (hgd : o.guard = none) (s x : Operand)
    (ho : o.op = .call { callee := .builtin .append, args := #[s, x], argTypes := #[23, 23] })
    (v : Value) (n : Nat) (xs : List Value) (hs : a.eval s = v) (hown : Own w 0 50 5 v n xs)
    (m : Int) (T : TypeId) (hx : a.eval x = .slice (some ⟨w.heap.size, 0, none⟩) 1 1) (hsm : (n + 1) * 72 ≤ 140737488355328)
    (h : ∀ v' w', Own w' 0 50 5 v' (n + 1) (xs ++ [.slice none 0 0, .int .i64 m, .slice none 0 0, .int .i64 0, .int .i64 0]) → w.grownBy w' v.ownBlock → (v'.ownBlock = v.ownBlock ∨ (v'.ownBlock = some (w.heap.size + 1))) → Own w' 0 50 5 v n xs → wpList Try.prog ops Q rest (a.put o.dst v') w') :
    wpList Try.prog ops Q (o :: rest) a (w.alloc (.cells #[.slice none 0 0, .int .i64 m, .slice none 0 0, .int .i64 0, .int .i64 0] T)) := by
  obtain ⟨i, hi, hz0, hz1, hz2⟩ := info_parts cell_info
  refine wp_append_keep hgd s x _ _ ho 0 50 i _ 5 72 Try.underlying23 hi hz0 hz1 hz2 rfl v n xs hs (hown.alloc _) (.slice (some ⟨w.heap.size, 0, none⟩) 1 1) 1 [.slice none 0 0, .int .i64 m, .slice none 0 0, .int .i64 0, .int .i64 0] hx
    (Rd.src _ Try.underlying23 (by omega) (Rd.five w _ _ _ _ _ T) (by intro u hu; simp only [List.mem_cons, List.not_mem_nil, or_false] at hu; rcases hu with rfl | rfl | rfl | rfl | rfl <;> rfl)) (by omega) (by omega) (Nat.zero_le _) ?_
  intro v' w' h1 h2 h3 h4
  refine h v' w' h1 ⟨h2.os, h2.tape, h2.output, ?_, fun k hk hne => (h2.block k (by simp; omega) hne).trans (Below.heap_alloc _ _ _ hk)⟩ (by simpa using h3) h4
  have := h2.size
  simp at this; omega
end laws
end Go.Proofs.Ytaniabhajngdeaa

-- Pieces of memory: a book.
namespace Go.Proofs.Ytaniabhajngdeaa
open Go.RowKit
/-! ### the book -/
def bkF (xs : List (Value × List UInt8)) (j : Nat) : List UInt8 := (xs.getD j (.slice none 0 0, [])).2
def bookE (bb : Nat) (v : Value) (xs : List (Value × List UInt8)) : Ent :=
  ⟨fun g => g = bb ∨ v.ownBlock = some g ∨ InL (xs.map Prod.fst) g, fun w => BookAt w 0 bb v (xs.map Prod.fst) (bkF xs), fun h k =>
    ⟨k.blk.of_heap (h bb (.inl rfl)), Own.heap k.own (fun g hg => h g (.inr (.inl hg))), fun j u hj => Own.heap (k.each j u hj) (fun g hg => h g (.inr (.inr ⟨j, u, hj, hg⟩))), k.apart⟩⟩
theorem Sep.book {w0 w : World} {L : List Ent} (h : Sep w0 w L) : Sep w0 (w.alloc (.cells #[.slice none 0 0] 37)) (bookE w.heap.size (.slice none 0 0) [] :: L) := by
  refine (h.alloc 37 [.slice none 0 0]).weak (fun hp => ⟨hp, Own.nil _ _ _ _, fun j u hj => by simp at hj, fun i j u u' _ hi => by simp at hi⟩) (fun g hg => ?_)
  rcases hg with rfl | hg | ⟨j, u, hj, _⟩
  · rfl
  · cases hg
  · simp at hj
theorem Take_sep {w0 w : World} {L : List Ent} {bb : Nat} {v u : Value} {xs : List (Value × List UInt8)} {l : List UInt8} (h : Sep w0 w (bookE bb v xs :: bytesE u l :: L)) (hn : xs.length ≤ 100000000) :
    Calls Try.prog 19 #[.pointer (some ⟨bb, 0, none⟩), u] w fun e w' => (∃ x, e = .returned x) ∧ ∃ v', Sep w0 w' (bookE bb v' (xs ++ [(u, l)]) :: L) := by
  have hB : BookAt w 0 bb v (xs.map Prod.fst) (bkF xs) := h.head
  have hU : OwB w 0 u l := h.tail.head
  refine (Take_any w 0 bb v _ _ u l hB (Nat.zero_le _) (by simpa using hn) hU (fun j y hj g hg hy => h.far (List.mem_cons_self ..) g (.inr (.inr ⟨j, y, hj, hy⟩)) hg)).mono ?_
  rintro e w' ⟨hx, v', hb', ht, hv'⟩
  refine ⟨hx, v', h.join.upd (ht.mono fun b hb => .inl (hb.elim .inl (fun h => .inr (.inl h)))) (E' := bookE bb v' (xs ++ [(u, l)])) ?_ (fun g hg => ?_)⟩
  · refine ⟨hb'.blk, by simpa using hb'.own, fun j y hj => ?_, by simpa using hb'.apart⟩
    rw [List.map_append] at hj
    have h1 := hb'.each j y hj
    have hlt := (List.getElem?_eq_some_iff.1 hj).1
    simp only [List.length_append, List.length_map, List.map_cons, List.map_nil, List.length_singleton] at hlt
    have e1 : bkF (xs ++ [(u, l)]) j = if j = (xs.map Prod.fst).length then l else bkF xs j := by
      unfold bkF
      rw [List.length_map]
      by_cases hj' : j = xs.length
      · subst hj'; simp [List.getD]
      · rw [if_neg hj']
        simp [List.getD, List.getElem?_append_left (show j < xs.length by omega)]
    rw [e1]; exact h1
  · have hsz := ht.size
    rcases hg with rfl | hg | ⟨j, y, hj, hy⟩
    · exact ⟨.inl (.inl (.inl rfl)), hb'.blk.lt⟩
    · refine ⟨?_, (Own.lt hb'.own g hg).2⟩
      rcases hv' g hg with h1 | h1
      · exact .inl (.inl (.inr (.inl h1)))
      · exact .inr h1
    · refine ⟨.inl ?_, (Own.lt (hb'.each j y (by simpa using hj)) g hy).2⟩
      rw [List.map_append, List.getElem?_append] at hj
      split at hj
      · exact .inl (.inr (.inr ⟨j, y, hj, hy⟩))
      · right
        rw [List.map_cons, List.map_nil, List.getElem?_singleton] at hj
        split at hj
        · injection hj with hj; rw [← hj] at hy; exact hy
        · cases hj
theorem Owned_sep {w0 w : World} {L : List Ent} {bb : Nat} {v : Value} {xs : List (Value × List UInt8)} (h : Sep w0 w (bookE bb v xs :: L)) (hn : xs.length ≤ 8388608) (hl : ∀ p ∈ xs, p.2.length ≤ 1000000000) :
    Calls Try.prog 20 #[.pointer (some ⟨bb, 0, none⟩)] w fun e w' => e = .returned (.bool true) ∧ Sep w0 w' L := by
  refine (BookOwned_any v _ _ 0 bb w h.head (by simpa using hn) (fun j hj => ?_)).mono ?_
  · rw [List.length_map] at hj
    have e : bkF xs j = xs[j].2 := by simp [bkF, List.getD, hj]
    rw [e]; exact hl _ (List.getElem_mem hj)
  · rintro e w' ⟨rfl, ht, _⟩
    exact ⟨rfl, h.kill (ht.mono fun b hb => .inr (.inr hb))⟩
end Go.Proofs.Ytaniabhajngdeaa

-- espalierlaw07.mine, apart: walks.
namespace Go.Proofs.Ytaniabhajngdeaa
open Go.RowKit
/-- What a list of cells gives to a book. -/
def bkC (l : List CV) : List (Value × List UInt8) := l.flatMap fun x => [(x.kv, x.c.key), (x.vv, x.c.val)]
theorem bkC_length (l : List CV) : (bkC l).length = 2 * l.length := by
  unfold bkC
  induction l with
  | nil => rfl
  | cons x r ih => rw [List.flatMap_cons, List.length_append, ih]; simp; omega
theorem bkC_take {l : List CV} {k : Nat} (h : k < l.length) : bkC (l.take (k + 1)) = bkC (l.take k) ++ [(l[k].kv, l[k].c.key)] ++ [(l[k].vv, l[k].c.val)] := by
  unfold bkC
  rw [List.take_succ_eq_append_getElem h, List.flatMap_append]; simp
theorem bkC_mem {l : List CV} {m : Nat} (h : ∀ x ∈ l, x.c.key.length ≤ m ∧ x.c.val.length ≤ m) : ∀ p ∈ bkC l, p.2.length ≤ m := fun p hp => by
  obtain ⟨x, hx, hp⟩ := List.mem_flatMap.1 hp
  simp only [List.mem_cons, List.not_mem_nil, or_false] at hp
  rcases hp with rfl | rfl
  · exact (h x hx).1
  · exact (h x hx).2
set_option maxRecDepth 100000 in
set_option maxHeartbeats 4000000 in
theorem KMine_sep {w0 w : World} {L : List Ent} {u : Value} {l : List CV} (h : Sep w0 w (ownE 50 5 u l.length (flatC l) :: (cellsE l ++ L))) (hn : l.length ≤ 1000000) (hs : ∀ x ∈ l, x.c.key.length ≤ 1000000000 ∧ x.c.val.length ≤ 1000000000) :
    Calls Try.prog 30 #[u] w fun e w' => e = .returned (.bool true) ∧ Sep w0 w' L := by
  obtain ⟨n, hnn⟩ : ∃ n, l.length = n := ⟨_, rfl⟩
  have hB := (h.book).sw1
  have ho : Own w 0 50 5 u l.length (flatC l) := h.head
  obtain ⟨A, c, rfl⟩ := Own.slice ho
  rw [hnn] at hB hn ⊢
  have HNN := Lib.hid hnn
  clear hnn ho h
  go_enter Try.func30, Try.ntmps30
  go_upto_region 2 with (fail)
  generalize hwb : w.alloc (.cells #[.slice none 0 0] 37) = w1 at *
  generalize w.heap.size = bb at *
  clear hwb
  have hS0 : Sep w0 w1 (bookE bb (.slice none 0 0) (bkC (l.take 0)) :: ownE 50 5 (.slice A n c) n (flatC l) :: (cellsE (l.drop 0) ++ L)) := by
    rw [List.take_zero, List.drop_zero]; exact hB.sw1
  clear hB
  go_wp2_with fail
  go_loopw [4] (fun i wr => ∃ (k : Nat) (bv : Value), k ≤ n ∧ i = .int .i64 (k : Int) ∧ Sep w0 wr (bookE bb bv (bkC (l.take k)) :: ownE 50 5 (.slice A n c) n (flatC l) :: (cellsE (l.drop k) ++ L))) (fun i _ => n - (intOf i).toNat)
  case atStart => exact ⟨0, _, Nat.zero_le _, rfl, hS0⟩
  case round =>
    clear hS0
    obtain ⟨k, bv, hk, rfl, hS⟩ := hrel
    by_cases hlt : k < n
    · have ik : (k : Int) < (n : Int) := by omega
      have hkl : k < l.length := by rw [HNN.out]; exact hlt
      have hbl : (bkC (l.take k)).length ≤ 2000000 := by rw [bkC_length, List.length_take]; omega
      have HBT := Lib.hid (bkC_take hkl)
      rw [cellsE_drop l hkl] at hS
      have hlx := hs _ (List.getElem_mem hkl)
      have ho : Own wr 0 50 5 (.slice A n c) n (flatC l) := hS.tail.head
      obtain ⟨g, rfl⟩ : ∃ g, A = some ⟨g, 0, none⟩ := by
        rcases ho.form with ⟨_, h⟩ | ⟨g, c', h, _⟩
        · omega
        · injection h with h; exact ⟨g, h⟩
      have hcx : ∀ (W : World), Own W 0 50 5 (.slice (some ⟨g, 0, none⟩) n c) n (flatC l) → W.cell? ⟨g, k * 5, none⟩ = some l[k].kv ∧ W.cell? ⟨g, k * 5 + 2, none⟩ = some l[k].vv := fun W hO =>
        ⟨hO.cells (k * 5) _ (flatC_at l k 0 hkl (by omega)), hO.cells (k * 5 + 2) _ (flatC_at l k 2 hkl (by omega))⟩
      obtain ⟨y0, -⟩ := hcx wr ho
      obtain ⟨K1, k1, hk1⟩ := Own.slice (show OwB wr 0 l[k].kv l[k].c.key from hS.tail.tail.head)
      obtain ⟨V1, v1, hv1⟩ := Own.slice (show OwB wr 0 l[k].vv l[k].c.val from hS.tail.tail.tail.head)
      have HCX := Lib.hid hcx
      have HLX := Lib.hid hlx
      clear hcx ho hlx
      generalize l[k] = x at *
      obtain ⟨kv, vv, key, ck, val, pg, ct⟩ := x
      simp only at hk1 hv1 hS HBT HCX HLX y0
      subst hk1 hv1
      have hT := Take_sep (hS.sn [_]) (by omega)
      clear hS
      go_upto_region 6 with (first
        | (go_at_call 19; (with_reducible refine hT.mono ?_); rintro e w2 ⟨⟨_, rfl⟩, bv2, hS2⟩)
        | fail)
      obtain ⟨-, y2⟩ := HCX.out w2 (show Own w2 0 50 5 (.slice (some ⟨g, 0, none⟩) n c) n (flatC l) from hS2.tail.head)
      have hT2 := Take_sep (hS2.sn [_]) (by rw [List.length_append]; simp; omega)
      clear hT hS2 y0
      go_wp2_with (first
        | (go_at_call 19; (with_reducible refine hT2.mono ?_); rintro e w3 ⟨⟨_, rfl⟩, bv3, hS3⟩)
        | fail)
      refine ⟨⟨k + 1, bv3, by omega, by go_num, ?_⟩, by simp [intOf]; omega⟩
      rw [HBT.out]; exact hS3
    · obtain rfl : k = n := by omega
      have e1 : l.take k = l := List.take_of_length_le (by rw [HNN.out]; omega)
      have e2 : l.drop k = [] := List.drop_of_length_le (by rw [HNN.out]; omega)
      rw [e1, e2] at hS
      have hO := Owned_sep hS (by rw [bkC_length, HNN.out]; omega) (bkC_mem hs)
      clear hS e1 e2
      go_wp2_with (first
        | (go_at_call 20; (with_reducible refine hO.mono ?_); rintro e w2 ⟨rfl, hS2⟩)
        | fail)
      go_ret
      exact ⟨rfl, hS2.tail⟩
/-! ### apart -/
theorem OwQ.heap {w w' : World} {u : Value} {n q : Nat} {m : Int} (h : OwQ w u n m q) (k : ∀ g, u.ownBlock = some g → w'.heap[g]? = w.heap[g]?) : OwQ w' u n m q := by
  obtain ⟨xs, h1, h2⟩ := h; exact ⟨xs, Own.heap h1 k, h2⟩
theorem OwQ.slice7 {w : World} {u : Value} {n q : Nat} {m : Int} (h : OwQ w u n m q) : ∃ A c, u = .slice A n c := by obtain ⟨xs, h1, _⟩ := h; exact h1.slice
theorem OwQ.some7 {w : World} {B : Option Addr} {n c q : Nat} {m : Int} (h : OwQ w (.slice B n c) n m q) (h0 : 0 < n) : ∃ g, B = some ⟨g, 0, none⟩ := by
  obtain ⟨xs, h1, _⟩ := h
  rcases h1.form with ⟨_, h⟩ | ⟨g, c', h, _⟩
  · omega
  · injection h with h; exact ⟨g, h⟩
/-- A list, of which the first cells are marked. -/
def qE (u : Value) (n : Nat) (m : Int) (q : Nat) : Ent := ⟨fun g => u.ownBlock = some g, fun w => OwQ w u n m q, fun h k => k.heap h⟩
theorem Sep.qSet {w0 w : World} {L : List Ent} {g n c q : Nat} {m : Int} (h : Sep w0 w (qE (.slice (some ⟨g, 0, none⟩) n c) n m q :: L)) (hq : q < n) :
    Sep w0 (((((w.setCell ⟨g, q * 5, none⟩ (.slice none 0 0)).setCell ⟨g, q * 5 + 1, none⟩ (.int .i64 m)).setCell ⟨g, q * 5 + 2, none⟩ (.slice none 0 0)).setCell ⟨g, q * 5 + 3, none⟩ (.int .i64 0)).setCell ⟨g, q * 5 + 4, none⟩ (.int .i64 0)) (qE (.slice (some ⟨g, 0, none⟩) n c) n m (q + 1) :: L) := by
  have hg := grown5 w g q (.slice none 0 0) (.int .i64 m) (.slice none 0 0) (.int .i64 0) (.int .i64 0)
  have ho : OwQ w (.slice (some ⟨g, 0, none⟩) n c) n m q := h.head
  exact h.upd (Turn.of_grown hg (fun j e => e)) (ho.set hq) (fun b hb => ⟨.inl hb, by have h' := h.lt b hb; have := hg.size; omega⟩)
/-- A marked list, and the list that it has grown to. -/
def grE (m : Int) (a c : Value) (n k : Nat) : Ent := ⟨fun g => a.ownBlock = some g ∨ c.ownBlock = some g, fun w => OwQ w a n m n ∧ OwQ w c (n + k) m (n + k), fun h k => ⟨k.1.heap fun g hg => h g (.inl hg), k.2.heap fun g hg => h g (.inr hg)⟩⟩
theorem OwQ.shorter {w w' : World} {a c : Value} {n N : Nat} {m : Int} {xs : List Value} (ha : OwQ w a n m n) (hc : Own w 0 50 5 c N xs) (hc' : Own w' 0 50 5 c N xs) (hg : w.grownBy w' c.ownBlock) (hn : n ≤ N) : OwQ w' a n m n := by
  by_cases hsame : ∃ g, a.ownBlock = some g ∧ c.ownBlock = some g
  · obtain ⟨g, he, hxg⟩ := hsame
    obtain ⟨ys, ho, hmk⟩ := ha
    rcases ho.form with ⟨rfl, _⟩ | ⟨g1, c1, rfl, _⟩
    · cases he
    rcases hc.form with ⟨rfl, _⟩ | ⟨g2, c2, rfl, _⟩
    · cases hxg
    simp [Value.ownBlock] at he hxg
    subst he; subst hxg
    exact ⟨ys, ho.shorter (by omega) hc hc' hn, hmk⟩
  · exact ha.grown hg (fun g he hr => hsame ⟨g, he, hr.symm⟩)
theorem Sep.grStep {w0 w w' : World} {L : List Ent} {m : Int} {a c c' : Value} {n k : Nat} {xs : List Value} (h : Sep w0 w (grE m a c n k :: L)) (hc : Own w 0 50 5 c (n + k) xs) (hm : ∀ j, j < n + k → xs[j * 5 + 1]? = some (.int .i64 m))
    (ho : Own w' 0 50 5 c' (n + k + 1) (xs ++ [.slice none 0 0, .int .i64 m, .slice none 0 0, .int .i64 0, .int .i64 0])) (hg : w.grownBy w' c.ownBlock) (hb : c'.ownBlock = c.ownBlock ∨ c'.ownBlock = some (w.heap.size + 1)) (hk : Own w' 0 50 5 c (n + k) xs) : Sep w0 w' (grE m a c' n (k + 1) :: L) := by
  have hh : OwQ w a n m n ∧ OwQ w c (n + k) m (n + k) := h.head
  have ha' : OwQ w' a n m n := hh.1.shorter hc hk hg (by omega)
  have hc2 : OwQ w' c' (n + (k + 1)) m (n + (k + 1)) := by
    refine ⟨_, ho, fun j hj => ?_⟩
    have hl := hc.1
    rcases Nat.lt_or_ge j (n + k) with h1 | h1
    · rw [List.getElem?_append_left (by omega)]
      exact hm j h1
    · have : j = n + k := by omega
      subst this
      rw [List.getElem?_append_right (by omega), hl, Nat.add_sub_cancel_left]
      rfl
  refine h.upd (Turn.of_grown hg (fun j e => .inr e)) ⟨ha', hc2⟩ (fun g hg' => ?_)
  rcases hg' with e | e
  · exact ⟨.inl (.inl e), ha'.lt g e⟩
  · refine ⟨?_, hc2.lt g e⟩
    rcases hb with hb | hb
    · exact .inl (.inr (hb.symm.trans e))
    · right
      have := hb.symm.trans e
      injection this with this
      omega
set_option maxRecDepth 100000 in
set_option maxHeartbeats 8000000 in
theorem KApart_sep {w0 w : World} {L : List Ent} {u v : Value} {l m : List CV} (h : Sep w0 w (ownE 50 5 u l.length (flatC l) :: ownE 50 5 v m.length (flatC m) :: L)) (hn : l.length ≤ 1000000) (hn2 : m.length ≤ 1000000) :
    Calls Try.prog 31 #[u, v] w fun e w' => e = .returned (.bool true) ∧ Sep w0 w' L := by
  have hS0 : Sep w0 w (qE u l.length (-5) 0 :: qE v m.length (-6) 0 :: L) := (h.weak (E' := qE u l.length (-5) 0) (fun hp => ⟨_, hp, fun k hk => by omega⟩) (fun g hg => hg)).sw1.weak (E' := qE v m.length (-6) 0) (fun hp => ⟨_, hp, fun k hk => by omega⟩) (fun g hg => hg) |>.sw1
  clear h
  generalize l.length = a at *
  generalize m.length = b at *
  obtain ⟨A, ca, rfl⟩ := OwQ.slice7 (show OwQ w u a (-5) 0 from hS0.head)
  obtain ⟨B, cb, rfl⟩ := OwQ.slice7 (show OwQ w v b (-6) 0 from hS0.tail.head)
  go_enter Try.func31, Try.ntmps31
  go_wp2_with fail
  go_loopw [5] (fun i wr => ∃ k : Nat, k ≤ a ∧ i = .int .i64 (k : Int) ∧ Sep w0 wr (qE (.slice A a ca) a (-5) k :: qE (.slice B b cb) b (-6) 0 :: L)) (fun i _ => a - (intOf i).toNat)
  case atStart => exact ⟨0, Nat.zero_le _, rfl, hS0⟩
  case round =>
    clear hS0
    obtain ⟨k, hk, rfl, hS⟩ := hrel
    have how : OwQ wr (.slice A a ca) a (-5) k := hS.head
    by_cases hlt : k < a
    · have ik : (k : Int) < (a : Int) := by omega
      obtain ⟨g, rfl⟩ := how.some7 (by omega)
      obtain ⟨⟨u0, d0⟩, f0⟩ := how.cells (r := 0) hlt (by omega)
      obtain ⟨⟨u1, d1⟩, f1⟩ := how.cells (r := 1) hlt (by omega)
      obtain ⟨⟨u2, d2⟩, f2⟩ := how.cells (r := 2) hlt (by omega)
      obtain ⟨⟨u3, d3⟩, f3⟩ := how.cells (r := 3) hlt (by omega)
      obtain ⟨⟨u4, d4⟩, f4⟩ := how.cells (r := 4) hlt (by omega)
      rw [Nat.add_zero] at d0 f0
      have HS := Lib.hid (hS.qSet hlt)
      clear how hS
      go_wp2_with fail
      exact ⟨⟨k + 1, by omega, by go_num, HS.out⟩, by simp [intOf]; omega⟩
    · obtain rfl : k = a := by omega
      clear how
      have hS1 := hS.sw1
      clear hS
      obtain ⟨w9, rfl⟩ : ∃ w9, w9 = wr := ⟨_, rfl⟩
      go_wp2_with fail
      go_loopw [6] (fun i wr => ∃ j : Nat, j ≤ b ∧ i = .int .i64 (j : Int) ∧ Sep w0 wr (qE (.slice B b cb) b (-6) j :: qE (.slice A k ca) k (-5) k :: L)) (fun i _ => b - (intOf i).toNat)
      case atStart => exact ⟨0, Nat.zero_le _, rfl, hS1⟩
      case round =>
        clear hS1
        obtain ⟨j, hj, rfl, hS⟩ := hrel
        have how : OwQ wr (.slice B b cb) b (-6) j := hS.head
        by_cases hlt : j < b
        · have ik : (j : Int) < (b : Int) := by omega
          obtain ⟨g, rfl⟩ := how.some7 (by omega)
          obtain ⟨⟨u0, d0⟩, f0⟩ := how.cells (r := 0) hlt (by omega)
          obtain ⟨⟨u1, d1⟩, f1⟩ := how.cells (r := 1) hlt (by omega)
          obtain ⟨⟨u2, d2⟩, f2⟩ := how.cells (r := 2) hlt (by omega)
          obtain ⟨⟨u3, d3⟩, f3⟩ := how.cells (r := 3) hlt (by omega)
          obtain ⟨⟨u4, d4⟩, f4⟩ := how.cells (r := 4) hlt (by omega)
          rw [Nat.add_zero] at d0 f0
          have HS := Lib.hid (hS.qSet hlt)
          clear how hS
          go_wp2_with fail
          exact ⟨⟨j + 1, by omega, by go_num, HS.out⟩, by simp [intOf]; omega⟩
        · obtain rfl : j = b := by omega
          clear how
          have hS1 : Sep w0 wr (grE (-5) (.slice A k ca) (.slice A k ca) k 0 :: grE (-6) (.slice B j cb) (.slice B j cb) j 0 :: L) :=
            ((hS.weak (E' := grE (-6) (.slice B j cb) (.slice B j cb) j 0) (fun hp => ⟨hp, hp⟩) (fun g hg => by rcases hg with e | e <;> exact e)).sw1.weak (E' := grE (-5) (.slice A k ca) (.slice A k ca) k 0) (fun hp => ⟨hp, hp⟩) (fun g hg => by rcases hg with e | e <;> exact e))
          clear hS
          obtain ⟨w8, rfl⟩ : ∃ w8, w8 = wr := ⟨_, rfl⟩
          go_wp2_with fail
          go_loopw [7, 8, 9] (fun x y i wr => ∃ q : Nat, q ≤ 9 ∧ i = .int .i64 (q : Int) ∧ Sep w0 wr (grE (-5) (.slice A k ca) x k q :: grE (-6) (.slice B j cb) y j q :: L)) (fun _ _ i _ => 9 - (intOf i).toNat)
          case atStart => exact ⟨0, by omega, rfl, hS1⟩
          case round =>
            clear hS1
            obtain ⟨q, hq, rfl, hS⟩ := hrel
            by_cases hlt : q < 9
            · have ik : (q : Int) < 9 := by omega
              obtain ⟨xs, hx, hxm⟩ := (show OwQ wr _ k (-5) k ∧ OwQ wr _ (k + q) (-5) (k + q) from hS.head).2
              have HXM := Lib.hid hxm
              obtain ⟨X, cx, rfl⟩ := hx.slice
              clear hxm
              go_upto_region 15 with (first
                | (at_builtin; refine wp_append_C1 rfl (.tmp 38) (.tmp 40) rfl _ (k + q) xs rfl hx (-5) 50 rfl (by omega) ?_; intro x3 w4 ho3 hg3 hb3 hk3; obtain ⟨B3, c3, rfl⟩ := ho3.slice)
                | fail)
              have hS2 := (hS.grStep hx HXM.out ho3 hg3 hb3 hk3).sw1
              clear hS hx ho3 hg3 hb3 hk3 HXM
              obtain ⟨ys, hy, hym⟩ := (show OwQ w4 _ j (-6) j ∧ OwQ w4 _ (j + q) (-6) (j + q) from hS2.head).2
              have HYM := Lib.hid hym
              obtain ⟨Y, cy, rfl⟩ := hy.slice
              clear hym
              go_wp2_with (first
                | (at_builtin; refine wp_append_C1 rfl (.tmp 42) (.tmp 44) rfl _ (j + q) ys rfl hy (-6) 50 rfl (by omega) ?_; intro y3 w5 ho3 hg3 hb3 hk3; obtain ⟨B5, c5, rfl⟩ := ho3.slice)
                | fail)
              exact ⟨⟨q + 1, by omega, by go_num, (hS2.grStep hy HYM.out ho3 hg3 hb3 hk3).sw1⟩, by simp [intOf]; omega⟩
            · obtain rfl : q = 9 := by omega
              obtain ⟨hqa, hqc⟩ := (show OwQ wr (.slice A k ca) k (-5) k ∧ OwQ wr _ (k + 9) (-5) (k + 9) from hS.head)
              obtain ⟨hqb, hqd⟩ := (show OwQ wr (.slice B j cb) j (-6) j ∧ OwQ wr _ (j + 9) (-6) (j + 9) from hS.tail.head)
              obtain ⟨X, cx, rfl⟩ := hqc.slice7
              obtain ⟨Y, cy, rfl⟩ := hqd.slice7
              obtain ⟨gx, rfl⟩ := hqc.some7 (by omega)
              obtain ⟨gy, rfl⟩ := hqd.some7 (by omega)
              have HS := Lib.hid hS.tail.tail
              clear hS
              obtain ⟨w7, rfl⟩ : ∃ w7, w7 = wr := ⟨_, rfl⟩
              go_wp2_with fail
              go_loopw [10] (fun i wr => wr = w7 ∧ ∃ p : Nat, p ≤ k + 9 ∧ i = .int .i64 (p : Int)) (fun i _ => k + 9 - (intOf i).toNat)
              case atStart => exact ⟨rfl, 0, by omega, rfl⟩
              case round =>
                obtain ⟨rfl, p, hp, rfl⟩ := hrel
                by_cases hlt : p < k + 9
                · have ip : (p : Int) < (k : Int) + 9 := by omega
                  have y0 := hqc.kind hlt
                  by_cases hpa : p < k
                  · have ip2 : (p : Int) < (k : Int) := by omega
                    obtain ⟨ga, rfl⟩ := hqa.some7 (by omega)
                    have y1 := hqa.kind hpa
                    go_wp2_with fail
                    exact ⟨⟨trivial, p + 1, by omega, by go_num⟩, by simp [intOf]; omega⟩
                  · have ip2 : ¬ (p : Int) < (k : Int) := by omega
                    go_wp2_with fail
                    exact ⟨⟨trivial, p + 1, by omega, by go_num⟩, by simp [intOf]; omega⟩
                · obtain rfl : p = k + 9 := by omega
                  obtain ⟨w6, rfl⟩ : ∃ w6, w6 = wr := ⟨_, rfl⟩
                  go_wp2_with fail
                  go_loopw [11] (fun i wr => wr = w6 ∧ ∃ p : Nat, p ≤ j + 9 ∧ i = .int .i64 (p : Int)) (fun i _ => j + 9 - (intOf i).toNat)
                  case atStart => exact ⟨rfl, 0, by omega, rfl⟩
                  case round =>
                    obtain ⟨rfl, p, hp, rfl⟩ := hrel
                    by_cases hlt : p < j + 9
                    · have ip : (p : Int) < (j : Int) + 9 := by omega
                      have y0 := hqd.kind hlt
                      by_cases hpa : p < j
                      · have ip2 : (p : Int) < (j : Int) := by omega
                        obtain ⟨ga, rfl⟩ := hqb.some7 (by omega)
                        have y1 := hqb.kind hpa
                        go_wp2_with fail
                        exact ⟨⟨trivial, p + 1, by omega, by go_num⟩, by simp [intOf]; omega⟩
                      · have ip2 : ¬ (p : Int) < (j : Int) := by omega
                        go_wp2_with fail
                        exact ⟨⟨trivial, p + 1, by omega, by go_num⟩, by simp [intOf]; omega⟩
                    · obtain rfl : p = j + 9 := by omega
                      go_wp2_with fail
                      go_ret
                      exact ⟨rfl, HS.out⟩
end Go.Proofs.Ytaniabhajngdeaa

-- espalierref07.Same, SameAll: walks.
namespace Go.Proofs.Ytaniabhajngdeaa
open Go.RowKit
def sameB (a b : PC) : Bool := (a.key == b.key) && ((a.val == b.val) && ((a.kind == b.kind) && ((a.page == b.page) && (a.count == b.count))))
theorem sameB_iff {a b : PC} : sameB a b = true ↔ a = b := by
  obtain ⟨k, kd, v, p, c⟩ := a
  obtain ⟨k', kd', v', p', c'⟩ := b
  unfold sameB
  simp only [Bool.and_eq_true, beq_iff_eq]
  constructor
  · rintro ⟨rfl, rfl, rfl, rfl, rfl⟩; rfl
  · intro h; injection h with h1 h2 h3 h4 h5; exact ⟨h1, h3, h2, h4, h5⟩
def sameAllB : List PC → List PC → Bool
  | [], [] => true
  | a :: x, b :: y => sameB a b && sameAllB x y
  | _, _ => false
theorem sameAllB_iff : ∀ {x y : List PC}, sameAllB x y = true ↔ x = y
  | [], [] => by simp [sameAllB]
  | [], _ :: _ => by simp [sameAllB]
  | _ :: _, [] => by simp [sameAllB]
  | a :: x, b :: y => by simp [sameAllB, sameB_iff, sameAllB_iff]
set_option maxRecDepth 100000 in
set_option maxHeartbeats 2000000 in
theorem RKSame_any (x y : CV) (w : World) (hx : x.ok w) (hy : y.ok w) :
    Calls Try.prog 65 #[cellV x, cellV y] w fun e w' => e = .returned (.bool (sameB x.c y.c)) ∧ Below w.heap.size w w' := by
  obtain ⟨A, ca, B, cb, key, ck, val, pg, ct, rfl, -, -⟩ := CV.form hx
  obtain ⟨A', ca', B', cb', key', ck', val', pg', ct', rfl, -, -⟩ := CV.form hy
  have hA : Below w.heap.size w ((w.alloc (.cells #[.slice A key.length ca, .int .i64 ck, .slice B val.length cb, .int .i64 pg, .int .i64 ct] 50)).alloc (.cells #[.slice A' key'.length ca', .int .i64 ck', .slice B' val'.length cb', .int .i64 pg', .int .i64 ct'] 50)) := ((Below.refl _ _).alloc (Nat.le_refl _) _).alloc (by simp) _
  have hC := (OBlk.new' w 50 [.slice A key.length ca, .int .i64 ck, .slice B val.length cb, .int .i64 pg, .int .i64 ct]).alloc (.cells #[.slice A' key'.length ca', .int .i64 ck', .slice B' val'.length cb', .int .i64 pg', .int .i64 ct'] 50)
  have hD := OBlk.new' (w.alloc (.cells #[.slice A key.length ca, .int .i64 ck, .slice B val.length cb, .int .i64 pg, .int .i64 ct] 50)) 50 [.slice A' key'.length ca', .int .i64 ck', .slice B' val'.length cb', .int .i64 pg', .int .i64 ct']
  rw [World.size_alloc] at hD
  have q1 := run_B_string (hx.below hA).k
  have q2 := run_B_string (hy.below hA).k
  have q3 := run_B_string (hx.below hA).v
  have q4 := run_B_string (hy.below hA).v
  unfold cellV
  simp only at q1 q2 q3 q4 ⊢
  have HV : Hid (sameB ⟨key, ck, val, pg, ct⟩ ⟨key', ck', val', pg', ct'⟩ = ((key == key') && ((val == val') && ((ck == ck') && ((pg == pg') && (ct == ct')))))) := Lib.hid rfl
  generalize sameB ⟨key, ck, val, pg, ct⟩ ⟨key', ck', val', pg', ct'⟩ = V at *
  clear hx hy
  go_enter Try.func65, Try.ntmps65
  go_upto_region 1 with (fail)
  generalize ((w.alloc (.cells #[.slice A key.length ca, .int .i64 ck, .slice B val.length cb, .int .i64 pg, .int .i64 ct] 50)).alloc (.cells #[.slice A' key'.length ca', .int .i64 ck', .slice B' val'.length cb', .int .i64 pg', .int .i64 ct'] 50)) = w1 at *
  obtain ⟨c0, c1, c2, c3, c4⟩ := cells5 hC
  obtain ⟨d0, d1, d2, d3, d4⟩ := cells5 hD
  cases h1 : (key == key') with
  | false =>
    have HV2 : Hid (V = false) := Lib.hid (by rw [HV.out, h1]; rfl)
    go_wp2_with fail
    go_ret
    rw [HV2.out]
    exact ⟨rfl, hA⟩
  | true =>
    cases h2 : (val == val') with
    | false =>
      have HV2 : Hid (V = false) := Lib.hid (by rw [HV.out, h1, h2]; rfl)
      go_wp2_with fail
      go_ret
      rw [HV2.out]
      exact ⟨rfl, hA⟩
    | true =>
      cases h3 : (ck == ck') with
      | false =>
        have HV2 : Hid (V = false) := Lib.hid (by rw [HV.out, h1, h2, h3]; rfl)
        go_wp2_with fail
        go_ret
        rw [HV2.out]
        exact ⟨rfl, hA⟩
      | true =>
        cases h4 : (pg == pg') with
        | false =>
          have HV2 : Hid (V = false) := Lib.hid (by rw [HV.out, h1, h2, h3, h4]; rfl)
          go_wp2_with fail
          go_ret
          rw [HV2.out]
          exact ⟨rfl, hA⟩
        | true =>
          have HV2 : Hid (V = (ct == ct')) := Lib.hid (by rw [HV.out, h1, h2, h3, h4]; rfl)
          go_wp2_with fail
          go_ret
          rw [HV2.out]
          exact ⟨rfl, hA⟩
theorem sameAllB_len : ∀ {x y : List PC}, x.length ≠ y.length → sameAllB x y = false
  | [], [], h => absurd rfl h
  | [], _ :: _, _ => rfl
  | _ :: _, [], _ => rfl
  | a :: x, b :: y, h => by
    have : x.length ≠ y.length := fun e => h (by simp [e])
    rw [sameAllB, sameAllB_len this, Bool.and_false]
set_option maxRecDepth 100000 in
set_option maxHeartbeats 2000000 in
theorem RKSameAll_any (u v : Value) (l m : List CV) (w : World) (hu : RdCs w u l) (hv : RdCs w v m) :
    Calls Try.prog 22 #[u, v] w fun e w' => e = .returned (.bool (sameAllB (pcs l) (pcs m))) ∧ Below w.heap.size w w' := by
  obtain ⟨A, c, rfl, hm, hc⟩ := hu.slice
  obtain ⟨B, d, rfl, hm2, hc2⟩ := hv.slice
  by_cases hl : l.length = m.length
  · have e1 : ((l.length : Int) != (m.length : Int)) = false := by simp [hl]
    rw [← hl] at hv hm2
    have HL := Lib.hid hl
    rw [← hl]
    clear hl
    rw [← HL.out] at e1
    obtain ⟨V, hV⟩ : ∃ V, sameAllB (pcs l) (pcs m) = V := ⟨_, rfl⟩
    rw [hV]
    have HV := Lib.hid hV
    clear hV
    go_enter Try.func22, Try.ntmps22
    go_wp2_with fail
    go_loopw [5] (fun i wr => ∃ k : Nat, k ≤ l.length ∧ i = .int .i64 (k : Int) ∧ Hid (sameAllB (pcs l) (pcs m) = sameAllB ((pcs l).drop k) ((pcs m).drop k)) ∧ Below w.heap.size w wr) (fun i _ => l.length - (intOf i).toNat)
    case atStart => exact ⟨0, Nat.zero_le _, rfl, Lib.hid rfl, Below.refl _ _⟩
    case round =>
      obtain ⟨k, hk, rfl, HS, hB⟩ := hrel
      by_cases hlt : k < l.length
      · have hlt2 : k < m.length := by rw [← HL.out]; exact hlt
        have ik : (k : Int) < (l.length : Int) := by omega
        have j1 : (0 : Int) ≤ (k : Int) := by omega
        have hst : sameAllB ((pcs l).drop k) ((pcs m).drop k) = (sameB l[k].c m[k].c && sameAllB ((pcs l).drop (k + 1)) ((pcs m).drop (k + 1))) := by
          rw [List.drop_eq_getElem_cons (show k < (pcs l).length by rw [pcs_length]; exact hlt), List.drop_eq_getElem_cons (show k < (pcs m).length by rw [pcs_length]; exact hlt2), sameAllB, pcs_at hlt, pcs_at hlt2]
        have HST := Lib.hid hst
        obtain ⟨ad, rfl, a0, a1, a2, a3, a4⟩ := (hu.below hB).at_ hlt
        obtain ⟨bd, rfl, b0, b1, b2, b3, b4⟩ := (hv.below hB).at_ hlt2
        have hx := (hu.below hB).ok _ (List.getElem_mem hlt)
        have hy := (hv.below hB).ok _ (List.getElem_mem hlt2)
        have hsm := RKSame_any l[k] m[k] wr.drew (hx.below ((Below.refl _ _).drew)) (hy.below ((Below.refl _ _).drew))
        clear hst
        generalize l[k] = x at *
        generalize m[k] = y at *
        obtain ⟨A1, p1, B1, q1, key, ck, val, pg, ct, rfl, -, -⟩ := CV.form hx
        obtain ⟨A2, p2, B2, q2, key', ck', val', pg', ct', rfl, -, -⟩ := CV.form hy
        unfold cellV at hsm
        simp only at hsm
        generalize sameB ⟨key, ck, val, pg, ct⟩ ⟨key', ck', val', pg', ct'⟩ = V1 at *
        go_upto_region 6 with (fail)
        go_cut [6] (fun s wx => s = .bool V1 ∧ Below w.heap.size w wx)
        case first =>
          go_region_held3 (fun w' => w'.cell? (ad.add (k * 5)) = some (.slice A1 key.length p1) ∧ w'.cell? ⟨(ad.add (k * 5)).block, (ad.add (k * 5)).off + 1, none⟩ = some (.int .i64 ck) ∧ w'.cell? ⟨(ad.add (k * 5)).block, (ad.add (k * 5)).off + 2, none⟩ = some (.slice B1 val.length q1) ∧ w'.cell? ⟨(ad.add (k * 5)).block, (ad.add (k * 5)).off + 3, none⟩ = some (.int .i64 pg) ∧ w'.cell? ⟨(ad.add (k * 5)).block, (ad.add (k * 5)).off + 4, none⟩ = some (.int .i64 ct) ∧
              w'.cell? (bd.add (k * 5)) = some (.slice A2 key'.length p2) ∧ w'.cell? ⟨(bd.add (k * 5)).block, (bd.add (k * 5)).off + 1, none⟩ = some (.int .i64 ck') ∧ w'.cell? ⟨(bd.add (k * 5)).block, (bd.add (k * 5)).off + 2, none⟩ = some (.slice B2 val'.length q2) ∧ w'.cell? ⟨(bd.add (k * 5)).block, (bd.add (k * 5)).off + 3, none⟩ = some (.int .i64 pg') ∧ w'.cell? ⟨(bd.add (k * 5)).block, (bd.add (k * 5)).off + 4, none⟩ = some (.int .i64 ct'))
            (first | exact ⟨a0, a1, a2, a3, a4, b0, b1, b2, b3, b4⟩ | (refine ⟨?_, ?_, ?_, ?_, ?_, ?_, ?_, ?_, ?_, ?_⟩ <;> (refine (hw2.cell (World.block_lt_of_cell? wr.drew _ (by assumption))).trans ?_; assumption)))
            (first
              | (go_at_call 65; refine hsm.mono ?_; rintro e w2 ⟨rfl, hw2⟩)
              | fail)
          go_wp2_with fail
          go_meet
          exact ⟨rfl, hB.drew.trans (hw2.mono hB.size)⟩
        case rest =>
          obtain ⟨rfl, hB2⟩ := hcut
          cases V1 with
          | true =>
            have HS2 : Hid (sameAllB (pcs l) (pcs m) = sameAllB ((pcs l).drop (k + 1)) ((pcs m).drop (k + 1))) := Lib.hid (by rw [HS.out, HST.out, Bool.true_and])
            go_wp2_with fail
            go_roundw
            case rel => exact ⟨k + 1, by omega, by go_num, HS2, hB2⟩
            case measure => simp [intOf]; omega
          | false =>
            have HV2 : Hid (V = false) := Lib.hid (by rw [← HV.out, HS.out, HST.out, Bool.false_and])
            go_wp2_with fail
            go_ret
            rw [HV2.out]
            exact ⟨rfl, hB2⟩
      · obtain rfl : k = l.length := by omega
        have HV2 : Hid (V = true) := Lib.hid (by rw [← HV.out, HS.out, List.drop_of_length_le (by rw [pcs_length]; omega), List.drop_of_length_le (by rw [pcs_length, ← HL.out]; omega)]; rfl)
        go_wp2_with fail
        go_ret
        rw [HV2.out]
        exact ⟨rfl, hB⟩
  · have e1 : ((l.length : Int) != (m.length : Int)) = true := by simp only [bne, beq_eq_false_iff_ne.2 (show (l.length : Int) ≠ (m.length : Int) by omega)]; rfl
    rw [sameAllB_len (by rw [pcs_length, pcs_length]; exact hl)]
    clear hl
    go_enter Try.func22, Try.ntmps22
    go_wp2_with fail
    go_ret
    exact ⟨rfl, Below.refl _ _⟩
end Go.Proofs.Ytaniabhajngdeaa

-- Bytes made of a constant.
namespace Go.Proofs.Ytaniabhajngdeaa
open Go.RowKit
theorem conv_id (w : World) (C : Array Value) (n c g : Nat) (hg : g = w.heap.size) : (convert 29 29 (.slice (some ⟨g, 0, none⟩) n c)).run Try.prog (w.alloc (.cells C 5)) = .ok (.slice (some ⟨g, 0, none⟩) n c) (w.alloc (.cells C 5 (C.size, C.size + 1))) := by
  subst hg; exact Lib.run_convert_bytes_const w _ _ C n c Try.underlying29 Try.underlying5
theorem RdB.litm (w : World) (l : List UInt8) (cells : Array Value) (T : TypeId) (fr : Nat × Nat) (n : Nat) (h : cells = (bvs l).toArray) (hn : l.length = n) (hm : n ≤ maxLen) : RdB (w.alloc (.cells cells T fr)) (.slice (some ⟨w.heap.size, 0, none⟩) n n) l := by
  subst h; subst hn
  refine ⟨_, _, rfl, Nat.le_refl _, hm, fun j hj => ⟨_, rfl, ?_⟩⟩
  rw [add_row, Nat.zero_add, World.cell?_alloc_mark]
  have := bvs_get' l j hj
  simpa using this
end Go.Proofs.Ytaniabhajngdeaa

-- espalierlaw07.live: the walk.
namespace Go.Proofs.Ytaniabhajngdeaa
open Go.RowKit
/-- Bytes of a block, as they are read. -/
def litE (g n : Nat) (l : List UInt8) : Ent :=
  ⟨fun b => b = g, fun w => RdB w (.slice (some ⟨g, 0, none⟩) n n) l, fun {w w'} h k => by
    obtain ⟨A, c, hv, h1, h2, h3⟩ := k
    refine ⟨A, c, hv, h1, h2, fun j hj => ?_⟩
    obtain ⟨ad, hA, hc⟩ := h3 j hj
    refine ⟨ad, hA, ?_⟩
    obtain rfl : (⟨g, 0, none⟩ : Addr) = ad := by
      injection hv with hv1
      rw [← hv1] at hA
      injection hA
    rw [add_row] at hc ⊢
    rw [World.cell?_of_block (h g rfl)]
    exact hc⟩
theorem Sep.lit {w0 w : World} {L : List Ent} (h : Sep w0 w L) (l : List UInt8) (cells : Array Value) (T : TypeId) (fr : Nat × Nat) (n : Nat) (hc : cells = (bvs l).toArray) (hn : l.length = n) (hm : n ≤ maxLen) : Sep w0 (w.alloc (.cells cells T fr)) (litE w.heap.size n l :: L) :=
  h.new ((Below.refl _ _).alloc (Nat.le_refl _) _) (RdB.litm w l cells T fr n hc hn hm) (fun g hg => by have hg' : g = w.heap.size := hg; rw [World.size_alloc]; omega)
theorem two_rd (W : World) (x y : CV) (hx : x.ok W) (hy : y.ok W) : RdCs (W.alloc (.cells #[x.kv, .int .i64 x.c.kind, x.vv, .int .i64 x.c.page, .int .i64 x.c.count, y.kv, .int .i64 y.c.kind, y.vv, .int .i64 y.c.page, .int .i64 y.c.count] 50)) (.slice (some ⟨W.heap.size, 0, none⟩) 2 2) [x, y] := by
  have hb : Below W.heap.size W (W.alloc (.cells #[x.kv, .int .i64 x.c.kind, x.vv, .int .i64 x.c.page, .int .i64 x.c.count, y.kv, .int .i64 y.c.kind, y.vv, .int .i64 y.c.page, .int .i64 y.c.count] 50)) := (Below.refl _ _).alloc (Nat.le_refl _) _
  have ho := OBlk.new' W 50 [x.kv, .int .i64 x.c.kind, x.vv, .int .i64 x.c.page, .int .i64 x.c.count, y.kv, .int .i64 y.c.kind, y.vv, .int .i64 y.c.page, .int .i64 y.c.count]
  refine ⟨⟨rfl, _, 2, rfl, Nat.le_refl _, by decide, fun j u hj => ⟨_, rfl, ?_⟩⟩, fun z hz => ?_⟩
  · rw [add_row, Nat.zero_add, ho.cell]; exact hj
  · simp only [List.mem_cons, List.not_mem_nil, or_false] at hz
    rcases hz with rfl | rfl
    · exact hx.below hb
    · exact hy.below hb
theorem Sep.rdC7 {w0 w v : World} {L : List Ent} {x : Value} {l : List CV} (h : Sep w0 w L) (hm : oldE v ∈ L) (hr : RdCs v x l) : RdCs w x l :=
  ⟨hr.form.keep (h.old_cell hm), fun y hy => { hr.ok y hy with k := h.rd hm (hr.ok y hy).k, v := h.rd hm (hr.ok y hy).v }⟩
theorem PgK.lit {w0 w : World} {L : List Ent} {p P : Nat} {kind : Int} {s : KP} (h : PgK w0 w L p P kind s) (l : List UInt8) (cells : Array Value) (T : TypeId) (fr : Nat × Nat) (n : Nat) (hc : cells = (bvs l).toArray) (hn : l.length = n) (hm : n ≤ maxLen) : PgK w0 (w.alloc (.cells cells T fr)) (litE w.heap.size n l :: L) p P kind s := by
  obtain ⟨u, pv, lp, h1, h2, h3⟩ := h
  exact ⟨u, pv, lp, h1, h2, (h3.lit l cells T fr n hc hn hm).sw1⟩
theorem KEnc0 (W : World) (v : Value) (xs : List CV) (hx : pcs xs = [kA, kB]) (h : RdCs W v xs) : Calls Try.prog 16 #[.int .i64 2, v, .int .i64 512] W fun e w' => ∃ g, e = .returned (.tuple #[.slice (some ⟨g, 0, none⟩) 512 512, .int .i64 0]) ∧ W.heap.size ≤ g ∧ OBlk w' g 5 (bvs (laidK 2 [kA, kB] 512)) ∧ Below W.heap.size W w' := by
  have hl : xs.length = 2 := by rw [← pcs_length, hx]; rfl
  refine (KEncode_any 2 v xs 512 (by unfold i64r; omega) W h (by omega)).mono fun e w' hh => ?_
  rw [hx] at hh
  obtain ⟨hb, ⟨hf, _⟩ | ⟨_, ⟨hne, _⟩ | ⟨_, g, he, hg, ho⟩⟩⟩ := hh
  · exact absurd hf (by decide)
  · exact absurd kAB_enc hne
  · exact ⟨g, he, hg, ho, hb⟩
theorem KDec0 {w0 W : World} {L : List Ent} (hS : Sep w0 W L) (v : Value) (h : RdB W v (laidK 2 [kA, kB] 512)) : Calls Try.prog 21 #[v] W fun e w' => ∃ A c l, e = .returned (.tuple #[.int .i64 2, .slice A 2 c, .int .i64 0]) ∧ pcs l = [kA, kB] ∧ RngC l ∧ Sep w0 w' (csE (.slice A 2 c) l :: L) := by
  refine (KDecode_any v _ W h).mono fun e w' hh => ?_
  rcases hh with ⟨kind, l, u, hp, rfl, hr, hs⟩ | ⟨hn, -, -⟩
  · obtain ⟨rfl, hl⟩ := kAB_only hp
    have hl1 : l.length = 2 := by rw [← pcs_length, hl]; rfl
    have hO : Own w' 0 50 5 u l.length (flatC l) := hs.head.1 _ (List.mem_cons_self ..)
    obtain ⟨A, c, rfl⟩ := Own.slice hO
    have h1 := Sep.lift1 hs (List.mem_cons_self ..) hS
    rw [hl1] at h1 ⊢
    exact ⟨A, c, l, rfl, hl, hr, h1⟩
  · exact absurd kAB_pk (hn _ _)
theorem KOpen0 {w0 W : World} {L : List Ent} (hS : Sep w0 W L) (v : Value) (h : RdB W v (laidK 2 [kA, kB] 512)) : Calls Try.prog 25 #[v] W fun e w' => ∃ p, e = .returned (.tuple #[.pointer (some ⟨p, 0, none⟩), .int .i64 0]) ∧ PgK w0 w' L p 512 2 (tidyP 2 [kA, kB]) := by
  refine (KOpen_sep hS v _ h).mono fun e w' hh => ?_
  rcases hh with ⟨p, kind, l, hp, rfl, hP⟩ | ⟨hn, -, -⟩
  · obtain ⟨rfl, rfl⟩ := kAB_only hp
    rw [kAB_len] at hP
    exact ⟨p, rfl, hP⟩
  · exact absurd kAB_pk (hn _ _)
theorem KSize0 (W : World) (v : Value) (xs : List CV) (hx : pcs xs = [kA, kB]) (h : RdCs W v xs) : Calls Try.prog 13 #[.int .i64 2, v] W fun e w' => e = .returned (.int .i64 26) ∧ Below W.heap.size W w' := by
  have := KSize_any 2 v xs W h (by rw [hx]; decide)
  rw [hx, kAB_size] at this
  exact this
theorem KInv0 : KInv 2 512 (tidyP 2 [kA, kB]) := by
  have h := open_inv kAB_pk
  rw [kAB_len] at h
  exact h
theorem kC_in (M : List Ent) (g : Nat) (hm : litE g 1 [98] ∈ M) : XIn M ⟨.slice (some ⟨g, 0, none⟩) 1 1, .slice none 0 0, kC⟩ :=
  ⟨⟨_, hm, fun w h => h⟩, ⟨_, hm, fun w _ => RdB.nil⟩, by show i64r 1; unfold i64r; omega, by show i64r 0; unfold i64r; omega, by show i64r 0; unfold i64r; omega, by show 1 ≤ 140737488355328; omega, by show 0 ≤ 140737488355328; omega⟩
theorem KIns0 {w0 W : World} {L : List Ent} {p g : Nat} (hP : PgK w0 W L p 512 2 (tidyP 2 [kA, kB])) (hm : litE g 1 [98] ∈ L) : Calls Try.prog 33 #[.pointer (some ⟨p, 0, none⟩), .int .i64 2, .agg #[.slice (some ⟨g, 0, none⟩) 1 1, .int .i64 1, .slice none 0 0, .int .i64 0, .int .i64 0]] W fun e w' => e = .returned (.int .i64 0) ∧ PgK w0 w' L p 512 2 (insKS 2 512 (tidyP 2 [kA, kB]) 2 0 kC) := by
  have := KInsert_sep hP KInv0 (.inl rfl) (by omega) ⟨.slice (some ⟨g, 0, none⟩) 1 1, .slice none 0 0, kC⟩ (kC_in L g hm) 2 (by unfold i64r; omega)
  refine this.mono ?_
  rintro e w' ⟨rfl, h⟩
  refine ⟨?_, h⟩
  show Ending.returned (.int .i64 (insKZ 2 512 [kA, kB] 2 0 kC)) = _
  rw [kABC_put]
theorem KFind0 {w0 W : World} {L : List Ent} {p : Nat} (hP : PgK w0 W L p 512 2 (insKS 2 512 (tidyP 2 [kA, kB]) 2 0 kC)) (vk : Value) (hk : RdB W vk [97, 99]) :
    Calls Try.prog 41 #[.pointer (some ⟨p, 0, none⟩), vk] W fun e w' => e = .returned (.tuple #[.int .i64 1, .bool true]) ∧ Below W.heap.size W w' := by
  obtain ⟨u, pv, l, h1, h2, h3⟩ := hP
  rw [kABC_l] at h1
  have hr : Rising (pcs l) := by rw [h1, ← kABC_l]; exact (KInv0.ins 2 (by omega) kC).rise
  have := KFind_any (h3.kAt h2) hr (by rw [← pcs_length, h1]; decide) vk [97, 99] hk
  rw [h1, kABC_find.1, kABC_find.2] at this
  exact this
theorem KLen0 {w0 W : World} {L : List Ent} {p : Nat} (hP : PgK w0 W L p 512 2 (insKS 2 512 (tidyP 2 [kA, kB]) 2 0 kC)) :
    Calls Try.prog 29 #[.pointer (some ⟨p, 0, none⟩)] W fun e w' => e = .returned (.int .i64 3) ∧ W = w' := by
  obtain ⟨u, pv, l, h1, h2, h3⟩ := hP
  rw [kABC_l] at h1
  have := KLen_any (h3.kAt h2)
  rw [show l.length = 3 by rw [← pcs_length, h1]; rfl] at this
  exact this
set_option maxRecDepth 100000 in
set_option maxHeartbeats 8000000 in
theorem live_any (w : World) : Calls Try.prog 10 #[] w fun e w' => e = .returned (.bool true) ∧ Below w.heap.size w w' := by
  have kc := fun (w : World) (C : Array Value) (n c g : Nat) (hg : g = w.heap.size) => conv_id w C n c g hg
  go_enter Try.func10, Try.ntmps10
  go_upto_region 2 with (fail)
  have hS4 := ((((Sep.start w).lit [97, 98] #[.int .u8 97, .int .u8 98] 5 (2, 3) 2 rfl rfl (by decide)).lit [120] #[.int .u8 120] 5 (1, 2) 1 rfl rfl (by decide)).lit [97, 99] #[.int .u8 97, .int .u8 99] 5 (2, 3) 2 rfl rfl (by decide)).lit [121, 122] #[.int .u8 121, .int .u8 122] 5 (2, 3) 2 rfl rfl (by decide)
  have hz4 : ((((w.alloc (.cells #[.int .u8 97, .int .u8 98] 5 (2, 3))).alloc (.cells #[.int .u8 120] 5 (1, 2))).alloc (.cells #[.int .u8 97, .int .u8 99] 5 (2, 3))).alloc (.cells #[.int .u8 121, .int .u8 122] 5 (2, 3))).heap.size = w.heap.size + 1 + 1 + 1 + 1 := by simp
  simp only [World.size_alloc] at hS4
  rw [← hz4]
  generalize ((((w.alloc (.cells #[.int .u8 97, .int .u8 98] 5 (2, 3))).alloc (.cells #[.int .u8 120] 5 (1, 2))).alloc (.cells #[.int .u8 97, .int .u8 99] 5 (2, 3))).alloc (.cells #[.int .u8 121, .int .u8 122] 5 (2, 3))) = w4 at *
  have hxA : CV.ok w4 ⟨.slice (some ⟨w.heap.size, 0, none⟩) 2 2, .slice (some ⟨w.heap.size + 1, 0, none⟩) 1 1, kA⟩ := { k := hS4.of_mem (E := litE w.heap.size 2 [97, 98]) (by simp), v := hS4.of_mem (E := litE (w.heap.size + 1) 1 [120]) (by simp), r1 := show i64r 1 by unfold i64r; omega, r2 := show i64r 0 by unfold i64r; omega, r3 := show i64r 0 by unfold i64r; omega }
  have hxB : CV.ok w4 ⟨.slice (some ⟨w.heap.size + 1 + 1, 0, none⟩) 2 2, .slice (some ⟨w.heap.size + 1 + 1 + 1, 0, none⟩) 2 2, kB⟩ := { k := hS4.of_mem (E := litE (w.heap.size + 1 + 1) 2 [97, 99]) (by simp), v := hS4.of_mem (E := litE (w.heap.size + 1 + 1 + 1) 2 [121, 122]) (by simp), r1 := show i64r 1 by unfold i64r; omega, r2 := show i64r 0 by unfold i64r; omega, r3 := show i64r 0 by unfold i64r; omega }
  have hrd5 : RdCs (w4.alloc (.cells #[.slice (some ⟨w.heap.size, 0, none⟩) 2 2, .int .i64 1, .slice (some ⟨w.heap.size + 1, 0, none⟩) 1 1, .int .i64 0, .int .i64 0, .slice (some ⟨w.heap.size + 1 + 1, 0, none⟩) 2 2, .int .i64 1, .slice (some ⟨w.heap.size + 1 + 1 + 1, 0, none⟩) 2 2, .int .i64 0, .int .i64 0] 50)) (.slice (some ⟨w4.heap.size, 0, none⟩) 2 2) [⟨.slice (some ⟨w.heap.size, 0, none⟩) 2 2, .slice (some ⟨w.heap.size + 1, 0, none⟩) 1 1, kA⟩, ⟨.slice (some ⟨w.heap.size + 1 + 1, 0, none⟩) 2 2, .slice (some ⟨w.heap.size + 1 + 1 + 1, 0, none⟩) 2 2, kB⟩] := two_rd w4 _ _ hxA hxB
  have hA5 : Below w.heap.size w (w4.alloc (.cells #[.slice (some ⟨w.heap.size, 0, none⟩) 2 2, .int .i64 1, .slice (some ⟨w.heap.size + 1, 0, none⟩) 1 1, .int .i64 0, .int .i64 0, .slice (some ⟨w.heap.size + 1 + 1, 0, none⟩) 2 2, .int .i64 1, .slice (some ⟨w.heap.size + 1 + 1 + 1, 0, none⟩) 2 2, .int .i64 0, .int .i64 0] 50)) := (hS4.belowOld (v := w) (by simp)).alloc (by omega) _
  generalize w4.heap.size = lb at *
  generalize w4.alloc (.cells #[.slice (some ⟨w.heap.size, 0, none⟩) 2 2, .int .i64 1, .slice (some ⟨w.heap.size + 1, 0, none⟩) 1 1, .int .i64 0, .int .i64 0, .slice (some ⟨w.heap.size + 1 + 1, 0, none⟩) 2 2, .int .i64 1, .slice (some ⟨w.heap.size + 1 + 1 + 1, 0, none⟩) 2 2, .int .i64 0, .int .i64 0] 50) = w5 at *
  clear hS4 hxA hxB hz4
  generalize hXS : ([⟨.slice (some ⟨w.heap.size, 0, none⟩) 2 2, .slice (some ⟨w.heap.size + 1, 0, none⟩) 1 1, kA⟩, ⟨.slice (some ⟨w.heap.size + 1 + 1, 0, none⟩) 2 2, .slice (some ⟨w.heap.size + 1 + 1 + 1, 0, none⟩) 2 2, kB⟩] : List CV) = xs at *
  have hxp : pcs xs = [kA, kB] := by rw [← hXS]; rfl
  clear hXS
  have HXP := Lib.hid hxp
  have H9 := Lib.hid kAB_at.1
  have H10 := Lib.hid kAB_at.2
  have hsz := KSize0 w5 _ xs hxp hrd5
  clear hxp
  go_upto_region 3 with (first
    | (go_at_call 13; (with_reducible refine hsz.mono ?_); rintro e w6 ⟨rfl, hw6⟩)
    | fail)
  have hS6 := (Sep.start w5).below hw6
  have hen := KEnc0 w6 _ xs HXP.out (hS6.rdC7 (List.mem_cons_self ..) hrd5)
  clear hsz hw6
  go_upto_region 4 with (first
    | (go_at_call 16; (with_reducible refine hen.mono ?_); rintro e w7 ⟨g, rfl, hg, ho, hw7⟩)
    | fail)
  have hS7 := hS6.new hw7 (E := blkE g 5 (bvs (laidK 2 [kA, kB] 512))) ho (fun g' hg' => by have e : g' = g := hg'; subst e; exact ⟨hg, ho.lt⟩)
  have hdc := KDec0 hS7 (.slice (some ⟨g, 0, none⟩) 512 512) (ho.rdB kAB_len (by omega))
  clear hen hS6 hw7 ho hg
  go_upto_region 5 with (first
    | (go_at_call 21; (with_reducible refine hdc.mono ?_); rintro e w8 ⟨DA, dc, dl, rfl, hdp, hdr, hS8⟩)
    | fail)
  have ho8 : OBlk w8 g 5 (bvs (laidK 2 [kA, kB] 512)) := hS8.tail.head
  have hop := KOpen0 hS8 (.slice (some ⟨g, 0, none⟩) 512 512) (ho8.rdB kAB_len (by omega))
  have HDP := Lib.hid hdp
  clear hdc hS7 ho8 hS8 hdp
  go_upto_region 6 with (first
    | (go_at_call 25; (with_reducible refine hop.mono ?_); rintro e w9 ⟨p, rfl, hP9⟩)
    | fail)
  have hsa : Calls Try.prog 22 #[.slice (some ⟨lb, 0, none⟩) 2 2, .slice DA 2 dc] w9 fun e w' => e = .returned (.bool true) ∧ Below w9.heap.size w9 w' := by
    obtain ⟨u, pv, lp, h1, h2, h3⟩ := hP9
    have := RKSameAll_any (.slice (some ⟨lb, 0, none⟩) 2 2) (.slice DA 2 dc) xs dl w9 (h3.rdC7 (by simp) hrd5) (csE_rd (h3.tail.head) hdr)
    rw [HXP.out, HDP.out, sameAllB_iff.2 rfl] at this
    exact this
  clear hop
  go_upto_region 9 with (first
    | (go_at_call 22; (with_reducible refine hsa.mono ?_); rintro e w10 ⟨rfl, hw10⟩)
    | fail)
  have hP10 := hP9.below hw10
  clear hsa hP9 hw10
  have hP11 := hP10.lit [98] #[.int .u8 98] 5 (1, 2) 1 rfl rfl (by decide)
  have hin := KIns0 hP11 (List.mem_cons_self ..)
  go_upto_region 10 with (first
    | (go_at_call 33; (with_reducible refine hin.mono ?_); rintro e w12 ⟨rfl, hP12⟩)
    | fail)
  clear hin hP10 hP11
  have hP13 := hP12.lit [97, 99] #[.int .u8 97, .int .u8 99] 5 (2, 3) 2 rfl rfl (by decide)
  have hfi := KFind0 hP13 (.slice (some ⟨w12.heap.size, 0, none⟩) 2 2) (by obtain ⟨u, pv, lp, h1, h2, h3⟩ := hP13; exact h3.tail.head)
  go_upto_region 11 with (first
    | (go_at_call 41; (with_reducible refine hfi.mono ?_); rintro e w14 ⟨rfl, hw14⟩)
    | fail)
  have hP14 := hP13.below hw14
  clear hfi hP12 hP13 hw14
  have hln := KLen0 hP14
  have hbk : OBlk w14 g 5 (bvs (laidK 2 [kA, kB] 512)) := by obtain ⟨u, pv, lp, h1, h2, h3⟩ := hP14; exact h3.of_mem (E := blkE g _ _) (by simp)
  have hB14 : Below w.heap.size w w14 := by obtain ⟨u, pv, lp, h1, h2, h3⟩ := hP14; exact hA5.trans ((h3.belowOld (v := w5) (by simp)).mono hA5.size)
  have d9 : w14.cell? ⟨g, 9, none⟩ = some (.int .u8 0) := by rw [hbk.cell]; unfold bvs; rw [List.getElem?_map, H9.out]; rfl
  have d10 : w14.cell? ⟨g, 10, none⟩ = some (.int .u8 16) := by rw [hbk.cell]; unfold bvs; rw [List.getElem?_map, H10.out]; rfl
  clear hP14 hbk
  go_wp2_with (first
    | (go_at_call 29; (with_reducible refine hln.mono ?_); rintro e w15 ⟨rfl, rfl⟩)
    | fail)
  go_ret
  exact ⟨rfl, hB14⟩
end Go.Proofs.Ytaniabhajngdeaa
