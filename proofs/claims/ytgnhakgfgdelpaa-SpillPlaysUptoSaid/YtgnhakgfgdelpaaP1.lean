/- Texts joined: Words for memory, over any program; Slices of bytes; append, told more -/
import Derived.WalkKit
import Derived.WalkSpells
import Derived.Maps.AppendAt
import Derived.Deep.AppendLies
import Derived.Deep.Draws
import Derived.Laws.CopyOwn
import Derived.Deep.AppendSrc
import Derived.Lib.Hide
import Derived.Test.YtgnhakgfgdelpaaProg
import Derived.KernelRfl
-- Words for memory, over any program: a block that may be written; a slice that the call owns; a slice that reads as a list; append and copy over these.
namespace Go.Proofs.Ytgnhakgfgdelpaa
open Go.RowKit

theorem block_of_add (a : Addr) (n : Nat) : (a.add n).block = a.block := by unfold Addr.add; split <;> rfl
theorem add_of_add (a : Addr) (i j : Nat) : (a.add i).add j = a.add (i + j) := by
  unfold Addr.add
  by_cases hi : i = 0 <;> by_cases hj : j = 0 <;> simp [hi, hj, Nat.add_assoc]
theorem add_row (g o j : Nat) : (⟨g, o, none⟩ : Addr).add j = ⟨g, o + j, none⟩ := by
  unfold Addr.add; split <;> simp_all

theorem flat_snoc {α : Type} (ls : List (List α)) (k : Nat) (h : k < ls.length) : (ls.take (k + 1)).flatten = (ls.take k).flatten ++ ls[k] := by
  rw [List.take_succ_eq_append_getElem h, List.flatten_append]
  simp only [List.flatten_cons, List.flatten_nil, List.append_nil]
section splice
variable {α : Type}
theorem splice_set (cs : List α) (o : Nat) (v : α) (r : List α) (h : o < cs.length) : splice (cs.set o v) (o + 1) r = splice cs o (v :: r) := by
  unfold splice
  apply List.ext_getElem?
  intro i
  simp only [List.getElem?_append, List.length_take, List.length_set, List.getElem?_take, List.getElem?_drop, List.getElem?_set, List.length_cons]
  by_cases h1 : i < o
  · have : ¬ (o = i) := by omega
    simp [h1, show i < o + 1 by omega, this, show i < min o cs.length by omega, show i < min (o + 1) cs.length by omega]
  · by_cases h2 : i = o
    · subst h2
      simp [h, show i < min (i + 1) cs.length by omega, show min i cs.length = i by omega]
    · have e1 : min (o + 1) cs.length = o + 1 := by omega
      have e2 : min o cs.length = o := by omega
      simp only [e1, e2, show ¬ (i < o + 1) by omega, show ¬ (i < o) by omega, if_false]
      have e3 : i - o = (i - (o + 1)) + 1 := by omega
      rw [e3, List.getElem?_cons_succ]
      simp only [Nat.add_lt_add_iff_right, Nat.add_sub_add_right]
      by_cases h3 : i - (o + 1) < r.length
      · simp [h3]
      · simp only [h3, if_false]
        rw [if_neg (by omega)]
        congr 1; omega
theorem splice_nil (cs : List α) (o : Nat) : splice cs o [] = cs := by simp [splice]
theorem splice_end (cs : List α) (o : Nat) (r : List α) (h : o ≤ cs.length) (k : Nat) (hk : k ≤ o) : (splice cs o r).take k = cs.take k := by
  unfold splice
  rw [List.take_append_of_le_length (by simp; omega), List.take_take]
  congr 1; omega
theorem splice_take (cs : List α) (o : Nat) (r : List α) (h : o ≤ cs.length) : (splice cs o r).take (o + r.length) = cs.take o ++ r := by
  unfold splice
  rw [← List.append_assoc]
  have e : o + r.length = (cs.take o ++ r).length := by simp; omega
  rw [e]; exact List.take_left
end splice

/-- Block g is just the cells cs, of type T; each of them may be written. -/
def OBlk (w : World) (g : Nat) (T : TypeId) (cs : List Value) : Prop :=
  ∃ fr : Nat × Nat, w.heap[g]? = some (.cells cs.toArray T fr) ∧ ∀ j, j < cs.length → ¬ (fr.1 ≤ j ∧ j < fr.2)

section OBlk
variable {w w' : World} {g : Nat} {T : TypeId} {cs : List Value}
theorem OBlk.lt (h : OBlk w g T cs) : g < w.heap.size := by
  obtain ⟨fr, h, _⟩ := h
  exact (Array.getElem?_eq_some_iff.1 h).1
theorem OBlk.cell (h : OBlk w g T cs) (j : Nat) : w.cell? ⟨g, j, none⟩ = cs[j]? := by
  obtain ⟨fr, h, _⟩ := h
  simp [World.cell?, h]
theorem OBlk.cell' (h : OBlk w g T cs) {j : Nat} {u : Value} (hj : cs[j]? = some u) : w.cell? ⟨g, j, none⟩ = some u := (h.cell j).trans hj
theorem OBlk.frozen (h : OBlk w g T cs) {j : Nat} (hj : j < cs.length) : w.frozen? ⟨g, j, none⟩ = false := by
  obtain ⟨fr, h, hf⟩ := h
  have := hf j hj
  simp only [World.frozen?, h]
  obtain ⟨lo, hi⟩ := fr
  simp at this ⊢
  exact this
theorem OBlk.new (w : World) (T : TypeId) (cs : Array Value) : OBlk (w.alloc (.cells cs T)) w.heap.size T cs.toList :=
  ⟨(0, 0), by simpa using heap_alloc_new w (.cells cs T), fun j _ => by simp⟩
theorem OBlk.new' (w : World) (T : TypeId) (cs : List Value) : OBlk (w.alloc (.cells cs.toArray T)) w.heap.size T cs :=
  ⟨(0, 0), heap_alloc_new w _, fun j _ => by simp⟩
theorem OBlk.of_heap (h : w'.heap[g]? = w.heap[g]?) (k : OBlk w g T cs) : OBlk w' g T cs := by
  obtain ⟨fr, h1, h2⟩ := k
  exact ⟨fr, h.trans h1, h2⟩
theorem OBlk.alloc (h : OBlk w g T cs) (o : Obj) : OBlk (w.alloc o) g T cs := h.of_heap (Below.heap_alloc w o g h.lt)
theorem OBlk.drew (h : OBlk w g T cs) : OBlk w.drew g T cs := h
theorem OBlk.drewN (h : OBlk w g T cs) (n : Nat) : OBlk (w.drewN n) g T cs := h
theorem OBlk.far (h : OBlk w g T cs) {p : Addr} (hp : g ≠ p.block) (u : Value) : OBlk (w.setCell p u) g T cs := h.of_heap (Below.heap_setCell w p u g hp)
theorem OBlk.below {B : Nat} (h : OBlk w g T cs) (hb : Below B w w') (hg : g < B) : OBlk w' g T cs := h.of_heap (hb.block g hg)
theorem OBlk.grown {row : Option Nat} (h : OBlk w g T cs) (hb : w.grownBy w' row) (hg : some g ≠ row) : OBlk w' g T cs := h.of_heap (hb.block g h.lt hg)
theorem OBlk.set (h : OBlk w g T cs) (j : Nat) (u : Value) : OBlk (w.setCell ⟨g, j, none⟩ u) g T (cs.set j u) := by
  obtain ⟨fr, h1, h2⟩ := h
  refine ⟨fr, ?_, fun k hk => h2 k (by simpa using hk)⟩
  simp [World.setCell, Array.getElem?_modify, h1, List.setIfInBounds_toArray]
theorem OBlk.ne {g' : Nat} {T' : TypeId} {cs' : List Value} (h : OBlk w g T cs) (h' : OBlk w g' T' cs') (hne : T ≠ T') : g ≠ g' := by
  rintro rfl
  obtain ⟨fr, h1, _⟩ := h
  obtain ⟨fr', h1', _⟩ := h'
  rw [h1] at h1'
  injection h1' with h1'
  injection h1' with _ ht
  exact hne ht
theorem OBlk.same {T' : TypeId} {cs' : List Value} (h : OBlk w g T cs) (h' : OBlk w g T' cs') : T = T' ∧ cs = cs' := by
  obtain ⟨fr, h1, _⟩ := h
  obtain ⟨fr', h1', _⟩ := h'
  rw [h1] at h1'
  injection h1' with h1'
  injection h1' with hc ht
  exact ⟨ht, by simpa using hc⟩
theorem OBlk.setCells : ∀ (vs : List Value) (o : Nat) (w : World) (cs : List Value), OBlk w g T cs → o + vs.length ≤ cs.length → OBlk (w.setCells g o vs) g T (splice cs o vs)
  | [], o, w, cs, h, _ => by rw [splice_nil]; exact h
  | v :: r, o, w, cs, h, hl => by
    simp only [List.length_cons] at hl
    have := OBlk.setCells r (o + 1) (w.setCell ⟨g, o, none⟩ v) (cs.set o v) (h.set o v) (by simp; omega)
    rw [splice_set cs o v r (by omega)] at this
    exact this
end OBlk
theorem grownBy_setCell (w : World) (p : Addr) (u : Value) : w.grownBy (w.setCell p u) (some p.block) :=
  ⟨rfl, rfl, rfl, by simp, fun k _ hne => Below.heap_setCell w p u k (fun e => hne (by rw [e]))⟩
theorem grownBy_trans {a b c : World} {row : Option Nat} (h : a.grownBy b row) (k : b.grownBy c row) : a.grownBy c row :=
  ⟨k.os.trans h.os, k.tape.trans h.tape, k.output.trans h.output, Nat.le_trans h.size k.size, fun i hi hne => (k.block i (Nat.lt_of_lt_of_le hi h.size) hne).trans (h.block i hi hne)⟩
theorem grownBy_setCells : ∀ (vs : List Value) (o : Nat) (w : World) (g : Nat), w.grownBy (w.setCells g o vs) (some g)
  | [], _, w, _ => World.grownBy.refl w _
  | v :: r, o, w, g => grownBy_trans (grownBy_setCell w ⟨g, o, none⟩ v) (grownBy_setCells r (o + 1) _ g)

/-- The slice value v reads as n elements, the cells xs. -/
def Rd (w : World) (size : Nat) (v : Value) (n : Nat) (xs : List Value) : Prop :=
  xs.length = n * size ∧ ∃ A c, v = .slice A n c ∧ n ≤ c ∧ c ≤ maxLen ∧ ∀ j u, xs[j]? = some u → ∃ ad, A = some ad ∧ w.cell? (ad.add j) = some u
section Rd
variable {w w' : World} {v : Value} {xs : List Value} {size n : Nat}
theorem Rd.keep (h : Rd w size v n xs) (hk : ∀ p : Addr, p.block < w.heap.size → w'.cell? p = w.cell? p) : Rd w' size v n xs := by
  obtain ⟨h0, A, c, rfl, h1, h2, h3⟩ := h
  refine ⟨h0, A, c, rfl, h1, h2, fun j u hj => ?_⟩
  obtain ⟨ad, ha, hc⟩ := h3 j u hj
  exact ⟨ad, ha, (hk _ (World.block_lt_of_cell? w _ hc)).trans hc⟩
theorem Rd.below (h : Rd w size v n xs) {B : Nat} (hb : Below B w w') (hB : w.heap.size ≤ B) : Rd w' size v n xs := h.keep fun _ hp => hb.cell (by omega)
theorem Rd.alloc (h : Rd w size v n xs) (o : Obj) : Rd (w.alloc o) size v n xs := h.keep fun p hp => World.cell?_alloc_lt w o p hp
theorem Rd.nil : Rd w size (.slice none 0 0) 0 [] := ⟨by simp, none, 0, rfl, by simp, by simp, fun j u h => by simp at h⟩
theorem Rd.one (w : World) (x : Value) (T : TypeId) : Rd (w.alloc (.cells #[x] T)) 1 (.slice (some ⟨w.heap.size, 0, none⟩) 1 1) 1 [x] :=
  ⟨by simp, _, _, rfl, Nat.le_refl _, by simp [maxLen], fun j u hj => ⟨_, rfl, by rw [add_row, (OBlk.new w T #[x]).cell]; simpa using hj⟩⟩
theorem Rd.lit (w : World) (xs : List Value) (T : TypeId) (hm : xs.length ≤ maxLen) : Rd (w.alloc (.cells xs.toArray T)) 1 (.slice (some ⟨w.heap.size, 0, none⟩) xs.length xs.length) xs.length xs :=
  ⟨by simp, _, _, rfl, Nat.le_refl _, hm, fun j u hj => ⟨_, rfl, by rw [add_row, (OBlk.new' w T xs).cell]; simpa using hj⟩⟩
end Rd

/-- The slice value v is the call's own, in a block from base on: n elements of type T, the cells xs. -/
def Own (w : World) (base : Nat) (T : TypeId) (size : Nat) (v : Value) (n : Nat) (xs : List Value) : Prop :=
  xs.length = n * size ∧ ((v = .slice none 0 0 ∧ n = 0) ∨
    ∃ g cap cs, v = .slice (some ⟨g, 0, none⟩) n cap ∧ base ≤ g ∧ OBlk w g T cs ∧ n ≤ cap ∧ cap ≤ maxLen ∧ cs.length = cap * size ∧ cs.take (n * size) = xs)
section Own
variable {w w' : World} {base : Nat} {T : TypeId} {size n : Nat} {v : Value} {xs : List Value}
theorem Own.nil (w : World) (base : Nat) (T : TypeId) (size : Nat) : Own w base T size (.slice none 0 0) 0 [] := ⟨by simp, .inl ⟨rfl, rfl⟩⟩
theorem Own.lt (h : Own w base T size v n xs) : ∀ k, v.ownBlock = some k → base ≤ k ∧ k < w.heap.size := by
  intro k hk
  rcases h.2 with ⟨rfl, _⟩ | ⟨g, cap, cs, rfl, hb, hg, _⟩
  · simp [Value.ownBlock] at hk
  · simp [Value.ownBlock] at hk
    subst hk
    exact ⟨hb, hg.lt⟩
theorem Own.heap (h : Own w base T size v n xs) (hk : ∀ g, v.ownBlock = some g → w'.heap[g]? = w.heap[g]?) : Own w' base T size v n xs := by
  refine ⟨h.1, ?_⟩
  rcases h.2 with h | ⟨g, cap, cs, rfl, hb, hg, r⟩
  · exact .inl h
  · exact .inr ⟨g, cap, cs, rfl, hb, hg.of_heap (hk g rfl), r⟩
theorem Own.grown {row : Option Nat} (h : Own w base T size v n xs) (hg : w.grownBy w' row) (hne : ∀ g, v.ownBlock = some g → some g ≠ row) : Own w' base T size v n xs :=
  h.heap fun g hk => hg.block g (h.lt g hk).2 (hne g hk)
theorem Own.below {B : Nat} (h : Own w base T size v n xs) (hb : Below B w w') (hB : ∀ g, v.ownBlock = some g → g < B) : Own w' base T size v n xs :=
  h.heap fun g hk => hb.block g (hB g hk)
theorem Own.below' {B : Nat} (h : Own w base T size v n xs) (hb : Below B w w') (hB : w.heap.size ≤ B) : Own w' base T size v n xs :=
  h.below hb fun g hg => by have := (h.lt g hg).2; omega
theorem Own.alloc (h : Own w base T size v n xs) (o : Obj) : Own (w.alloc o) base T size v n xs := h.heap fun g hk => Below.heap_alloc w o g (h.lt g hk).2
theorem Own.drew (h : Own w base T size v n xs) : Own w.drew base T size v n xs := h
theorem Own.far (h : Own w base T size v n xs) {p : Addr} (hp : v.ownBlock ≠ some p.block) (u : Value) : Own (w.setCell p u) base T size v n xs :=
  h.heap fun g hk => Below.heap_setCell w p u g (fun e => hp (by rw [hk, e]))
theorem Own.base_le (h : Own w base T size v n xs) {b : Nat} (hb : ∀ g, v.ownBlock = some g → b ≤ g) : Own w b T size v n xs := by
  refine ⟨h.1, ?_⟩
  rcases h.2 with h | ⟨g, cap, cs, rfl, _, r⟩
  · exact .inl h
  · exact .inr ⟨g, cap, cs, rfl, hb g rfl, r⟩
theorem Own.low (h : Own w base T size v n xs) {b : Nat} (hb : b ≤ base) : Own w b T size v n xs := h.base_le fun g hg => Nat.le_trans hb (h.lt g hg).1
theorem Own.rd (h : Own w base T size v n xs) : Rd w size v n xs := by
  refine ⟨h.1, ?_⟩
  rcases h.2 with ⟨rfl, rfl⟩ | ⟨g, cap, cs, rfl, hb, hg, h1, h2, h3, h4⟩
  · refine ⟨none, 0, rfl, by simp, by simp, fun j u hj => ?_⟩
    have : xs = [] := List.eq_nil_of_length_eq_zero (by simpa using h.1)
    subst this; simp at hj
  · refine ⟨_, cap, rfl, h1, h2, fun j u hj => ⟨_, rfl, ?_⟩⟩
    rw [add_row, hg.cell]
    rw [← h4, List.getElem?_take] at hj
    split at hj
    · simpa using hj
    · cases hj
theorem Own.cells {g cap : Nat} (h : Own w base T size (.slice (some ⟨g, 0, none⟩) n cap) n xs) (j : Nat) (u : Value) (hj : xs[j]? = some u) : w.cell? ⟨g, j, none⟩ = some u := by
  obtain ⟨_, A, c, hv, _, _, h3⟩ := h.rd
  obtain ⟨ad, ha, hc⟩ := h3 j u hj
  injection hv with hA
  subst hA
  injection ha with ha
  subst ha
  rw [add_row] at hc
  simpa using hc
theorem Own.frozen {g cap : Nat} (h : Own w base T size (.slice (some ⟨g, 0, none⟩) n cap) n xs) {j : Nat} (hj : j < xs.length) : w.frozen? ⟨g, j, none⟩ = false := by
  rcases h.2 with ⟨h, _⟩ | ⟨g', cap', cs, hv, hb, hg, h1, h2, h3, h4⟩
  · cases h
  · injection hv with hA _ hc
    injection hA with hA
    injection hA with hA
    subst hA
    refine hg.frozen ?_
    rw [← h4] at hj
    simp at hj
    omega
theorem Own.set {g cap : Nat} (h : Own w base T size (.slice (some ⟨g, 0, none⟩) n cap) n xs) (j : Nat) (u : Value) : Own (w.setCell ⟨g, j, none⟩ u) base T size (.slice (some ⟨g, 0, none⟩) n cap) n (xs.set j u) := by
  refine ⟨by simpa using h.1, ?_⟩
  rcases h.2 with ⟨h, _⟩ | ⟨g', cap', cs, hv, hb, hg, h1, h2, h3, h4⟩
  · cases h
  · injection hv with hA _ hc
    injection hA with hA
    injection hA with hA
    subst hA
    subst hc
    refine .inr ⟨g, cap, cs.set j u, rfl, hb, hg.set j u, h1, h2, by simpa using h3, ?_⟩
    rw [List.take_set, h4]
theorem Own.form (h : Own w base T size v n xs) : (v = .slice none 0 0 ∧ n = 0) ∨ ∃ g cap, v = .slice (some ⟨g, 0, none⟩) n cap ∧ base ≤ g ∧ g < w.heap.size ∧ n ≤ cap ∧ cap ≤ maxLen := by
  rcases h.2 with h | ⟨g, cap, cs, rfl, hb, hg, h1, h2, h3, h4⟩
  · exact .inl h
  · exact .inr ⟨g, cap, rfl, hb, hg.lt, h1, h2⟩
theorem Own.slice (h : Own w base T size v n xs) : ∃ A cap, v = .slice A n cap := by
  rcases h.form with ⟨rfl, rfl⟩ | ⟨g, cap, rfl, _⟩
  · exact ⟨_, _, rfl⟩
  · exact ⟨_, _, rfl⟩
/-- A new block, filled up to n elements. -/
theorem Own.made (w : World) (T : TypeId) (size : Nat) (n cap : Nat) (cs : List Value) (hb : base ≤ w.heap.size) (h1 : n ≤ cap) (h2 : cap ≤ maxLen) (h3 : cs.length = cap * size) :
    Own (w.alloc (.cells cs.toArray T)) base T size (.slice (some ⟨w.heap.size, 0, none⟩) n cap) n (cs.take (n * size)) := by
  refine ⟨?_, .inr ⟨w.heap.size, cap, cs, rfl, hb, OBlk.new' w T cs, h1, h2, h3, rfl⟩⟩
  have : n * size ≤ cap * size := Nat.mul_le_mul_right _ h1
  simp; omega
end Own
theorem Below.mk' {w w' : World} {B : Nat} {row : Option Nat} (hg : w.grownBy w' row) (hB : B ≤ w.heap.size) (hr : ∀ k, row = some k → B ≤ k) : Below B w w' := (Below.refl _ _).grown hg hB hr

section append
variable {P : Program} (w : World)
theorem Rd.src {t T : TypeId} (ht : P.underlying t = some (.slice T)) {size : Nat} (hsz : 0 < size) {vx : Value} {m : Nat} {news : List Value} (hr : Rd w size vx m news) (h1 : ∀ u ∈ news, u.oneCell' = true) : Src P size t vx m news w := by
  obtain ⟨hl, A, c, rfl, hc1, hc2, hcells⟩ := hr
  by_cases hm0 : m = 0
  · subst hm0
    have hn : news = [] := List.eq_nil_of_length_eq_zero (by simpa using hl)
    subst hn
    cases A with
    | none => exact Src.ofNil w ht c
    | some ad => exact Src.ofSlice w ht ad 0 c [] (by simp) (by simp) h1
  · have hn0 : 0 < news.length := by rw [hl]; exact Nat.mul_pos (by omega) hsz
    obtain ⟨a, rfl, _⟩ := hcells 0 _ (List.getElem?_eq_getElem hn0)
    refine Src.ofSlice w ht a m c news hl (fun j u hj => ?_) h1
    obtain ⟨a', he, h⟩ := hcells j u hj
    injection he with he
    subst he; exact h
theorem run_append_Own (base : Nat) (t tx ty T : TypeId) (i : TypeInfo) (z : Value) (size bytes : Nat) (ht : P.underlying t = some (.slice T)) (hi : P.info? T = some i) (hz : i.zero = some z)
    (hsize : i.size = size) (hby : i.bytes = bytes) (hzs : z.cells.size = size)
    (v : Value) (n : Nat) (xs : List Value) (hown : Own w base T size v n xs)
    (vx : Value) (m : Nat) (news : List Value) (hs : Src P size tx vx m news w)
    (hbytes : (n + m) * bytes ≤ 140737488355328) (hsm : n + m ≤ 140737488355328) (hbase : base ≤ w.heap.size) :
    ∃ v' w', (Builtin.append_ #[t, tx] ty #[v, vx]).run P w = .ok v' w' ∧ Own w' base T size v' (n + m) (xs ++ news) ∧ w.grownBy w' v.ownBlock ∧
      (v'.ownBlock = v.ownBlock ∨ v'.ownBlock = some w.heap.size) := by
  subst hsize
  subst hby
  have h63 : n + m ≤ maxLen := by simp only [maxLen]; omega
  have hl := hs.newsLen
  have hlen : (xs ++ news).length = (n + m) * i.size := by rw [List.length_append, hown.1, hl, Nat.add_mul]
  have grown : ∀ (old : Nat), old < n + m → ∀ (row : Option Nat),
      Own (w.drew.alloc (.cells ((xs ++ news).toArray ++ Builtin.zeroCells z.cells (grownCap w (n + m) old T - (n + m))) T)) base T i.size
        (.slice (some ⟨w.heap.size, 0, none⟩) (n + m) (grownCap w (n + m) old T)) (n + m) (xs ++ news) ∧
      w.grownBy (w.drew.alloc (.cells ((xs ++ news).toArray ++ Builtin.zeroCells z.cells (grownCap w (n + m) old T - (n + m))) T)) row := by
    intro old ho row
    have hge := grownCap_ge w (n + m) old T
    have hcm : grownCap w (n + m) old T ≤ maxLen := grownCap_le_maxLen w (n + m) old T h63
    refine ⟨⟨hlen, .inr ⟨w.heap.size, _, _, rfl, hbase, OBlk.new w.drew T _, hge, hcm, ?_, ?_⟩⟩, ⟨rfl, rfl, rfl, by simp, fun k hk _ => heap_alloc_old w.drew _ hk⟩⟩
    · have hs : (Builtin.zeroCells z.cells (grownCap w (n + m) old T - (n + m))).toList.length = (grownCap w (n + m) old T - (n + m)) * i.size := by
        rw [Array.length_toList, size_zeroCells, hzs]
      rw [Array.toList_append, List.length_append, hs]
      simp only [hlen, ← Nat.add_mul]
      congr 1
      omega
    · simp only [Array.toList_append]
      rw [← hlen]
      exact List.take_left
  rcases hown.2 with ⟨rfl, rfl⟩ | ⟨g, cap, cs, rfl, hbg, hg, hnc, hcm, hcs, htake⟩
  · have hx : xs = [] := List.eq_nil_of_length_eq_zero (by simpa using hown.1)
    subst hx
    by_cases hm0 : m = 0
    · subst hm0
      have hn : news = [] := List.eq_nil_of_length_eq_zero (by simpa using hl)
      subst hn
      refine ⟨.slice none 0 0, w, ?_, by simpa using hown, World.grownBy.refl w _, .inl rfl⟩
      rcases hs.kind with ⟨e', hk⟩ | hk <;> simp [Builtin.append_, run_underlying ht, run_underlying hk, sizeOf, typeInfo, hi, hs.len, hs.cells]
    · have hr := run_append_grow_src (P := P) w t tx ty T i z ht hi hz none 0 0 [] (by simp [Builtin.firstCells]) vx m news hs (by omega) (by omega) (by have hb := hbytes; exact growslice_fits (by omega) hb)
      have hgr := grown 0 (by omega) (Value.ownBlock (.slice none 0 0))
      exact ⟨_, _, hr, hgr.1, hgr.2, Or.inr rfl⟩
  · by_cases hroom : n + m ≤ cap
    · have hle : n * i.size + news.length ≤ cs.length := by rw [hl, hcs, ← Nat.add_mul]; exact Nat.mul_le_mul_right _ hroom
      have hr := run_append_room_src (P := P) w t tx ty T i ht hi g 0 n cap vx m news hs hroom (fun j hj => by rw [hg.cell]; simp; omega) (fun j hj => hg.frozen (by omega))
      rw [Nat.zero_add] at hr
      refine ⟨_, _, hr, ⟨hlen, .inr ⟨g, cap, _, rfl, hbg, OBlk.setCells news _ w cs hg hle, hroom, hcm, ?_, ?_⟩⟩, grownBy_setCells _ _ _ _, .inl rfl⟩
      · rw [length_splice _ _ _ hle, hcs]
      · rw [Nat.add_mul, ← hl, splice_take _ _ _ (by omega), htake]
    · have holds : (Builtin.firstCells i.size n (.slice (some ⟨g, 0, none⟩) n cap)).run P w.drew = .ok xs.toArray w.drew :=
        run_firstCells_some w.drew i.size n ⟨g, 0, none⟩ n cap xs hown.1 (fun j u hj => by rw [add_row]; simpa using hown.cells j u hj)
      have hr := run_append_grow_src (P := P) w t tx ty T i z ht hi hz (some ⟨g, 0, none⟩) n cap xs holds vx m news hs (by omega) (by omega) (growslice_fits (by omega) hbytes)
      have hgr := grown cap (by omega) (Value.ownBlock (.slice (some ⟨g, 0, none⟩) n cap))
      exact ⟨_, _, hr, hgr.1, hgr.2, Or.inr rfl⟩
end append

section laws
variable {P : Program} {w : World} {ops : Array Oper} {rest : List Oper} {o : Oper} {a : Act} {Q : Exit → Act → World → Prop}
/-- append onto a slice of the call's own, whatever the source. -/
theorem wp_append (hgd : o.guard = none) (s x : Operand) (t tx : TypeId)
    (ho : o.op = .call { callee := .builtin .append, args := #[s, x], argTypes := #[t, tx] })
    (base : Nat) (T : TypeId) (i : TypeInfo) (z : Value) (size bytes : Nat) (ht : P.underlying t = some (.slice T)) (hi : P.info? T = some i) (hz : i.zero = some z)
    (hsize : i.size = size) (hby : i.bytes = bytes) (hzs : z.cells.size = size)
    (v : Value) (n : Nat) (xs : List Value) (hs : a.eval s = v) (hown : Own w base T size v n xs)
    (vx : Value) (m : Nat) (news : List Value) (hx : a.eval x = vx) (hr : Src P size tx vx m news w)
    (hbytes : (n + m) * bytes ≤ 140737488355328) (hsm : n + m ≤ 140737488355328) (hbase : base ≤ w.heap.size)
    (h : ∀ v' w', Own w' base T size v' (n + m) (xs ++ news) → w.grownBy w' v.ownBlock → (v'.ownBlock = v.ownBlock ∨ v'.ownBlock = some w.heap.size) → wpList P ops Q rest (a.put o.dst v') w') :
    wpList P ops Q (o :: rest) a w := by
  refine wpList_plain hgd fun K hK => ?_
  obtain ⟨v', w', hr, h2, h3, h4⟩ := run_append_Own (P := P) w base t tx o.type T i z size bytes ht hi hz hsize hby hzs v n xs hown vx m news hr hbytes hsm hbase
  unfold Oper.wp execOp
  simp only [ho, resolve, invoke, builtin, Sem.run_bind, Sem.run_pure, Result.andThen_ok, List.map_toArray, List.map_cons, List.map_nil, hs, hx, hr]
  exact hK _ _ (h v' w' h2 h3 h4)
theorem step_append {K : Act → World → Prop} {E : Prop} (hgd : o.guard = none) (s x : Operand) (t tx : TypeId)
    (ho : o.op = .call { callee := .builtin .append, args := #[s, x], argTypes := #[t, tx] })
    (base : Nat) (T : TypeId) (i : TypeInfo) (z : Value) (size bytes : Nat) (ht : P.underlying t = some (.slice T)) (hi : P.info? T = some i) (hz : i.zero = some z)
    (hsize : i.size = size) (hby : i.bytes = bytes) (hzs : z.cells.size = size)
    (v : Value) (n : Nat) (xs : List Value) (hs : a.eval s = v) (hown : Own w base T size v n xs)
    (vx : Value) (m : Nat) (news : List Value) (hx : a.eval x = vx) (hr : Src P size tx vx m news w)
    (hbytes : (n + m) * bytes ≤ 140737488355328) (hsm : n + m ≤ 140737488355328) (hbase : base ≤ w.heap.size)
    (h : ∀ v' w', Own w' base T size v' (n + m) (xs ++ news) → w.grownBy w' v.ownBlock → (v'.ownBlock = v.ownBlock ∨ v'.ownBlock = some w.heap.size) → K (a.put o.dst v') w') :
    if Region.wanted o (yielded ops a.tmps) = true then Oper.wp P o a w K Q else E := by
  have hw : Region.wanted o (yielded ops a.tmps) = true := by simp [Region.wanted, hgd]
  rw [if_pos hw]
  obtain ⟨v', w', hr, h2, h3, h4⟩ := run_append_Own (P := P) w base t tx o.type T i z size bytes ht hi hz hsize hby hzs v n xs hown vx m news hr hbytes hsm hbase
  unfold Oper.wp execOp
  simp only [ho, resolve, invoke, builtin, Sem.run_bind, Sem.run_pure, Result.andThen_ok, List.map_toArray, List.map_cons, List.map_nil, hs, hx, hr]
  exact h v' w' h2 h3 h4

/-- copy into a writable block, at a place, of one-cell elements. -/
theorem run_copy_OBlk (w : World) (dT sT ty T : TypeId) (hu : P.underlying dT = some (.slice T)) (hsz : (P.info? T).map (·.size) = some 1)
    (dA : Option Addr) (dLen dCap g off : Nat) (cs : List Value) (T' : TypeId) (hg : OBlk w g T' cs) (hd : 0 < dLen → dA = some ⟨g, off, none⟩) (hfit : off + dLen ≤ cs.length)
    (vx : Value) (m : Nat) (news : List Value) (hr : Rd w 1 vx m news) (h1 : ∀ u ∈ news, u.oneCell' = true) :
    (Builtin.copy_ #[dT, sT] ty #[.slice dA dLen dCap, vx]).run P w = .ok (goInt (min m dLen : Nat)) (w.setCells g off (news.take (min m dLen))) := by
  obtain ⟨hl, A, c, rfl, hc1, hc2, hcells⟩ := hr
  have hl' : news.length = m := by simpa using hl
  by_cases h0 : min m dLen = 0
  · rw [h0]
    have := run_copy_none (P := P) w dT sT ty T dA A dLen dCap m c hu hsz (by simpa [Nat.min_def] using h0)
    rw [this]
    rfl
  · obtain rfl := hd (by omega)
    obtain ⟨a, rfl, _⟩ := hcells 0 _ (List.getElem?_eq_getElem (by omega))
    have hnews : ∀ j u, (news.take (min m dLen))[j]? = some u → w.cell? (a.add j) = some u := fun j u hj => by
      rw [List.getElem?_take] at hj
      split at hj
      · obtain ⟨a', he, h⟩ := hcells j u hj
        injection he with he
        subst he; exact h
      · cases hj
    have hlen : (news.take (min m dLen)).length = min m dLen := by simp; omega
    obtain ⟨i, hi, hs1⟩ := Option.map_eq_some_iff.1 hsz
    have hf := run_firstCells_some (P := P) w 1 (min m dLen) a m c (news.take (min m dLen)) (by simpa using hlen) hnews
    have hst := run_storeCells_cells (P := P) g off (news.take (min m dLen)) 0 w
      (fun j hj => by rw [hg.cell]; simp; omega) (fun j hj => hg.frozen (by omega)) (fun u hu => h1 u (List.mem_of_mem_take hu))
    simp only [Nat.add_zero] at hst
    have hmin : Nat.min m dLen = min m dLen := rfl
    simp [Builtin.copy_, run_underlying hu, sizeOf, typeInfo, hi, hs1, Builtin.lenOf, hmin, hf, hst]
theorem wp_copy (hgd : o.guard = none) (d s : Operand) (dT sT : TypeId)
    (ho : o.op = .call { callee := .builtin .copy, args := #[d, s], argTypes := #[dT, sT] }) (T : TypeId) (hu : P.underlying dT = some (.slice T)) (hsz : (P.info? T).map (·.size) = some 1)
    (dA : Option Addr) (dLen dCap g off : Nat) (hd' : a.eval d = .slice dA dLen dCap) (cs : List Value) (T' : TypeId) (hg : OBlk w g T' cs) (hd : 0 < dLen → dA = some ⟨g, off, none⟩) (hfit : off + dLen ≤ cs.length)
    (vx : Value) (m : Nat) (news : List Value) (hx : a.eval s = vx) (hr : Rd w 1 vx m news) (h1 : ∀ u ∈ news, u.oneCell' = true)
    (h : ∀ w', OBlk w' g T' (splice cs off (news.take (min m dLen))) → w.grownBy w' (some g) → wpList P ops Q rest (a.put o.dst (goInt (min m dLen : Nat))) w') : wpList P ops Q (o :: rest) a w := by
  refine wpList_plain hgd fun K hK => ?_
  have hrun := run_copy_OBlk (P := P) w dT sT o.type T hu hsz dA dLen dCap g off cs T' hg hd hfit vx m news hr h1
  unfold Oper.wp
  simp [execOp, ho, resolve, invoke, builtin, hd', hx, hrun, Result.andThen]
  refine hK _ _ (h _ (OBlk.setCells _ _ _ _ hg ?_) (grownBy_setCells _ _ _ _))
  simp; omega
/-- Guards for the walk's arms: the next operation is a copy; a conversion. -/
theorem at_copy {d : Option Tmp} {x y : Operand} {t u ty : TypeId} {pos : String} {af : Array Edge} {gd : Option (Nat × Bool)}
    (h : wpList P ops Q ({ dst := d, op := Op.call { callee := Callee.builtin Builtin.copy, args := #[x, y], argTypes := #[t, u] }, type := ty, pos := pos, after := af, guard := gd } :: rest) a w) :
    wpList P ops Q ({ dst := d, op := Op.call { callee := Callee.builtin Builtin.copy, args := #[x, y], argTypes := #[t, u] }, type := ty, pos := pos, after := af, guard := gd } :: rest) a w := h
theorem at_convert {d : Option Tmp} {x : Operand} {t u ty : TypeId} {pos : String} {af : Array Edge} {gd : Option (Nat × Bool)}
    (h : wpList P ops Q ({ dst := d, op := Op.convert t u x, type := ty, pos := pos, after := af, guard := gd } :: rest) a w) :
    wpList P ops Q ({ dst := d, op := Op.convert t u x, type := ty, pos := pos, after := af, guard := gd } :: rest) a w := h
end laws
end Go.Proofs.Ytgnhakgfgdelpaa

-- Slices of bytes: read as a list, owned as a list; make, append, copy, conversions.
namespace Go.Proofs.Ytgnhakgfgdelpaa
open Go.RowKit

/-- A byte as a value. -/
def bv (x : UInt8) : Value := .int .u8 (x.toNat : Int)
def bvs (l : List UInt8) : List Value := l.map bv
theorem bvs_length (l : List UInt8) : (bvs l).length = l.length := by simp [bvs]
theorem bvs_append (l m : List UInt8) : bvs (l ++ m) = bvs l ++ bvs m := by simp [bvs]
theorem bvs_one (l : List UInt8) : ∀ u ∈ bvs l, u.oneCell' = true := by
  intro u hu
  obtain ⟨x, _, rfl⟩ := List.mem_map.1 hu
  rfl
theorem bvs_get (l : List UInt8) (j : Nat) (u : Value) (h : (bvs l)[j]? = some u) : ∃ hj : j < l.length, u = .int .u8 (l[j].toNat : Int) := by
  unfold bvs at h
  rw [List.getElem?_map] at h
  obtain ⟨x, hx, rfl⟩ := Option.map_eq_some_iff.1 h
  obtain ⟨hj, rfl⟩ := List.getElem?_eq_some_iff.1 hx
  exact ⟨hj, rfl⟩
theorem bvs_get' (l : List UInt8) (j : Nat) (hj : j < l.length) : (bvs l)[j]? = some (.int .u8 (l[j].toNat : Int)) := by
  simp [bvs, hj, bv]
theorem bvs_take (l : List UInt8) (n : Nat) : bvs (l.take n) = (bvs l).take n := by simp [bvs]
theorem bvs_drop (l : List UInt8) (n : Nat) : bvs (l.drop n) = (bvs l).drop n := by simp [bvs]
theorem bvs_set (l : List UInt8) (j : Nat) (x : UInt8) : bvs (l.set j x) = (bvs l).set j (.int .u8 (x.toNat : Int)) := by simp [bvs, List.map_set, bv]
theorem bvs_replicate (n : Nat) : bvs (List.replicate n 0) = List.replicate n (.int .u8 0) := by simp [bvs, bv]
theorem bvs_splice (l : List UInt8) (o : Nat) (m : List UInt8) : bvs (splice l o m) = splice (bvs l) o (bvs m) := by simp [splice, bvs]

/-- The slice value v reads as the bytes l. -/
def RdB (w : World) (v : Value) (l : List UInt8) : Prop :=
  ∃ A c, v = .slice A l.length c ∧ l.length ≤ c ∧ c ≤ maxLen ∧ ∀ j (h : j < l.length), ∃ ad, A = some ad ∧ w.cell? (ad.add j) = some (.int .u8 (l[j].toNat : Int))
section RdB
variable {w w' : World} {v : Value} {l m : List UInt8}
theorem RdB.rd (h : RdB w v l) : Rd w 1 v l.length (bvs l) := by
  obtain ⟨A, c, rfl, h1, h2, h3⟩ := h
  refine ⟨by simp [bvs_length], A, c, rfl, h1, h2, fun j u hj => ?_⟩
  obtain ⟨hj', rfl⟩ := bvs_get l j u hj
  exact h3 j hj'
theorem RdB.of_rd {n : Nat} (h : Rd w 1 v n (bvs l)) : RdB w v l := by
  obtain ⟨h0, A, c, rfl, h1, h2, h3⟩ := h
  have hn : n = l.length := by simpa [bvs_length] using h0.symm
  subst hn
  exact ⟨A, c, rfl, h1, h2, fun j hj => h3 j _ (bvs_get' l j hj)⟩
theorem RdB.keep (h : RdB w v l) (hk : ∀ p : Addr, p.block < w.heap.size → w'.cell? p = w.cell? p) : RdB w' v l := by
  obtain ⟨A, c, rfl, h1, h2, h3⟩ := h
  refine ⟨A, c, rfl, h1, h2, fun j hj => ?_⟩
  obtain ⟨ad, ha, hc⟩ := h3 j hj
  exact ⟨ad, ha, (hk _ (World.block_lt_of_cell? w _ hc)).trans hc⟩
theorem RdB.below (h : RdB w v l) {B : Nat} (hb : Below B w w') (hB : w.heap.size ≤ B) : RdB w' v l := h.keep fun _ hp => hb.cell (by omega)
theorem RdB.alloc (h : RdB w v l) (o : Obj) : RdB (w.alloc o) v l := h.keep fun p hp => World.cell?_alloc_lt w o p hp
theorem RdB.drew (h : RdB w v l) : RdB w.drew v l := h
theorem RdB.nil : RdB w (.slice none 0 0) [] := ⟨none, 0, rfl, by simp, by simp, fun j h => absurd h (by simp)⟩
theorem RdB.le (h : RdB w v l) : l.length ≤ 9223372036854775807 := by
  obtain ⟨A, c, rfl, h1, h2, h3⟩ := h
  simp only [maxLen] at h2; omega
/-- The cell at an index. -/
theorem RdB.at_ {A : Option Addr} {n c j : Nat} (h : RdB w (.slice A n c) l) (hj : j < l.length) : ∃ ad, A = some ad ∧ w.cell? (ad.add j) = some (.int .u8 (l[j].toNat : Int)) := by
  obtain ⟨A, c, hv, h1, h2, h3⟩ := h
  injection hv with hA
  subst hA
  exact h3 j hj
/-- A piece, as the walk writes it. -/
theorem RdB.cut {A : Option Addr} {n c lo hi : Nat} (h : RdB w (.slice A n c) l) (hlo : lo ≤ hi) (hhi : hi ≤ l.length) :
    RdB w (.slice (if c = lo then A else A.map (·.add lo)) (hi - lo) (c - lo)) ((l.take hi).drop lo) := by
  obtain ⟨A, c, hv, h1, h2, h3⟩ := h
  injection hv with hA hn hc
  subst hA; subst hc
  have hlen : ((l.take hi).drop lo).length = hi - lo := by simp; omega
  refine ⟨_, _, by rw [hlen], by rw [hlen]; omega, by omega, fun j hj => ?_⟩
  rw [hlen] at hj
  obtain ⟨ad, rfl, hcell⟩ := h3 (lo + j) (by omega)
  rw [if_neg (by omega)]
  refine ⟨ad.add lo, rfl, ?_⟩
  rw [add_of_add, hcell]
  simp
end RdB

/-- The slice value v reads as slices that read as the lists ls. -/
def RdL (w : World) (v : Value) (ls : List (List UInt8)) : Prop :=
  ∃ vs : List Value, Rd w 1 v vs.length vs ∧ vs.length = ls.length ∧ ∀ i (h : i < ls.length), ∃ u, vs[i]? = some u ∧ RdB w u ls[i]
theorem RdL.keep {w w' : World} {v : Value} {ls : List (List UInt8)} (h : RdL w v ls) (hk : ∀ p : Addr, p.block < w.heap.size → w'.cell? p = w.cell? p) : RdL w' v ls := by
  obtain ⟨vs, h1, h2, h3⟩ := h
  refine ⟨vs, h1.keep hk, h2, fun i hi => ?_⟩
  obtain ⟨u, hu, hr⟩ := h3 i hi
  exact ⟨u, hu, hr.keep hk⟩
theorem RdL.below {w w' : World} {v : Value} {ls : List (List UInt8)} (h : RdL w v ls) {B : Nat} (hb : Below B w w') (hB : w.heap.size ≤ B) : RdL w' v ls := h.keep fun _ hp => hb.cell (by omega)
theorem RdB.form {w : World} {v : Value} {l : List UInt8} (h : RdB w v l) : ∃ A c, v = .slice A l.length c ∧ l.length ≤ 9223372036854775807 := by
  have := h.le
  obtain ⟨A, c, rfl, _⟩ := h
  exact ⟨A, c, rfl, this⟩
theorem RdL.form {w : World} {v : Value} {ls : List (List UInt8)} (h : RdL w v ls) : ∃ A c, v = .slice A ls.length c ∧ ls.length ≤ 9223372036854775807 := by
  obtain ⟨vs, ⟨_, A, c, rfl, h1, h2, _⟩, h3, _⟩ := h
  simp only [maxLen] at h2
  exact ⟨A, c, by rw [h3], by omega⟩
theorem RdL.at_ {w : World} {A : Option Addr} {n c : Nat} {ls : List (List UInt8)} (h : RdL w (.slice A n c) ls) {k : Nat} (hk : k < ls.length) :
    ∃ ad A2 c2, A = some ad ∧ w.cell? (ad.add k) = some (.slice A2 ls[k].length c2) ∧ RdB w (.slice A2 ls[k].length c2) ls[k] := by
  obtain ⟨vs, ⟨_, A', c', hv, _, _, hc⟩, _, hr⟩ := h
  obtain ⟨u, hu, hru⟩ := hr k hk
  obtain ⟨ad, ha, hcell⟩ := hc k u hu
  injection hv with hA
  obtain ⟨A2, c2, rfl, h'⟩ := hru
  exact ⟨ad, A2, c2, hA.trans ha, hcell, A2, c2, rfl, h'⟩
theorem RdL.one {w : World} {u : Value} {l : List UInt8} (h : RdB w u l) (T : TypeId) : RdL (w.alloc (.cells #[u] T)) (.slice (some ⟨w.heap.size, 0, none⟩) 1 1) [l] :=
  ⟨[u], Rd.one w u T, rfl, fun i hi => by
    obtain rfl : i = 0 := by simpa using hi
    exact ⟨u, rfl, h.alloc _⟩⟩

/-- The slice value v is the call's own, in a block from base on, and reads as the bytes l. -/
def OwB (w : World) (base : Nat) (v : Value) (l : List UInt8) : Prop := Own w base 5 1 v l.length (bvs l)
section OwB
variable {w w' : World} {v : Value} {l m : List UInt8} {base : Nat}
theorem OwB.nil (w : World) (base : Nat) : OwB w base (.slice none 0 0) [] := Own.nil w base _ _
theorem OwB.rd (h : OwB w base v l) : RdB w v l := RdB.of_rd (Own.rd h)
theorem OwB.lt (h : OwB w base v l) : ∀ g, v.ownBlock = some g → base ≤ g ∧ g < w.heap.size := Own.lt h
theorem OwB.grown {row : Option Nat} (h : OwB w base v l) (hg : w.grownBy w' row) (hne : ∀ g, v.ownBlock = some g → some g ≠ row) : OwB w' base v l := Own.grown h hg hne
theorem OwB.below {B : Nat} (h : OwB w base v l) (hb : Below B w w') (hB : ∀ g, v.ownBlock = some g → g < B) : OwB w' base v l := Own.below h hb hB
theorem OwB.below' {B : Nat} (h : OwB w base v l) (hb : Below B w w') (hB : w.heap.size ≤ B) : OwB w' base v l := Own.below' h hb hB
theorem OwB.alloc (h : OwB w base v l) (o : Obj) : OwB (w.alloc o) base v l := Own.alloc h o
theorem OwB.drew (h : OwB w base v l) : OwB w.drew base v l := h
theorem OwB.low (h : OwB w base v l) {b : Nat} (hb : b ≤ base) : OwB w b v l := Own.low h hb
theorem OwB.base_le (h : OwB w base v l) {b : Nat} (hb : ∀ g, v.ownBlock = some g → b ≤ g) : OwB w b v l := Own.base_le h hb
theorem OwB.form (h : OwB w base v l) : (v = .slice none 0 0 ∧ l = []) ∨ ∃ g cap, v = .slice (some ⟨g, 0, none⟩) l.length cap ∧ base ≤ g ∧ g < w.heap.size ∧ l.length ≤ cap ∧ cap ≤ maxLen := by
  rcases Own.form h with ⟨h, h'⟩ | h
  · exact .inl ⟨h, List.eq_nil_of_length_eq_zero h'⟩
  · exact .inr h
theorem OwB.len {A : Option Addr} {n cap : Nat} (h : OwB w base (.slice A n cap) l) : n = l.length := by
  rcases h.form with ⟨h, h'⟩ | ⟨g', c', h, _⟩
  · cases h; subst h'; rfl
  · cases h; rfl
theorem OwB.cell {g n cap : Nat} (h : OwB w base (.slice (some ⟨g, 0, none⟩) n cap) l) {j : Nat} (hj : j < l.length) : w.cell? ⟨g, j, none⟩ = some (.int .u8 (l[j].toNat : Int)) := by
  obtain rfl := h.len
  exact Own.cells h j _ (bvs_get' l j hj)
theorem OwB.frozen {g n cap : Nat} (h : OwB w base (.slice (some ⟨g, 0, none⟩) n cap) l) {j : Nat} (hj : j < l.length) : w.frozen? ⟨g, j, none⟩ = false := by
  obtain rfl := h.len
  exact Own.frozen h (by rw [bvs_length]; exact hj)
theorem OwB.set {g n cap : Nat} (h : OwB w base (.slice (some ⟨g, 0, none⟩) n cap) l) (j : Nat) (x : UInt8) : OwB (w.setCell ⟨g, j, none⟩ (.int .u8 (x.toNat : Int))) base (.slice (some ⟨g, 0, none⟩) n cap) (l.set j x) := by
  obtain rfl := h.len
  have := Own.set h j (.int .u8 (x.toNat : Int))
  unfold OwB
  rw [List.length_set, bvs_set]
  exact this
/-- The block, where capacity and length are alike. -/
theorem OwB.blk {g n : Nat} (h : OwB w base (.slice (some ⟨g, 0, none⟩) n n) l) : OBlk w g 5 (bvs l) := by
  obtain rfl := h.len
  rcases h.2 with ⟨h, _⟩ | ⟨g', cap', cs, hv, hb, hg, h1, h2, h3, h4⟩
  · cases h
  · injection hv with hA _ hc
    injection hA with hA
    injection hA with hA
    subst hA; subst hc
    rw [List.take_of_length_le (by omega)] at h4
    rw [← h4]; exact hg
theorem OBlk.owB {g : Nat} (h : OBlk w g 5 (bvs m)) (hb : base ≤ g) (hm : m.length ≤ maxLen) {n : Nat} (hn : n ≤ m.length) : OwB w base (.slice (some ⟨g, 0, none⟩) n m.length) (m.take n) := by
  have e : (m.take n).length = n := by simp; omega
  refine ⟨by simp [bvs_length], .inr ⟨g, m.length, bvs m, by rw [e], hb, h, by rw [e]; exact hn, hm, by simp [bvs_length], ?_⟩⟩
  rw [bvs_take, e, Nat.mul_one]
theorem OBlk.owB' {g : Nat} (h : OBlk w g 5 (bvs m)) (hb : base ≤ g) (hm : m.length ≤ maxLen) : OwB w base (.slice (some ⟨g, 0, none⟩) m.length m.length) m := by
  have := h.owB hb hm (Nat.le_refl _)
  rwa [List.take_length] at this
/-- A block of another type is none of the call's own bytes. -/
theorem OwB.ne_blk {g : Nat} {T : TypeId} {cs : List Value} (h : OwB w base v l) (hg : OBlk w g T cs) (hT : 5 ≠ T) : some g ≠ v.ownBlock := by
  intro e
  rcases h.2 with ⟨rfl, _⟩ | ⟨g', cap', cs', rfl, _, hg', _⟩
  · simp [Value.ownBlock] at e
  · simp [Value.ownBlock] at e
    subst e
    exact hg'.ne hg hT rfl
def slen : Value → Nat | .slice _ n _ => n | _ => 0
theorem OwB.len_le (h : OwB w base v l) : l.length ≤ 9223372036854775807 := h.rd.le
/-- Two slices of the call's own, the second one made after the first: they don't share a block. -/
theorem OwB.apart {w0 w : World} {b b' : Nat} {v v' : Value} {l l' : List UInt8} (h : OwB w0 b v l) (h' : OwB w b' v' l') (hb : w0.heap.size ≤ b') : ∀ g, v.ownBlock = some g → some g ≠ v'.ownBlock := by
  intro g hg he
  have h1 := (h.lt g hg).2
  have h2 := (h'.lt g he.symm).1
  omega
theorem OBlk.rdB {g n : Nat} (h : OBlk w g 5 (bvs m)) (hn : m.length = n) (hm : n ≤ 140737488355328) : RdB w (.slice (some ⟨g, 0, none⟩) n n) m := by
  subst hn
  exact (h.owB' (base := 0) (Nat.zero_le _) (by simp only [maxLen]; omega)).rd
end OwB

theorem u8_info : (Try.prog.info? 5).map (fun i => (i.zero, i.size, i.bytes)) = some (some (.int .u8 0), 1, 1) := by kernel_rfl
theorem u8_size : (Try.prog.info? 5).map (·.size) = some 1 := by kernel_rfl

section laws
variable {w : World} {ops : Array Oper} {rest : List Oper} {o : Oper} {a : Act} {Q : Exit → Act → World → Prop}
/-- make([]byte, n): zeros, the call's own. -/
theorem wp_make_B (hg : o.guard = none) (l c : Operand) (hop : o.op = Op.makeSlice 25 l c)
    (L : Int) (n : Nat) (hl : a.eval l = .int .i64 L) (hc : a.eval c = .int .i64 L) (hL : L = (n : Int)) (hn : n ≤ 281474976710656)
    (hK : ∀ w', OBlk w' w.heap.size 5 (bvs (List.replicate n 0)) → Below w.heap.size w w' → w'.heap.size = w.heap.size + 1 → wpList Try.prog ops Q rest (a.put o.dst (.slice (some ⟨w.heap.size, 0, none⟩) n n)) w') :
    wpList Try.prog ops Q (o :: rest) a w := by
  obtain ⟨i, hi, hz0, hz1, hz2⟩ := info_parts u8_info
  refine wpList_plain hg fun K hK' => ?_
  have hr := run_make (P := Try.prog) w 25 5 i _ Try.underlying25 hi hz0 .i64 .i64 n n (by omega) (by omega) (by rw [hz2]; omega) (by omega)
  subst hL
  unfold Oper.wp
  simp [execOp, hop, hl, hc, hr, Result.andThen]
  refine hK' _ _ (hK _ ?_ ((Below.refl _ _).alloc (Nat.le_refl _) _) (by simp))
  have e := toList_madeCells_one (.int .u8 0) n
  have := OBlk.new w 5 (madeCells #[.int .u8 0] n)
  rw [e, ← bvs_replicate] at this
  simpa [Value.cells, hz1] using this
/-- append(l, m...) of bytes. -/
theorem wp_append_B (hgd : o.guard = none) (s x : Operand)
    (ho : o.op = .call { callee := .builtin .append, args := #[s, x], argTypes := #[25, 25] })
    (base : Nat) (v : Value) (l : List UInt8) (hs : a.eval s = v) (hown : OwB w base v l)
    (vx : Value) (m : List UInt8) (hx : a.eval x = vx) (hr : RdB w vx m) (hsm : l.length + m.length ≤ 140737488355328) (hbase : base ≤ w.heap.size)
    (h : ∀ v' w', OwB w' base v' (l ++ m) → w.grownBy w' v.ownBlock → (v'.ownBlock = v.ownBlock ∨ v'.ownBlock = some w.heap.size) → wpList Try.prog ops Q rest (a.put o.dst v') w') :
    wpList Try.prog ops Q (o :: rest) a w := by
  obtain ⟨i, hi, hz0, hz1, hz2⟩ := info_parts u8_info
  refine wp_append hgd s x _ _ ho base 5 i _ 1 1 Try.underlying25 hi hz0 hz1 hz2 rfl v l.length (bvs l) hs hown vx m.length (bvs m) hx (Rd.src w Try.underlying25 (by omega) hr.rd (bvs_one m)) (by omega) hsm hbase ?_
  intro v' w' h1 h2 h3
  refine h v' w' ?_ h2 h3
  unfold OwB
  rw [List.length_append, bvs_append]
  exact h1
/-- append(l, x) of one byte that has just been laid. -/
theorem wp_append_B1 (hgd : o.guard = none) (s x : Operand)
    (ho : o.op = .call { callee := .builtin .append, args := #[s, x], argTypes := #[25, 25] })
    (base : Nat) (v : Value) (l : List UInt8) (hs : a.eval s = v) (hown : OwB w base v l)
    (y : UInt8) (u : Value) (hu : u = .int .u8 (y.toNat : Int)) (T : TypeId) (hx : a.eval x = .slice (some ⟨w.heap.size, 0, none⟩) 1 1) (hsm : l.length + 1 ≤ 140737488355328) (hbase : base ≤ w.heap.size)
    (h : ∀ v' w', OwB w' base v' (l ++ [y]) → w.grownBy w' v.ownBlock → (v'.ownBlock = v.ownBlock ∨ (v'.ownBlock = some (w.heap.size + 1))) → wpList Try.prog ops Q rest (a.put o.dst v') w') :
    wpList Try.prog ops Q (o :: rest) a (w.alloc (.cells #[u] T)) := by
  subst hu
  refine wp_append_B hgd s x ho base v l hs (hown.alloc _) (.slice (some ⟨w.heap.size, 0, none⟩) 1 1) [y] hx (RdB.of_rd (n := 1) ?_) hsm (by simp; omega) ?_
  · simpa [bvs, bv] using Rd.one w (.int .u8 (y.toNat : Int)) T
  · intro v' w' h1 h2 h3
    refine h v' w' h1 ⟨h2.os, h2.tape, h2.output, ?_, fun k hk hne => (h2.block k (by simp; omega) hne).trans (Below.heap_alloc _ _ _ hk)⟩ (by simpa using h3)
    have := h2.size
    simp at this; omega
/-- string(b). -/
theorem run_B_string {v : Value} {l : List UInt8} (h : RdB w v l) : (convert 25 9 v).run Try.prog w = .ok (.string ⟨l.toArray⟩) w := by
  obtain ⟨A, c, rfl, h1, h2, h3⟩ := h
  cases A with
  | none =>
    have : l = [] := by
      cases l with
      | nil => rfl
      | cons x r => obtain ⟨ad, h, _⟩ := h3 0 (by simp); cases h
    subst this
    rw [run_convert_bytes_string w _ _ 5 none _ c Try.underlying25 Try.underlying5 Try.underlying9]
    rfl
  | some ad =>
    refine run_convert_bytes_back w _ _ 5 ad c l Try.underlying25 Try.underlying5 Try.underlying9 fun j hj => ?_
    obtain ⟨ad', he, hc⟩ := h3 j hj
    injection he with he
    subst he; exact hc
theorem wp_B_string (hgd : o.guard = none) (x : Operand) (ho : o.op = .convert 25 9 x) (v : Value) (l : List UInt8) (hx : a.eval x = v) (hr : RdB w v l)
    (h : wpList Try.prog ops Q rest (a.put o.dst (.string ⟨l.toArray⟩)) w) : wpList Try.prog ops Q (o :: rest) a w := by
  refine wpList_plain hgd fun K hK => ?_
  have hrun := run_B_string hr
  unfold Oper.wp
  simp [execOp, ho, hx, hrun, Result.andThen]
  exact hK _ _ h
/-- []byte(s). -/
theorem run_string_B (w : World) (s : ByteArray) (hs : s.size ≤ maxLen) : ∃ cap w', (convert 9 25 (.string s)).run Try.prog w = .ok (.slice (some ⟨w.heap.size, 0, none⟩) s.size cap) w' ∧
    OwB w' w.heap.size (.slice (some ⟨w.heap.size, 0, none⟩) s.size cap) s.data.toList ∧ Below w.heap.size w w' ∧ w'.heap.size = w.heap.size + 1 := by
  have hr := run_bytes_of_string (P := Try.prog) w 9 25 5 s Try.underlying9 Try.underlying25 Try.underlying5
  have hge := grownCap_ge w s.size 0 5
  have hle := grownCap_le_maxLen w s.size 0 5 hs
  generalize grownCap w s.size 0 5 = cap at *
  obtain ⟨⟨l⟩⟩ := s
  change l.length ≤ cap at hge
  have e : (bytesRow ⟨⟨l⟩⟩ cap).toList = bvs l ++ List.replicate (cap - l.length) (.int .u8 0) := by
    simp [bytesRow, bvs, bv]; rfl
  have hcs : (bytesRow ⟨⟨l⟩⟩ cap).toList.length = cap := by
    rw [e]; simp [bvs_length]; omega
  refine ⟨_, _, hr, ⟨by simp [bvs_length], .inr ⟨w.heap.size, cap, (bytesRow ⟨⟨l⟩⟩ cap).toList, rfl, Nat.le_refl _, ⟨((bytesRow ⟨⟨l⟩⟩ cap).size, (bytesRow ⟨⟨l⟩⟩ cap).size + 1), ?_, ?_⟩, hge, hle, by simpa using hcs, ?_⟩⟩, ((Below.refl _ _).drew).alloc (Nat.le_refl _) _, by simp⟩
  · exact (heap_alloc_new w.drew _).trans (by simp)
  · intro j hj
    rw [Array.length_toList] at hj
    simp only
    omega
  · rw [e, Nat.mul_one]
    show List.take l.length _ = bvs l
    rw [show l.length = (bvs l).length by rw [bvs_length]]
    exact List.take_left
/-- append(l, s...) of a string onto bytes of the call's own. -/
theorem wp_append_S (hgd : o.guard = none) (s x : Operand)
    (ho : o.op = .call { callee := .builtin .append, args := #[s, x], argTypes := #[25, 9] })
    (base : Nat) (v : Value) (l : List UInt8) (hs : a.eval s = v) (hown : OwB w base v l)
    (m : ByteArray) (hx : a.eval x = .string m) (hsm : l.length + m.size ≤ 140737488355328) (hbase : base ≤ w.heap.size)
    (h : ∀ v' w', OwB w' base v' (l ++ m.data.toList) → w.grownBy w' v.ownBlock → (v'.ownBlock = v.ownBlock ∨ v'.ownBlock = some w.heap.size) → wpList Try.prog ops Q rest (a.put o.dst v') w') :
    wpList Try.prog ops Q (o :: rest) a w := by
  obtain ⟨i, hi, hz0, hz1, hz2⟩ := info_parts u8_info
  refine wp_append hgd s x _ _ ho base 5 i _ 1 1 Try.underlying25 hi hz0 hz1 hz2 rfl v l.length (bvs l) hs hown (.string m) m.size (byteCells m) hx (Src.ofString w Try.underlying9 m) (by omega) hsm hbase ?_
  intro v' w' h1 h2 h3
  refine h v' w' ?_ h2 h3
  unfold OwB
  rw [List.length_append, bvs_append]
  exact h1
/-- copy of bytes into a writable block of bytes, at a place. -/
theorem wp_copy_B (hgd : o.guard = none) (d s : Operand)
    (ho : o.op = .call { callee := .builtin .copy, args := #[d, s], argTypes := #[25, 25] })
    (dA : Option Addr) (dLen dCap g off : Nat) (hd' : a.eval d = .slice dA dLen dCap) (cs : List UInt8) (hg : OBlk w g 5 (bvs cs)) (hd : 0 < dLen → dA = some ⟨g, off, none⟩) (hfit : off + dLen ≤ cs.length)
    (vx : Value) (m : List UInt8) (hx : a.eval s = vx) (hr : RdB w vx m)
    (h : ∀ w', OBlk w' g 5 (bvs (splice cs off (m.take (min m.length dLen)))) → w.grownBy w' (some g) → wpList Try.prog ops Q rest (a.put o.dst (goInt (min m.length dLen : Nat))) w') : wpList Try.prog ops Q (o :: rest) a w := by
  refine wp_copy hgd d s _ _ ho 5 Try.underlying25 u8_size dA dLen dCap g off hd' (bvs cs) 5 hg hd (by rw [bvs_length]; exact hfit) vx m.length (bvs m) hx hr.rd (bvs_one m) ?_
  intro w' h1 h2
  refine h w' ?_ h2
  rw [bvs_splice, bvs_take]
  exact h1
theorem step_copy_B {K : Act → World → Prop} {E : Prop} (hgd : o.guard = none) (d s : Operand)
    (ho : o.op = .call { callee := .builtin .copy, args := #[d, s], argTypes := #[25, 25] })
    (dA : Option Addr) (dLen dCap g off : Nat) (hd' : a.eval d = .slice dA dLen dCap) (cs : List UInt8) (hg : OBlk w g 5 (bvs cs)) (hd : 0 < dLen → dA = some ⟨g, off, none⟩) (hfit : off + dLen ≤ cs.length)
    (vx : Value) (m : List UInt8) (hx : a.eval s = vx) (hr : RdB w vx m)
    (h : ∀ w', OBlk w' g 5 (bvs (splice cs off (m.take (min m.length dLen)))) → w.grownBy w' (some g) → K (a.put o.dst (goInt (min m.length dLen : Nat))) w') :
    if Region.wanted o (yielded ops a.tmps) = true then Oper.wp Try.prog o a w K Q else E := by
  have hw : Region.wanted o (yielded ops a.tmps) = true := by simp [Region.wanted, hgd]
  rw [if_pos hw]
  have hrun := run_copy_OBlk (P := Try.prog) w _ 25 o.type 5 Try.underlying25 u8_size dA dLen dCap g off (bvs cs) 5 hg hd (by rw [bvs_length]; exact hfit) vx m.length (bvs m) hr.rd (bvs_one m)
  have hw' := h _ (by rw [bvs_splice, bvs_take]; exact OBlk.setCells ((bvs m).take (min m.length dLen)) off _ _ hg (by rw [bvs_length]; simp [bvs_length]; omega)) (grownBy_setCells _ _ _ _)
  unfold Oper.wp
  simp [execOp, ho, resolve, invoke, builtin, hd', hx, hrun, Result.andThen, Oper.upon]
  exact hw'
/-- copy of a string into a writable block of bytes, with room for it. -/
theorem wp_copy_S (hgd : o.guard = none) (d s : Operand)
    (ho : o.op = .call { callee := .builtin .copy, args := #[d, s], argTypes := #[25, 9] })
    (dA : Option Addr) (dLen dCap g off : Nat) (hd' : a.eval d = .slice dA dLen dCap) (cs : List UInt8) (hg : OBlk w g 5 (bvs cs)) (hd : dA = some ⟨g, off, none⟩) (hfit : off + dLen ≤ cs.length)
    (m : ByteArray) (hx : a.eval s = .string m) (hm : m.size ≤ dLen)
    (h : ∀ w', OBlk w' g 5 (bvs (splice cs off m.data.toList)) → w.grownBy w' (some g) → wpList Try.prog ops Q rest (a.put o.dst (goInt (m.size : Nat))) w') : wpList Try.prog ops Q (o :: rest) a w := by
  subst hd
  obtain ⟨i, hi, hz0, hz1, hz2⟩ := info_parts u8_info
  have hlen : (byteCells m).length = m.size := byteCells_length m
  have hmin : Nat.min m.size dLen = m.size := Nat.min_eq_left hm
  have hst := run_storeCells_cells (P := Try.prog) g off (byteCells m) 0 w
      (fun j hj => by rw [hg.cell]; simp [bvs_length]; omega) (fun j hj => hg.frozen (by rw [bvs_length]; omega)) (fun u hu => by obtain ⟨_, _, rfl⟩ := List.mem_map.1 hu; rfl)
  simp only [Nat.add_zero] at hst
  have hf := firstCells_string (P := Try.prog) m w
  have hrun : (Builtin.copy_ #[25, 9] o.type #[.slice (some ⟨g, off, none⟩) dLen dCap, .string m]).run Try.prog w = .ok (goInt (m.size : Nat)) (w.setCells g off (byteCells m)) := by
    simp [Builtin.copy_, run_underlying Try.underlying25, sizeOf, typeInfo, hi, hz1, Builtin.lenOf, hmin, hf, hst]
  refine wpList_plain hgd fun K hK => ?_
  have hw' := h _ (by rw [bvs_splice]; exact OBlk.setCells (byteCells m) off _ _ hg (by rw [bvs_length, hlen]; omega)) (grownBy_setCells _ _ _ _)
  unfold Oper.wp
  simp [execOp, ho, resolve, invoke, builtin, hd', hx, hrun, Result.andThen]
  exact hK _ _ hw'
end laws
end Go.Proofs.Ytgnhakgfgdelpaa

-- append, told more: the slice that was appended to reads as it did.
namespace Go.Proofs.Ytgnhakgfgdelpaa
open Go.RowKit
section append
variable {P : Program} (w : World)
theorem run_append_keep (base : Nat) (t tx ty T : TypeId) (i : TypeInfo) (z : Value) (size bytes : Nat) (ht : P.underlying t = some (.slice T)) (hi : P.info? T = some i) (hz : i.zero = some z)
    (hsize : i.size = size) (hby : i.bytes = bytes) (hzs : z.cells.size = size)
    (v : Value) (n : Nat) (xs : List Value) (hown : Own w base T size v n xs)
    (vx : Value) (m : Nat) (news : List Value) (hs : Src P size tx vx m news w)
    (hbytes : (n + m) * bytes ≤ 140737488355328) (hsm : n + m ≤ 140737488355328) (hbase : base ≤ w.heap.size) :
    ∃ v' w', (Builtin.append_ #[t, tx] ty #[v, vx]).run P w = .ok v' w' ∧ Own w' base T size v' (n + m) (xs ++ news) ∧ w.grownBy w' v.ownBlock ∧
      (v'.ownBlock = v.ownBlock ∨ v'.ownBlock = some w.heap.size) ∧ Own w' base T size v n xs := by
  subst hsize
  subst hby
  have h63 : n + m ≤ maxLen := by simp only [maxLen]; omega
  have hl := hs.newsLen
  have hlen : (xs ++ news).length = (n + m) * i.size := by rw [List.length_append, hown.1, hl, Nat.add_mul]
  have grown : ∀ (old : Nat), old < n + m → ∀ (row : Option Nat),
      Own (w.drew.alloc (.cells ((xs ++ news).toArray ++ Builtin.zeroCells z.cells (grownCap w (n + m) old T - (n + m))) T)) base T i.size
        (.slice (some ⟨w.heap.size, 0, none⟩) (n + m) (grownCap w (n + m) old T)) (n + m) (xs ++ news) ∧
      w.grownBy (w.drew.alloc (.cells ((xs ++ news).toArray ++ Builtin.zeroCells z.cells (grownCap w (n + m) old T - (n + m))) T)) row := by
    intro old ho row
    have hge := grownCap_ge w (n + m) old T
    have hcm : grownCap w (n + m) old T ≤ maxLen := grownCap_le_maxLen w (n + m) old T h63
    refine ⟨⟨hlen, .inr ⟨w.heap.size, _, _, rfl, hbase, OBlk.new w.drew T _, hge, hcm, ?_, ?_⟩⟩, ⟨rfl, rfl, rfl, by simp, fun k hk _ => heap_alloc_old w.drew _ hk⟩⟩
    · have hs : (Builtin.zeroCells z.cells (grownCap w (n + m) old T - (n + m))).toList.length = (grownCap w (n + m) old T - (n + m)) * i.size := by
        rw [Array.length_toList, size_zeroCells, hzs]
      rw [Array.toList_append, List.length_append, hs]
      simp only [hlen, ← Nat.add_mul]
      congr 1
      omega
    · simp only [Array.toList_append]
      rw [← hlen]
      exact List.take_left
  rcases hown.2 with ⟨rfl, rfl⟩ | ⟨g, cap, cs, rfl, hbg, hg, hnc, hcm, hcs, htake⟩
  · have hx : xs = [] := List.eq_nil_of_length_eq_zero (by simpa using hown.1)
    subst hx
    by_cases hm0 : m = 0
    · subst hm0
      have hn : news = [] := List.eq_nil_of_length_eq_zero (by simpa using hl)
      subst hn
      refine ⟨.slice none 0 0, w, ?_, by simpa using hown, World.grownBy.refl w _, .inl rfl, hown⟩
      rcases hs.kind with ⟨e', hk⟩ | hk <;> simp [Builtin.append_, run_underlying ht, run_underlying hk, sizeOf, typeInfo, hi, hs.len, hs.cells]
    · have hr := run_append_grow_src (P := P) w t tx ty T i z ht hi hz none 0 0 [] (by simp [Builtin.firstCells]) vx m news hs (by omega) (by omega) (by have hb := hbytes; exact growslice_fits (by omega) hb)
      have hgr := grown 0 (by omega) (Value.ownBlock (.slice none 0 0))
      exact ⟨_, _, hr, hgr.1, hgr.2, Or.inr rfl, (hown.drew).alloc _⟩
  · by_cases hroom : n + m ≤ cap
    · have hle : n * i.size + news.length ≤ cs.length := by rw [hl, hcs, ← Nat.add_mul]; exact Nat.mul_le_mul_right _ hroom
      have hr := run_append_room_src (P := P) w t tx ty T i ht hi g 0 n cap vx m news hs hroom (fun j hj => by rw [hg.cell]; simp; omega) (fun j hj => hg.frozen (by omega))
      rw [Nat.zero_add] at hr
      refine ⟨_, _, hr, ⟨hlen, .inr ⟨g, cap, _, rfl, hbg, OBlk.setCells news _ w cs hg hle, hroom, hcm, ?_, ?_⟩⟩, grownBy_setCells _ _ _ _, .inl rfl, ?_⟩
      · rw [length_splice _ _ _ hle, hcs]
      · rw [Nat.add_mul, ← hl, splice_take _ _ _ (by omega), htake]
      · refine ⟨hown.1, .inr ⟨g, cap, _, rfl, hbg, OBlk.setCells news _ w cs hg hle, hnc, hcm, ?_, ?_⟩⟩
        · rw [length_splice _ _ _ hle, hcs]
        · rw [splice_end cs _ news (by omega) _ (Nat.le_refl _), htake]
    · have holds : (Builtin.firstCells i.size n (.slice (some ⟨g, 0, none⟩) n cap)).run P w.drew = .ok xs.toArray w.drew :=
        run_firstCells_some w.drew i.size n ⟨g, 0, none⟩ n cap xs hown.1 (fun j u hj => by rw [add_row]; simpa using hown.cells j u hj)
      have hr := run_append_grow_src (P := P) w t tx ty T i z ht hi hz (some ⟨g, 0, none⟩) n cap xs holds vx m news hs (by omega) (by omega) (growslice_fits (by omega) hbytes)
      have hgr := grown cap (by omega) (Value.ownBlock (.slice (some ⟨g, 0, none⟩) n cap))
      exact ⟨_, _, hr, hgr.1, hgr.2, Or.inr rfl, (hown.drew).alloc _⟩
end append

section laws
variable {P : Program} {w : World} {ops : Array Oper} {rest : List Oper} {o : Oper} {a : Act} {Q : Exit → Act → World → Prop}
theorem wp_append_keep (hgd : o.guard = none) (s x : Operand) (t tx : TypeId)
    (ho : o.op = .call { callee := .builtin .append, args := #[s, x], argTypes := #[t, tx] })
    (base : Nat) (T : TypeId) (i : TypeInfo) (z : Value) (size bytes : Nat) (ht : P.underlying t = some (.slice T)) (hi : P.info? T = some i) (hz : i.zero = some z)
    (hsize : i.size = size) (hby : i.bytes = bytes) (hzs : z.cells.size = size)
    (v : Value) (n : Nat) (xs : List Value) (hs : a.eval s = v) (hown : Own w base T size v n xs)
    (vx : Value) (m : Nat) (news : List Value) (hx : a.eval x = vx) (hr : Src P size tx vx m news w)
    (hbytes : (n + m) * bytes ≤ 140737488355328) (hsm : n + m ≤ 140737488355328) (hbase : base ≤ w.heap.size)
    (h : ∀ v' w', Own w' base T size v' (n + m) (xs ++ news) → w.grownBy w' v.ownBlock → (v'.ownBlock = v.ownBlock ∨ v'.ownBlock = some w.heap.size) → Own w' base T size v n xs → wpList P ops Q rest (a.put o.dst v') w') :
    wpList P ops Q (o :: rest) a w := by
  refine wpList_plain hgd fun K hK => ?_
  obtain ⟨v', w', hr, h2, h3, h4, h5⟩ := run_append_keep (P := P) w base t tx o.type T i z size bytes ht hi hz hsize hby hzs v n xs hown vx m news hr hbytes hsm hbase
  unfold Oper.wp execOp
  simp only [ho, resolve, invoke, builtin, Sem.run_bind, Sem.run_pure, Result.andThen_ok, List.map_toArray, List.map_cons, List.map_nil, hs, hx, hr]
  exact hK _ _ (h v' w' h2 h3 h4 h5)
end laws
section laws
variable {w : World} {ops : Array Oper} {rest : List Oper} {o : Oper} {a : Act} {Q : Exit → Act → World → Prop}
/-- append(l, m...) of bytes. -/
theorem wp_append_keep_B (hgd : o.guard = none) (s x : Operand)
    (ho : o.op = .call { callee := .builtin .append, args := #[s, x], argTypes := #[25, 25] })
    (base : Nat) (v : Value) (l : List UInt8) (hs : a.eval s = v) (hown : OwB w base v l)
    (vx : Value) (m : List UInt8) (hx : a.eval x = vx) (hr : RdB w vx m) (hsm : l.length + m.length ≤ 140737488355328) (hbase : base ≤ w.heap.size)
    (h : ∀ v' w', OwB w' base v' (l ++ m) → w.grownBy w' v.ownBlock → (v'.ownBlock = v.ownBlock ∨ v'.ownBlock = some w.heap.size) → OwB w' base v l → wpList Try.prog ops Q rest (a.put o.dst v') w') :
    wpList Try.prog ops Q (o :: rest) a w := by
  obtain ⟨i, hi, hz0, hz1, hz2⟩ := info_parts u8_info
  refine wp_append_keep hgd s x _ _ ho base 5 i _ 1 1 Try.underlying25 hi hz0 hz1 hz2 rfl v l.length (bvs l) hs hown vx m.length (bvs m) hx (Rd.src w Try.underlying25 (by omega) hr.rd (bvs_one m)) (by omega) hsm hbase ?_
  intro v' w' h1 h2 h3 h4
  refine h v' w' ?_ h2 h3 h4
  unfold OwB
  rw [List.length_append, bvs_append]
  exact h1
/-- append(l, x) of one byte that has just been laid. -/
theorem wp_append_keep_B1 (hgd : o.guard = none) (s x : Operand)
    (ho : o.op = .call { callee := .builtin .append, args := #[s, x], argTypes := #[25, 25] })
    (base : Nat) (v : Value) (l : List UInt8) (hs : a.eval s = v) (hown : OwB w base v l)
    (y : UInt8) (u : Value) (hu : u = .int .u8 (y.toNat : Int)) (T : TypeId) (hx : a.eval x = .slice (some ⟨w.heap.size, 0, none⟩) 1 1) (hsm : l.length + 1 ≤ 140737488355328) (hbase : base ≤ w.heap.size)
    (h : ∀ v' w', OwB w' base v' (l ++ [y]) → w.grownBy w' v.ownBlock → (v'.ownBlock = v.ownBlock ∨ (v'.ownBlock = some (w.heap.size + 1))) → OwB w' base v l → wpList Try.prog ops Q rest (a.put o.dst v') w') :
    wpList Try.prog ops Q (o :: rest) a (w.alloc (.cells #[u] T)) := by
  subst hu
  refine wp_append_keep_B hgd s x ho base v l hs (hown.alloc _) (.slice (some ⟨w.heap.size, 0, none⟩) 1 1) [y] hx (RdB.of_rd (n := 1) ?_) hsm (by simp; omega) ?_
  · simpa [bvs, bv] using Rd.one w (.int .u8 (y.toNat : Int)) T
  · intro v' w' h1 h2 h3 h4
    refine h v' w' h1 ⟨h2.os, h2.tape, h2.output, ?_, fun k hk hne => (h2.block k (by simp; omega) hne).trans (Below.heap_alloc _ _ _ hk)⟩ (by simpa using h3) h4
    have := h2.size
    simp at this; omega
theorem L_info : (Try.prog.info? 25).map (fun i => (i.zero, i.size, i.bytes)) = some (some (.slice none 0 0), 1, 24) := by kernel_rfl
/-- append(vs, u) of one slice that has just been laid. -/
theorem wp_append_L1 (hgd : o.guard = none) (s x : Operand)
    (ho : o.op = .call { callee := .builtin .append, args := #[s, x], argTypes := #[32, 32] })
    (base : Nat) (v : Value) (vs : List Value) (hs : a.eval s = v) (hown : Own w base 25 1 v vs.length vs)
    (u : Value) (hu : u.oneCell' = true) (T : TypeId) (hx : a.eval x = .slice (some ⟨w.heap.size, 0, none⟩) 1 1) (hsm : vs.length + 1 ≤ 1000000) (hbase : base ≤ w.heap.size)
    (h : ∀ v' w', Own w' base 25 1 v' (vs.length + 1) (vs ++ [u]) → w.grownBy w' v.ownBlock → (v'.ownBlock = v.ownBlock ∨ (v'.ownBlock = some (w.heap.size + 1))) → wpList Try.prog ops Q rest (a.put o.dst v') w') :
    wpList Try.prog ops Q (o :: rest) a (w.alloc (.cells #[u] T)) := by
  obtain ⟨i, hi, hz0, hz1, hz2⟩ := info_parts L_info
  refine wp_append hgd s x _ _ ho base 25 i _ 1 24 Try.underlying32 hi hz0 hz1 hz2 rfl v vs.length vs hs (hown.alloc _) (.slice (some ⟨w.heap.size, 0, none⟩) 1 1) 1 [u] hx
    (Rd.src _ Try.underlying32 (by omega) (Rd.one w u T) (by simpa using hu)) (by omega) (by omega) (by simp; omega) ?_
  intro v' w' h1 h2 h3
  refine h v' w' h1 ⟨h2.os, h2.tape, h2.output, ?_, fun k hk hne => (h2.block k (by simp; omega) hne).trans (Below.heap_alloc _ _ _ hk)⟩ (by simpa using h3)
  have := h2.size
  simp at this; omega
end laws
theorem OwB.take {w : World} {base g n cap : Nat} {l : List UInt8} (h : OwB w base (.slice (some ⟨g, 0, none⟩) n cap) l) {m : Nat} (hm : m ≤ n) : OwB w base (.slice (some ⟨g, 0, none⟩) m cap) (l.take m) := by
  have hn := h.len
  rcases h.2 with ⟨h, _⟩ | ⟨g', cap', cs, hv, hb, hg, h1, h2, h3, h4⟩
  · cases h
  · injection hv with hA _ hc
    injection hA with hA
    injection hA with hA
    subst hA
    subst hc
    have hl : (l.take m).length = m := by simp; omega
    unfold OwB
    rw [hl]
    refine ⟨by rw [bvs_length, hl]; omega, .inr ⟨g, cap, cs, rfl, hb, hg, by omega, h2, h3, ?_⟩⟩
    rw [bvs_take, ← h4, List.take_take]
    congr 1; omega
theorem Own.oblk {w : World} {base g : Nat} {T : TypeId} {size n : Nat} {v : Value} {xs : List Value} (h : Own w base T size v n xs) (hg : v.ownBlock = some g) : ∃ cs, OBlk w g T cs := by
  rcases h.2 with ⟨rfl, _⟩ | ⟨g', cap', cs, rfl, hb, ho, _⟩
  · simp [Value.ownBlock] at hg
  · simp [Value.ownBlock] at hg
    subst hg
    exact ⟨cs, ho⟩
theorem OwB.cap_eq {w : World} {b b' g n n' c c' : Nat} {l l' : List UInt8} (h : OwB w b (.slice (some ⟨g, 0, none⟩) n c) l) (h' : OwB w b' (.slice (some ⟨g, 0, none⟩) n' c') l') : c = c' := by
  rcases h.2 with ⟨h, _⟩ | ⟨g1, c1, cs1, hv, _, hg, _, _, h3, _⟩
  · cases h
  rcases h'.2 with ⟨h, _⟩ | ⟨g2, c2, cs2, hv', _, hg', _, _, h3', _⟩
  · cases h
  injection hv with hA _ hc
  injection hA with hA
  injection hA with hA
  injection hv' with hB _ hd
  injection hB with hB
  injection hB with hB
  subst hA; subst hc; subst hB; subst hd
  obtain ⟨_, rfl⟩ := hg.same hg'
  omega
/-- A slice of bytes and a slice of slices lie apart. -/
theorem OwB.ne_own {w : World} {b b' g : Nat} {u v : Value} {l : List UInt8} {n : Nat} {vs : List Value} (h : OwB w b u l) (h' : Own w b' 25 1 v n vs) (hg : v.ownBlock = some g) : some g ≠ u.ownBlock := by
  obtain ⟨cs, ho⟩ := h'.oblk hg
  exact h.ne_blk ho (by decide)
end Go.Proofs.Ytgnhakgfgdelpaa
