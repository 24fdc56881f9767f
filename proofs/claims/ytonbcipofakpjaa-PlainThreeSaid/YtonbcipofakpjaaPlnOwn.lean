/- Owned cells: append; what Decode tells. -/
import Derived.Test.YtonbcipofakpjaaPlnCell
namespace Go.Proofs.Ytonbcipofakpjaa
open Go.RowKit
theorem Rd.five (w : World) (a b c d e : Value) (T : TypeId) : Rd (w.alloc (.cells #[a, b, c, d, e] T)) 5 (.slice (some ⟨w.heap.size, 0, none⟩) 1 1) 1 [a, b, c, d, e] :=
  ⟨by simp, _, _, rfl, Nat.le_refl _, by simp [maxLen], fun j u hj => ⟨_, rfl, by rw [add_row, (OBlk.new w T #[a, b, c, d, e]).cell]; simpa using hj⟩⟩
theorem cell_info : (Try.prog.info? 32).map (fun i => (i.zero, i.size, i.bytes)) = some (some (.agg #[.slice none 0 0, .int .i64 0, .slice none 0 0, .int .i64 0, .int .i64 0]), 5, 72) := by kernel_rfl
theorem Own.ne_Tg {w : World} {b n size : Nat} {v : Value} {xs : List Value} {T T' : TypeId} {g : Nat} {cs : List Value} (h : Own w b T size v n xs) (hg : OBlk w g T' cs) (hT : T ≠ T') : some g ≠ v.ownBlock := by
  rcases h.2 with ⟨rfl, _⟩ | ⟨g', cap, cs', rfl, _, hg', _⟩
  · simp [Value.ownBlock]
  · intro e
    simp [Value.ownBlock] at e
    subst e
    exact (hg'.ne hg hT) rfl
theorem OwB.blkU {w : World} {b : Nat} {v : Value} {l : List UInt8} (h : OwB w b v l) {k : Nat} (hk : v.ownBlock = some k) : ∃ cs, OBlk w k 5 cs := by
  rcases h.2 with ⟨rfl, _⟩ | ⟨g', cap, cs', rfl, _, hg', _⟩
  · simp [Value.ownBlock] at hk
  · simp [Value.ownBlock] at hk
    subst hk
    exact ⟨cs', hg'⟩
/-- What a page says. -/
def isPln (b : List UInt8) (kind : Int) (l : List PC) : Prop := isPowB (b.length : Int) = true ∧ isKindB kind = true ∧ encE kind l b.length = 0 ∧ laidF kind l b.length = b
theorem isPln_parse {b : List UInt8} {kind : Int} {l : List PC} (h : isPln b kind l) : parseF b = some l ∧ kindF b = kind := by
  obtain ⟨h1, h2, h3, h4⟩ := h
  have hP := (isPowB_range h1).2
  have := parse_laid (P := b.length) (by omega) h2 h3
  rw [h4] at this
  exact this
def DecAt (w : World) (b : List UInt8) (e : Ending) (w' : World) : Prop :=
  Below w.heap.size w w' ∧ ((∃ (kind : Int) (l : List CV) (v : Value), isPln b kind (pcs l) ∧ e = .returned (.tuple #[.int .i64 kind, v, .int .i64 0]) ∧ OwCs w' w.heap.size v l) ∨
    ((∀ kind l, ¬ isPln b kind l) ∧ e = .returned (.tuple #[.int .i64 0, .slice none 0 0, .int .i64 60])))
theorem OwCs.nil (w : World) (base : Nat) : OwCs w base (.slice none 0 0) [] := { own := Own.nil _ _ _ _, each := by simp, rng := by simp, apart := by simp }
theorem OwCs.rd {w : World} {base : Nat} {v : Value} {l : List CV} (h : OwCs w base v l) : RdCs w v l :=
  ⟨h.own.rd, fun x hx => { k := (h.each x hx).1.rd, v := (h.each x hx).2.rd, r1 := (h.rng x hx).1, r2 := (h.rng x hx).2.1, r3 := (h.rng x hx).2.2 }⟩
theorem OwCs.below {w w' : World} {base : Nat} {v : Value} {l : List CV} (h : OwCs w base v l) (hb : Below w.heap.size w w') : OwCs w' base v l :=
  { h with own := Own.below' h.own hb (Nat.le_refl _), each := fun x hx => ⟨Own.below' (h.each x hx).1 hb (Nat.le_refl _), Own.below' (h.each x hx).2 hb (Nat.le_refl _)⟩ }
theorem OwCs.snoc {w w1 w2 : World} {base : Nat} {v v' : Value} {l : List CV} {x : CV} (h : OwCs w base v l) (hb : Below w.heap.size w w1) (hbase : base ≤ w.heap.size) (hk : OwB w1 w.heap.size x.kv x.c.key) (hv : OwB w1 w.heap.size x.vv x.c.val)
    (hr : i64r x.c.kind ∧ i64r x.c.page ∧ i64r x.c.count) (ha : ∀ g g', x.kv.ownBlock = some g → x.vv.ownBlock = some g' → g < g') (hg : w1.grownBy w2 v.ownBlock) (ho : Own w2 base 32 5 v' (l.length + 1) (flatC l ++ x.cells)) : OwCs w2 base v' (l ++ [x]) where
  own := by
    have e : flatC (l ++ [x]) = flatC l ++ x.cells := by rw [flatC_append]; simp [flatC]
    rw [e, List.length_append]; exact ho
  each := by
    have hown := Own.below' h.own hb (Nat.le_refl _)
    have step : ∀ {u : Value} {m : List UInt8}, OwB w1 base u m → OwB w2 base u m := fun {u m} hu => Own.grown hu hg fun g hg' e => by
      obtain ⟨cs, hc⟩ := OwB.blkU hu hg'
      exact Own.ne_Tg hown hc (by decide) e
    intro y hy
    rcases List.mem_append.1 hy with hy | hy
    · exact ⟨step (Own.below' (h.each y hy).1 hb (Nat.le_refl _)), step (Own.below' (h.each y hy).2 hb (Nat.le_refl _))⟩
    · rw [List.mem_singleton] at hy
      subst hy
      exact ⟨step (OwB.base_le hk fun g hg' => Nat.le_trans hbase (Own.lt hk g hg').1), step (OwB.base_le hv fun g hg' => Nat.le_trans hbase (Own.lt hv g hg').1)⟩
  rng := by
    intro y hy
    rcases List.mem_append.1 hy with hy | hy
    · exact h.rng y hy
    · rw [List.mem_singleton] at hy
      subst hy; exact hr
  apart := by
    rw [List.flatMap_append, List.filterMap_append, List.pairwise_append]
    refine ⟨h.apart, ?_, ?_⟩
    · simp only [List.flatMap_cons, List.flatMap_nil, List.append_nil]
      cases h1 : x.kv.ownBlock with
      | none => cases h2 : x.vv.ownBlock <;> simp
      | some g => cases h2 : x.vv.ownBlock with
        | none => simp
        | some g' => simpa using ha g g' h1 h2
    · intro g hg1 g' hg2
      have hlt : g < w.heap.size := by
        obtain ⟨o, ho, he⟩ := List.mem_filterMap.1 hg1
        obtain ⟨y, hy, hoy⟩ := List.mem_flatMap.1 ho
        simp only [id] at he
        rcases List.mem_cons.1 hoy with e | e
        · exact (Own.lt (h.each y hy).1 g (by rw [← e, he])).2
        · rw [List.mem_singleton] at e
          exact (Own.lt (h.each y hy).2 g (by rw [← e, he])).2
      have hge : w.heap.size ≤ g' := by
        obtain ⟨o, ho, he⟩ := List.mem_filterMap.1 hg2
        simp only [List.flatMap_cons, List.flatMap_nil, List.append_nil] at ho
        simp only [id] at he
        rcases List.mem_cons.1 ho with e | e
        · exact (Own.lt hk g' (by rw [← e, he])).1
        · rw [List.mem_singleton] at e
          exact (Own.lt hv g' (by rw [← e, he])).1
      omega
theorem cells_one {w : World} {b1 b2 : Nat} {x : CV} (hk : OwB w b1 x.kv x.c.key) (hv : OwB w b2 x.vv x.c.val) : ∀ u ∈ x.cells, u.oneCell' = true := by
  have h : ∀ {b : Nat} {v : Value} {l : List UInt8}, OwB w b v l → v.oneCell' = true := fun {b v l} h => by
    rcases Own.form h with ⟨rfl, _⟩ | ⟨_, _, rfl, _⟩ <;> rfl
  intro u hu
  simp only [CV.cells, List.mem_cons, List.not_mem_nil, or_false] at hu
  rcases hu with rfl | rfl | rfl | rfl | rfl
  · exact h hk
  · rfl
  · exact h hv
  · rfl
  · rfl
set_option maxRecDepth 20000 in
set_option maxHeartbeats 1000000 in
theorem Equal_any (u v : Value) (a b : List UInt8) (w : World) (hu : RdB w u a) (hv : RdB w v b) :
    Calls Try.prog 58 #[u, v] w fun e w' => e = .returned (.bool (a == b)) ∧ w = w' := by
  have q1 := run_B_string hu
  have q2 := run_B_string hv
  obtain ⟨A, c, rfl, _⟩ := hu.form
  obtain ⟨B, d, rfl, _⟩ := hv.form
  go_enter Try.func58, Try.ntmps58
  go_wp2_with fail
  go_ret
  exact ⟨rfl, rfl⟩
end Go.Proofs.Ytonbcipofakpjaa
