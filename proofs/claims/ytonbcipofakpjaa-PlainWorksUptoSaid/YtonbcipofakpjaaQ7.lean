/- Texts joined: Slices of cells; Slices of cells; plain.Page's Insert, Set, Remove beside the document's; plain.Page.refused; A row of cells -/
import Derived.Test.YtonbcipofakpjaaQ3
import Derived.Test.YtonbcipofakpjaaQ5
import Derived.Test.YtonbcipofakpjaaQ6
import Derived.Laws.Slices
import Derived.Lib.AppendZeros
import Derived.Lib.Overlaps
-- Slices of cells: pieces of them, append of pieces, cells made and stored.
namespace Go.Proofs.Ytonbcipofakpjaa
open Go.RowKit
theorem mul_sub_five (a b : Nat) : (a - b) * 5 = a * 5 - b * 5 := by omega
theorem flatC_take (l : List CV) : ∀ n, flatC (l.take n) = (flatC l).take (n * 5) := by
  intro n
  have h : flatC l = flatC (l.take n) ++ flatC (l.drop n) := by rw [← flatC_append, List.take_append_drop]
  by_cases hn : n ≤ l.length
  · rw [h, List.take_left']
    rw [flatC_length, List.length_take]; omega
  · rw [List.take_of_length_le (by omega), List.take_of_length_le (by rw [flatC_length]; omega)]
theorem flatC_drop (l : List CV) : ∀ n, flatC (l.drop n) = (flatC l).drop (n * 5) := by
  intro n
  have h : flatC l = flatC (l.take n) ++ flatC (l.drop n) := by rw [← flatC_append, List.take_append_drop]
  by_cases hn : n ≤ l.length
  · rw [h, List.drop_left']
    rw [flatC_length, List.length_take]; omega
  · rw [List.drop_of_length_le (by omega), List.drop_of_length_le (by rw [flatC_length]; omega)]; rfl
theorem Rd.cut5 {w : World} {A : Option Addr} {n c lo hi : Nat} {xs : List Value} (h : Rd w 5 (.slice A n c) n xs) (hlo : lo ≤ hi) (hhi : hi ≤ n) :
    Rd w 5 (.slice (if c = lo then A else A.map (·.add (lo * 5))) (hi - lo) (c - lo)) (hi - lo) ((xs.take (hi * 5)).drop (lo * 5)) := by
  obtain ⟨hl, A', c', hv, h1, h2, h3⟩ := h
  injection hv with hA _ hc
  subst hA; subst hc
  refine ⟨by simp only [List.length_drop, List.length_take]; omega, _, _, rfl, by omega, by omega, fun j u hj => ?_⟩
  rw [List.getElem?_drop, List.getElem?_take] at hj
  split at hj
  · obtain ⟨ad, rfl, hc⟩ := h3 _ _ hj
    rw [if_neg (by omega)]
    exact ⟨ad.add (lo * 5), rfl, by rw [add_of_add]; exact hc⟩
  · cases hj
theorem RdCs.cut {w : World} {A : Option Addr} {n c lo hi : Nat} {l : List CV} (h : RdCs w (.slice A n c) l) (hlo : lo ≤ hi) (hhi : hi ≤ l.length) :
    RdCs w (.slice (if c = lo then A else A.map (·.add (lo * 5))) (hi - lo) (c - lo)) ((l.take hi).drop lo) := by
  have hn : n = l.length := by
    obtain ⟨_, A', c', hv, _⟩ := h.form
    injection hv
  subst hn
  refine ⟨?_, fun x hx => h.ok x (List.mem_of_mem_take (List.mem_of_mem_drop hx))⟩
  have e : ((l.take hi).drop lo).length = hi - lo := by simp; omega
  rw [e, flatC_drop, flatC_take]
  exact h.form.cut5 hlo hhi
theorem RdCs.len {w : World} {A : Option Addr} {n c : Nat} {l : List CV} (h : RdCs w (.slice A n c) l) : n = l.length ∧ l.length ≤ c ∧ c ≤ 9223372036854775807 := by
  obtain ⟨_, A', c', hv, h1, h2, _⟩ := h.form
  injection hv with _ hn hc
  subst hc
  simp only [maxLen] at h2
  exact ⟨hn, h1, h2⟩
theorem Cell_elem : Try.prog.underlying 25 = some (.slice (Try.prog.elem 25)) := by kernel_rfl
theorem Cell_sizeOf (w : World) : (sizeOf (Try.prog.elem 25)).run Try.prog w = .ok 5 w := by
  have he : Try.prog.elem 25 = 32 := by kernel_rfl
  rw [he]
  obtain ⟨i, hi, hz0, hz1, hz2⟩ := info_parts cell_info
  simp [sizeOf, typeInfo, hi, hz1]
/-- x[lo:hi] -/
theorem RdCs.run_lh {w : World} {A : Option Addr} {n c : Nat} {l : List CV} (h : RdCs w (.slice A n c) l) (lo hi : Nat) (h1 : lo ≤ hi) (h2 : hi ≤ l.length) :
    ∃ A' c', (∀ w', (Instr.slice 25 (.slice A n c) (some (.int .i64 (lo : Int))) (some (.int .i64 (hi : Int))) none).run Try.prog w' = .ok (.slice A' (hi - lo) c') w') ∧ RdCs w (.slice A' (hi - lo) c') ((l.take hi).drop lo) := by
  obtain ⟨_, hc, _⟩ := h.len
  refine ⟨_, _, fun w' => ?_, h.cut h1 h2⟩
  have := run_slice_lh (P := Try.prog) w' 25 A n c Cell_elem .i64 .i64 lo hi (by omega) (by omega) (by omega)
  rw [this, Cell_sizeOf]
  simp [Result.andThen, sliced]
theorem RdCs.run_l {w : World} {A : Option Addr} {n c : Nat} {l : List CV} (h : RdCs w (.slice A n c) l) (lo : Nat) (h1 : lo ≤ l.length) :
    ∃ A' c', (∀ w', (Instr.slice 25 (.slice A n c) (some (.int .i64 (lo : Int))) none none).run Try.prog w' = .ok (.slice A' (l.length - lo) c') w') ∧ RdCs w (.slice A' (l.length - lo) c') (l.drop lo) := by
  obtain ⟨rfl, hc, _⟩ := h.len
  have hr := h.cut h1 (Nat.le_refl _)
  rw [List.take_length] at hr
  refine ⟨_, _, fun w' => ?_, hr⟩
  have := run_slice_l (P := Try.prog) w' 25 A l.length c Cell_elem .i64 lo (by omega) (by omega)
  rw [this, Cell_sizeOf]
  simp [Result.andThen, sliced]
theorem RdCs.run_h {w : World} {A : Option Addr} {n c : Nat} {l : List CV} (h : RdCs w (.slice A n c) l) (hi : Nat) (h2 : hi ≤ l.length) :
    ∃ A' c', (∀ w', (Instr.slice 25 (.slice A n c) none (some (.int .i64 (hi : Int))) none).run Try.prog w' = .ok (.slice A' hi c') w') ∧ RdCs w (.slice A' hi c') (l.take hi) := by
  obtain ⟨_, hc, _⟩ := h.len
  have hr := h.cut (Nat.zero_le hi) h2
  rw [List.drop_zero, Nat.sub_zero] at hr
  refine ⟨_, _, fun w' => ?_, hr⟩
  have := run_slice_h (P := Try.prog) w' 25 A n c Cell_elem .i64 hi (by omega) (by omega)
  rw [this, Cell_sizeOf]
  simp [Result.andThen, sliced]
theorem RdB.oneC {w : World} {v : Value} {l : List UInt8} (h : RdB w v l) : v.oneCell' = true := by
  obtain ⟨A, c, rfl, _⟩ := h.form
  rfl
theorem CV.ok.one {w : World} {x : CV} (h : x.ok w) : ∀ u ∈ x.cells, u.oneCell' = true := by
  intro u hu
  simp only [CV.cells, List.mem_cons, List.not_mem_nil, or_false] at hu
  rcases hu with rfl | rfl | rfl | rfl | rfl
  · exact h.k.oneC
  · rfl
  · exact h.v.oneC
  · rfl
  · rfl
theorem flatC_one {w : World} {l : List CV} (h : ∀ x ∈ l, x.ok w) : ∀ u ∈ flatC l, u.oneCell' = true := by
  intro u hu
  obtain ⟨x, hx, hux⟩ := List.mem_flatMap.1 hu
  exact (h x hx).one u hux
/-- A list of the call's own, of cells that are read. -/
structure OwL (w : World) (base : Nat) (v : Value) (l : List CV) : Prop where
  own : Own w base 32 5 v l.length (flatC l)
  ok : ∀ x ∈ l, x.ok w
theorem OwL.nil (w : World) (base : Nat) : OwL w base (.slice none 0 0) [] := ⟨Own.nil _ _ _ _, by simp⟩
theorem OwL.rd {w : World} {base : Nat} {v : Value} {l : List CV} (h : OwL w base v l) : RdCs w v l := ⟨h.own.rd, h.ok⟩
theorem OwL.below {w w' : World} {base : Nat} {v : Value} {l : List CV} (h : OwL w base v l) (hb : Below w.heap.size w w') : OwL w' base v l :=
  ⟨Own.below' h.own hb (Nat.le_refl _), fun x hx => (h.ok x hx).below hb⟩
section laws
variable {w : World} {ops : Array Oper} {rest : List Oper} {o : Oper} {a : Act} {Q : Exit → Act → World → Prop}
/-- append(l, m...) of cells. -/
theorem wp_append_C (hgd : o.guard = none) (s x : Operand)
    (ho : o.op = .call { callee := .builtin .append, args := #[s, x], argTypes := #[25, 25] })
    (base : Nat) (v : Value) (l : List CV) (hs : a.eval s = v) (hown : Own w base 32 5 v l.length (flatC l))
    (vx : Value) (m : List CV) (hx : a.eval x = vx) (hr : Rd w 5 vx m.length (flatC m)) (h1 : ∀ u ∈ flatC m, u.oneCell' = true) (hsm : (l.length + m.length) * 72 ≤ 140737488355328) (hbase : base ≤ w.heap.size)
    (h : ∀ v' w', Own w' base 32 5 v' (l ++ m).length (flatC (l ++ m)) → w.grownBy w' v.ownBlock → (v'.ownBlock = v.ownBlock ∨ v'.ownBlock = some w.heap.size) → wpList Try.prog ops Q rest (a.put o.dst v') w') :
    wpList Try.prog ops Q (o :: rest) a w := by
  obtain ⟨i, hi, hz0, hz1, hz2⟩ := info_parts cell_info
  refine wp_append hgd s x _ _ ho base 32 i _ 5 72 Try.underlying25 hi hz0 hz1 hz2 rfl v l.length (flatC l) hs hown vx m.length (flatC m) hx (Rd.src w Try.underlying25 (by omega) hr h1) hsm (by omega) hbase ?_
  intro v' w' h1 h2 h3
  refine h v' w' ?_ h2 h3
  rw [List.length_append, flatC_append]
  exact h1
end laws
/-- A cell of nothing but a kind. -/
def markCV (k : Int) : CV := ⟨.slice none 0 0, .slice none 0 0, ⟨[], k, [], 0, 0⟩⟩
theorem flat_made (n : Nat) : (madeCells #[.slice none 0 0, .int .i64 0, .slice none 0 0, .int .i64 0, .int .i64 0] (n * 5)).toList = flatC (List.replicate n (markCV 0)) := by
  refine List.ext_getElem? fun p => ?_
  by_cases hp : p < n * 5
  · have hi : p / 5 < (List.replicate n (markCV 0)).length := by rw [List.length_replicate]; omega
    have h := flatC_at (List.replicate n (markCV 0)) (p / 5) (p % 5) hi (by omega)
    rw [show p / 5 * 5 + p % 5 = p by omega] at h
    rw [h, List.getElem_replicate]
    unfold madeCells
    rw [Array.getElem?_toList, Array.getElem?_map]
    rw [Array.getElem?_range, if_pos (by omega)]
    have h5 : p % 5 = 0 ∨ p % 5 = 1 ∨ p % 5 = 2 ∨ p % 5 = 3 ∨ p % 5 = 4 := by omega
    show some (#[Value.slice none 0 0, .int .i64 0, .slice none 0 0, .int .i64 0, .int .i64 0][p % 5]!) = _
    rcases h5 with e | e | e | e | e <;> rw [e] <;> rfl
  · rw [List.getElem?_eq_none (by simp [size_madeCells]; omega), List.getElem?_eq_none (by rw [flatC_length, List.length_replicate]; omega)]
theorem flat_set : ∀ (L : List CV) (i : Nat) (_ : i < L.length) (x : CV),
    (((((flatC L).set (i * 5) x.kv).set (i * 5 + 1) (.int .i64 x.c.kind)).set (i * 5 + 2) x.vv).set (i * 5 + 3) (.int .i64 x.c.page)).set (i * 5 + 4) (.int .i64 x.c.count) = flatC (L.set i x)
  | y :: s, 0, _, x => by
    have e : flatC (y :: s) = y.cells ++ flatC s := rfl
    rw [e]
    rfl
  | y :: s, i + 1, hi, x => by
    have e : flatC (y :: s) = y.kv :: .int .i64 y.c.kind :: y.vv :: .int .i64 y.c.page :: .int .i64 y.c.count :: flatC s := rfl
    have ih := flat_set s i (by simpa using hi) x
    have e2 : flatC ((y :: s).set (i + 1) x) = y.kv :: .int .i64 y.c.kind :: y.vv :: .int .i64 y.c.page :: .int .i64 y.c.count :: flatC (s.set i x) := rfl
    rw [e, e2, ← ih, show (i + 1) * 5 = i * 5 + 1 + 1 + 1 + 1 + 1 by omega]
    simp only [List.set_cons_succ, Nat.add_assoc, Nat.reduceAdd]
section laws
variable {w : World} {ops : Array Oper} {rest : List Oper} {o : Oper} {a : Act} {Q : Exit → Act → World → Prop}
theorem wp_make_C (hg : o.guard = none) (l c : Operand) (hop : o.op = Op.makeSlice 25 l c)
    (L : Int) (n : Nat) (hl : a.eval l = .int .i64 L) (hc : a.eval c = .int .i64 L) (hL : L = (n : Int)) (hn : n * 72 ≤ 281474976710656)
    (hK : ∀ w', OBlk w' w.heap.size 32 (flatC (List.replicate n (markCV 0))) → Below w.heap.size w w' → w'.heap.size = w.heap.size + 1 → wpList Try.prog ops Q rest (a.put o.dst (.slice (some ⟨w.heap.size, 0, none⟩) n n)) w') :
    wpList Try.prog ops Q (o :: rest) a w := by
  obtain ⟨i, hi, hz0, hz1, hz2⟩ := info_parts cell_info
  refine wpList_plain hg fun K hK' => ?_
  have hr := run_make (P := Try.prog) w 25 32 i _ Try.underlying25 hi hz0 .i64 .i64 n n (by omega) (by omega) (by rw [hz2]; omega) (by omega)
  subst hL
  unfold Oper.wp
  simp [execOp, hop, hl, hc, hr, Result.andThen]
  refine hK' _ _ (hK _ ?_ ((Below.refl _ _).alloc (Nat.le_refl _) _) (by simp))
  have e := flat_made n
  have := OBlk.new w 32 (madeCells #[.slice none 0 0, .int .i64 0, .slice none 0 0, .int .i64 0, .int .i64 0] (n * 5))
  rw [e] at this
  simpa [Value.cells, hz1] using this
end laws
theorem set5C {w : World} {g : Nat} {L : List CV} (h : OBlk w g 32 (flatC L)) (k : Nat) (hk : k < L.length) (x : CV) :
    OBlk (((((w.setCell ⟨g, k * 5, none⟩ x.kv).setCell ⟨g, k * 5 + 1, none⟩ (.int .i64 x.c.kind)).setCell ⟨g, k * 5 + 2, none⟩ x.vv).setCell ⟨g, k * 5 + 3, none⟩ (.int .i64 x.c.page)).setCell ⟨g, k * 5 + 4, none⟩ (.int .i64 x.c.count)) g 32 (flatC (L.set k x)) := by
  rw [← flat_set L k hk x]
  exact ((((h.set (k * 5) x.kv).set (k * 5 + 1) (.int .i64 x.c.kind)).set (k * 5 + 2) x.vv).set (k * 5 + 3) (.int .i64 x.c.page)).set (k * 5 + 4) (.int .i64 x.c.count)
theorem grown5 (w : World) (g k : Nat) (a b c d e : Value) : w.grownBy (((((w.setCell ⟨g, k * 5, none⟩ a).setCell ⟨g, k * 5 + 1, none⟩ b).setCell ⟨g, k * 5 + 2, none⟩ c).setCell ⟨g, k * 5 + 3, none⟩ d).setCell ⟨g, k * 5 + 4, none⟩ e) (some g) :=
  grownBy_trans (grownBy_trans (grownBy_trans (grownBy_trans (grownBy_setCell _ _ _) (grownBy_setCell _ _ _)) (grownBy_setCell _ _ _)) (grownBy_setCell _ _ _)) (grownBy_setCell _ _ _)
theorem cellsC {w : World} {g : Nat} {L : List CV} (h : OBlk w g 32 (flatC L)) (k : Nat) (hk : k < L.length) :
    w.cell? ⟨g, k * 5, none⟩ = some L[k].kv ∧ w.cell? ⟨g, k * 5 + 1, none⟩ = some (.int .i64 L[k].c.kind) ∧ w.cell? ⟨g, k * 5 + 2, none⟩ = some L[k].vv ∧ w.cell? ⟨g, k * 5 + 3, none⟩ = some (.int .i64 L[k].c.page) ∧ w.cell? ⟨g, k * 5 + 4, none⟩ = some (.int .i64 L[k].c.count) :=
  ⟨h.cell' (j := k * 5) (flatC_at L k 0 hk (by omega)), h.cell' (j := k * 5 + 1) (flatC_at L k 1 hk (by omega)), h.cell' (j := k * 5 + 2) (flatC_at L k 2 hk (by omega)), h.cell' (j := k * 5 + 3) (flatC_at L k 3 hk (by omega)), h.cell' (j := k * 5 + 4) (flatC_at L k 4 hk (by omega))⟩
theorem frozC {w : World} {g : Nat} {L : List CV} (h : OBlk w g 32 (flatC L)) (k : Nat) (hk : k < L.length) :
    w.frozen? ⟨g, k * 5, none⟩ = false ∧ w.frozen? ⟨g, k * 5 + 1, none⟩ = false ∧ w.frozen? ⟨g, k * 5 + 2, none⟩ = false ∧ w.frozen? ⟨g, k * 5 + 3, none⟩ = false ∧ w.frozen? ⟨g, k * 5 + 4, none⟩ = false :=
  ⟨h.frozen (by rw [flatC_length]; omega), h.frozen (by rw [flatC_length]; omega), h.frozen (by rw [flatC_length]; omega), h.frozen (by rw [flatC_length]; omega), h.frozen (by rw [flatC_length]; omega)⟩
end Go.Proofs.Ytonbcipofakpjaa

-- Slices of cells: pieces of them, append of pieces.
namespace Go.Proofs.Ytonbcipofakpjaa
open Go.RowKit
/-! ### a key's place among rising ones -/
def Rising (l : List PC) : Prop := l.Pairwise (fun a b => ordC a.key b.key < 0)
theorem ordC_flip : ∀ (a b : List UInt8), ordC a b < 0 ∨ ordC a b = 0 ∨ ordC b a < 0
  | [], [] => by simp [ordC]
  | _ :: _, [] => by simp [ordC]
  | [], _ :: _ => by simp [ordC]
  | x :: a, y :: b => by
    by_cases h1 : x < y
    · exact .inl (by rw [ordC_lt h1]; omega)
    · by_cases h2 : y < x
      · exact .inr (.inr (by rw [ordC_lt h2]; omega))
      · have e : x = y := by
          rw [UInt8.lt_iff_toNat_lt] at h1 h2
          exact UInt8.toNat_inj.mp (by omega)
        subst e
        rw [ordC_same, ordC_same]
        exact ordC_flip a b
theorem rise_ins {c : PC} {l : List PC} (hs : Rising l) (hne : ∀ x ∈ l, x.key ≠ c.key) : Rising (l.take (findF c.key l) ++ (c :: l.drop (findF c.key l))) := by
  have hd : Rising (l.take (findF c.key l) ++ l.drop (findF c.key l)) := by rw [List.take_append_drop]; exact hs
  have hlo : ∀ x ∈ l.take (findF c.key l), ordC x.key c.key < 0 := by
    intro x hx
    obtain ⟨j, hj, rfl⟩ := List.getElem_of_mem hx
    rw [List.length_take] at hj
    rw [List.getElem_take]
    exact find_lt (by omega) (by omega)
  have hhi : ∀ x ∈ l.drop (findF c.key l), ordC c.key x.key < 0 := by
    intro x hx
    obtain ⟨j, hj, rfl⟩ := List.getElem_of_mem hx
    rw [List.length_drop] at hj
    rw [List.getElem_drop]
    have h1 := find_ge hs (j := findF c.key l + j) (key := c.key) (by omega) (by omega)
    rcases ordC_flip l[findF c.key l + j].key c.key with h | h | h
    · exact absurd h h1
    · exact absurd (ordC_eq _ _ h) (hne _ (List.getElem_mem _))
    · exact h
  unfold Rising at hd ⊢
  rw [List.pairwise_append] at hd ⊢
  refine ⟨hd.1, List.pairwise_cons.2 ⟨hhi, hd.2.1⟩, fun x hx y hy => ?_⟩
  rcases List.mem_cons.1 hy with rfl | hy
  · exact hlo x hx
  · exact hd.2.2 x hx y hy
theorem scan_rise {kind : Int} {P : Nat} : ∀ {l : List PC} {p : Option (List UInt8)}, (∀ c ∈ l, mayP kind P c = true) → (∀ q, p = some q → ∀ c ∈ l, ordC q c.key < 0) → Rising l → scanE kind P p l = 0
  | [], _, _, _, _ => rfl
  | c :: r, p, hm, hp, hs => by
    have hs' := List.pairwise_cons.1 hs
    rw [scanE, if_neg (by rw [hm c (by simp)]; simp)]
    have ha : afterP p c.key = true := by
      cases p with
      | none => rfl
      | some q => exact decide_eq_true (hp q rfl c (by simp))
    rw [if_neg (by rw [ha]; simp)]
    exact scan_rise (fun d hd => hm d (by simp [hd])) (fun q hq d hd => by injection hq with hq; subst hq; exact hs'.1 d hd) hs'.2
/-- One cell that may be is a page. -/
theorem enc_one {kind : Int} {P : Nat} {c : PC} (hP : 512 ≤ P) : encE kind [c] P = if mayP kind P c = true then 0 else 62 := by
  by_cases hm : mayP kind P c = true
  · rw [if_pos hm]
    refine encE_zero.2 ⟨scan_rise (by simpa using hm) (by simp) (by simp [Rising]), ?_⟩
    have h := may_ok hm
    have h1 := h.k0
    have h2 := h.v0
    simp only [sizeF]
    unfold longF
    split
    · have := (h2 (by assumption)).1; omega
    · omega
  · rw [if_neg hm]
    have h62 : scanE kind P none [c] = 62 := by rw [scanE, if_pos (by simpa using hm)]
    unfold encE
    rw [h62]; rfl
theorem enc_three {kind : Int} {P : Nat} {l : List PC} (hP : 512 ≤ P) (hl : l.length ≤ 3) (hm : ∀ c ∈ l, mayP kind P c = true) (hs : Rising l) : encE kind l P = 0 := by
  refine encE_zero.2 ⟨scan_rise hm (by simp) hs, ?_⟩
  have key : ∀ l : List PC, (∀ c ∈ l, mayP kind P c = true) → sizeF l ≤ 8 + l.length * (8 + 5 * (P / 16)) := by
    intro l
    induction l with
    | nil => simp [sizeF]
    | cons c r ih =>
      intro hm
      have h := may_ok (hm c (by simp))
      have h1 := h.k0
      have h2 := h.v0
      have ih' := ih fun d hd => hm d (by simp [hd])
      have hc : longF c ≤ 6 + 5 * (P / 16) := by
        unfold longF
        split
        · have := (h2 (by assumption)).1; omega
        · omega
      simp only [sizeF, List.length_cons, Nat.add_mul, Nat.one_mul]
      omega
  have h1 := key l hm
  have h2 : l.length * (8 + 5 * (P / 16)) ≤ 3 * (8 + 5 * (P / 16)) := Nat.mul_le_mul_right _ hl
  omega
end Go.Proofs.Ytonbcipofakpjaa

-- plain.Page's Insert, Set, Remove beside the document's: plain laws.
namespace Go.Proofs.Ytonbcipofakpjaa
/-- c in the place of so many from i on. -/
def withF (l : List PC) (i gone : Nat) (c : PC) : List PC := l.take i ++ (c :: l.drop (i + gone))
theorem rising_adj (l : List PC) : Rising l ↔ ∀ k (h : k + 1 < l.length), ordC (l[k]'(by omega)).key l[k + 1].key < 0 := by
  refine ⟨fun h k hk => List.pairwise_iff_getElem.1 h k (k + 1) (by omega) hk (by omega), fun h => List.pairwise_iff_getElem.2 fun i j hi hj hij => ?_⟩
  obtain ⟨d, rfl⟩ : ∃ d, j = i + 1 + d := ⟨j - (i + 1), by omega⟩
  induction d with
  | zero => exact h i hj
  | succ d ih => exact ordC_trans _ _ _ (ih (by omega) (by omega)) (h (i + 1 + d) (by omega))
theorem Rising.at_ {l : List PC} (h : Rising l) {i j : Nat} (hij : i < j) (hj : j < l.length) : ordC (l[i]'(by omega)).key l[j].key < 0 := List.pairwise_iff_getElem.1 h i j (by omega) hj hij
theorem with_rises {l : List PC} {i gone : Nat} {c : PC} (hs : Rising l) (hi : i + gone ≤ l.length) :
    Rising (withF l i gone c) ↔ (∀ h : 0 < i, ordC (l[i - 1]'(by omega)).key c.key < 0) ∧ (∀ h : i + gone < l.length, ordC c.key l[i + gone].key < 0) := by
  constructor
  · intro h
    unfold Rising withF at h
    rw [List.pairwise_append, List.pairwise_cons] at h
    obtain ⟨-, ⟨h2, -⟩, h4⟩ := h
    refine ⟨fun h => h4 _ ?_ c (by simp), fun h => h2 _ ?_⟩
    · exact List.mem_take_iff_getElem.2 ⟨i - 1, by omega, rfl⟩
    · rw [List.drop_eq_getElem_cons h]; exact List.mem_cons_self ..
  · rintro ⟨ha, hb⟩
    have hlo : ∀ x ∈ l.take i, ordC x.key c.key < 0 := by
      intro x hx
      obtain ⟨j, hj, rfl⟩ := List.getElem_of_mem hx
      rw [List.length_take] at hj
      rw [List.getElem_take]
      by_cases e : j = i - 1
      · subst e; exact ha (by omega)
      · exact ordC_trans _ _ _ (hs.at_ (i := j) (j := i - 1) (by omega) (by omega)) (ha (by omega))
    have hhi : ∀ x ∈ l.drop (i + gone), ordC c.key x.key < 0 := by
      intro x hx
      obtain ⟨j, hj, rfl⟩ := List.getElem_of_mem hx
      rw [List.length_drop] at hj
      rw [List.getElem_drop]
      by_cases e : j = 0
      · subst e; exact hb (by omega)
      · exact ordC_trans _ _ _ (hb (by omega)) (hs.at_ (i := i + gone) (j := i + gone + j) (by omega) (by omega))
    unfold Rising withF
    rw [List.pairwise_append, List.pairwise_cons]
    refine ⟨hs.sublist (List.take_sublist _ _), ⟨hhi, hs.sublist (List.drop_sublist _ _)⟩, fun x hx y hy => ?_⟩
    rcases List.mem_cons.1 hy with rfl | hy
    · exact hlo x hx
    · exact ordC_trans _ _ _ (hlo x hx) (hhi y hy)
theorem with_ins_size (l : List PC) {i : Nat} (c : PC) (hi : i ≤ l.length) : sizeF (withF l i 0 c) = sizeF l + (2 + longF c) := by
  have e : longsF l = longsF (l.take i) + longsF (l.drop i) := by rw [← longsF_append, List.take_append_drop]
  unfold withF
  rw [sizeF_eq, sizeF_eq, longsF_append]
  simp only [longsF, List.length_append, List.length_cons, List.length_take, List.length_drop, Nat.add_zero]
  omega
theorem with_set_size (l : List PC) {i : Nat} (c : PC) (hi : i < l.length) : sizeF (withF l i 1 c) + (2 + longF l[i]) = sizeF l + (2 + longF c) := by
  have e : longsF l = longsF (l.take i) + longsF (l.drop i) := by rw [← longsF_append, List.take_append_drop]
  have e2 : longsF (l.drop i) = longF l[i] + longsF (l.drop (i + 1)) := by rw [List.drop_eq_getElem_cons hi]; rfl
  unfold withF
  rw [sizeF_eq, sizeF_eq, longsF_append]
  simp only [longsF, List.length_append, List.length_cons, List.length_take, List.length_drop]
  omega
theorem rem_size (l : List PC) {i : Nat} (hi : i < l.length) : sizeF (l.take i ++ l.drop (i + 1)) + (2 + longF l[i]) = sizeF l := by
  have e : longsF l = longsF (l.take i) + longsF (l.drop i) := by rw [← longsF_append, List.take_append_drop]
  have e2 : longsF (l.drop i) = longF l[i] + longsF (l.drop (i + 1)) := by rw [List.drop_eq_getElem_cons hi]; rfl
  rw [sizeF_eq, sizeF_eq, longsF_append]
  simp only [List.length_append, List.length_take, List.length_drop]
  omega
/-- A page that is worked on. -/
structure Wk (kind : Int) (P : Nat) (l : List PC) : Prop where
  rise : Rising l
  may : ∀ c ∈ l, mayP kind P c = true
  size : sizeF l ≤ P
theorem Wk.enc {kind : Int} {P : Nat} {l : List PC} (h : Wk kind P l) : encE kind l P = 0 := encE_zero.2 ⟨scan_rise h.may (by simp) h.rise, h.size⟩
theorem Wk.rem {kind : Int} {P : Nat} {l : List PC} (h : Wk kind P l) {i : Nat} (hi : i < l.length) : Wk kind P (l.take i ++ l.drop (i + 1)) := by
  refine ⟨?_, fun c hc => ?_, by have := rem_size l hi; have := h.size; omega⟩
  · have e : l.take i ++ l.drop (i + 1) = l.eraseIdx i := (List.eraseIdx_eq_take_drop_succ l i).symm
    rw [e]
    exact h.rise.sublist (List.eraseIdx_sublist _ _)
  · rcases List.mem_append.1 hc with hc | hc
    · exact h.may c (List.mem_of_mem_take hc)
    · exact h.may c (List.mem_of_mem_drop hc)
def leftO (l : List PC) (i : Nat) (c : PC) : Int := if h : 0 < i ∧ i - 1 < l.length then ordC (l[i - 1]'h.2).key c.key else -1
def rightO (l : List PC) (j : Nat) (c : PC) : Int := if h : j < l.length then ordC c.key l[j].key else -1
theorem leftO_zero (l : List PC) (c : PC) : leftO l 0 c = -1 := by unfold leftO; rw [dif_neg (by omega)]
theorem leftO_succ {l : List PC} {k : Nat} (c : PC) (h : k < l.length) : leftO l (k + 1) c = ordC l[k].key c.key := by unfold leftO; rw [dif_pos ⟨by omega, by omega⟩]; rfl
theorem rightO_in {l : List PC} {j : Nat} (c : PC) (h : j < l.length) : rightO l j c = ordC c.key l[j].key := by unfold rightO; rw [dif_pos h]
theorem rightO_end {l : List PC} {j : Nat} (c : PC) (h : l.length ≤ j) : rightO l j c = -1 := by unfold rightO; rw [dif_neg (by omega)]
/-- What Insert (gone 0) and Set (gone 1) tell, at a place that is there. -/
def putE (kind : Int) (P : Nat) (l : List PC) (i gone : Nat) (c : PC) : Int :=
  if mayP kind P c = false then 62
  else if 0 ≤ leftO l i c ∨ 0 ≤ rightO l (i + gone) c then 63
  else if P < sizeF (withF l i gone c) then 61 else 0
theorem Wk.put {kind : Int} {P : Nat} {l : List PC} (h : Wk kind P l) {i gone : Nat} {c : PC} (hi : i + gone ≤ l.length) (h0 : putE kind P l i gone c = 0) : Wk kind P (withF l i gone c) := by
  unfold putE at h0
  split at h0
  · cases h0
  · rename_i hm
    split at h0
    · cases h0
    · rename_i ho
      split at h0
      · cases h0
      · rename_i hz
        refine ⟨(with_rises h.rise hi).2 ⟨fun h1 => ?_, fun h1 => ?_⟩, fun d hd => ?_, by omega⟩
        · have : ¬ _ := fun e => ho (.inl e)
          unfold leftO at this
          rw [dif_pos ⟨h1, by omega⟩] at this
          omega
        · have : ¬ _ := fun e => ho (.inr e)
          unfold rightO at this
          rw [dif_pos h1] at this
          omega
        · unfold withF at hd
          rcases List.mem_append.1 hd with hd | hd
          · exact h.may d (List.mem_of_mem_take hd)
          · rcases List.mem_cons.1 hd with rfl | hd
            · simpa using hm
            · exact h.may d (List.mem_of_mem_drop hd)
/-- What Insert and Set tell and leave, at any place. -/
def insZ (kind : Int) (P : Nat) (l : List PC) (i : Int) (gone : Nat) (c : PC) : Int := if i < 0 ∨ (l.length : Int) - gone < i then 64 else putE kind P l i.toNat gone c
def insL (kind : Int) (P : Nat) (l : List PC) (i : Int) (gone : Nat) (c : PC) : List PC := if insZ kind P l i gone c = 0 then withF l i.toNat gone c else l
theorem insL_ne {kind : Int} {P : Nat} {l : List PC} {i : Int} {gone : Nat} {c : PC} (h : insZ kind P l i gone c ≠ 0) : insL kind P l i gone c = l := if_neg h
theorem insL_eq {kind : Int} {P : Nat} {l : List PC} {i : Int} {gone : Nat} {c : PC} (h : insZ kind P l i gone c = 0) : insL kind P l i gone c = withF l i.toNat gone c := if_pos h
theorem insZ_out {kind : Int} {P : Nat} {l : List PC} {i : Int} {gone : Nat} {c : PC} (h : i < 0 ∨ (l.length : Int) - gone < i) : insZ kind P l i gone c = 64 := if_pos h
theorem insZ_in {kind : Int} {P : Nat} {l : List PC} {i gone : Nat} {c : PC} (h : i + gone ≤ l.length) : insZ kind P l (i : Int) gone c = putE kind P l i gone c := by
  unfold insZ
  rw [if_neg (by omega)]; rfl
theorem putE_zero_may {kind : Int} {P : Nat} {l : List PC} {i gone : Nat} {c : PC} (h : putE kind P l i gone c = 0) : mayP kind P c = true := by
  unfold putE at h
  split at h
  · cases h
  · rename_i hm; simpa using hm
theorem putE_ins {kind : Int} {P : Nat} {l : List PC} {i : Nat} {c : PC} (hi : i ≤ l.length) : putE kind P l i 0 c = if mayP kind P c = false then 62 else if 0 ≤ leftO l i c ∨ 0 ≤ rightO l i c then 63 else if (P : Int) < (sizeF l : Nat) - 0 + 2 + (longF c : Int) then 61 else 0 := by
  unfold putE
  rw [with_ins_size l c hi]
  simp only [Nat.add_zero]
  congr 2
  congr 1
  exact propext ⟨fun h => by omega, fun h => by omega⟩
theorem putE_set {kind : Int} {P : Nat} {l : List PC} {i : Nat} {c : PC} (hi : i < l.length) : putE kind P l i 1 c = if mayP kind P c = false then 62 else if 0 ≤ leftO l i c ∨ 0 ≤ rightO l (i + 1) c then 63 else if (P : Int) < (sizeF l : Nat) - (2 + (longF l[i] : Int)) + 2 + (longF c : Int) then 61 else 0 := by
  unfold putE
  have := with_set_size l c hi
  congr 2
  congr 1
  exact propext ⟨fun h => by omega, fun h => by omega⟩
theorem Wk.ins {kind : Int} {P : Nat} {l : List PC} (h : Wk kind P l) (i : Int) (gone : Nat) (c : PC) : Wk kind P (insL kind P l i gone c) := by
  by_cases hz : insZ kind P l i gone c = 0
  · rw [insL_eq hz]
    have hin : ¬ (i < 0 ∨ (l.length : Int) - gone < i) := fun e => by rw [insZ_out e] at hz; cases hz
    unfold insZ at hz
    rw [if_neg hin] at hz
    exact h.put (by omega) hz
  · rw [insL_ne hz]; exact h
/-- What Remove tells and leaves. -/
def remZ (l : List PC) (i : Int) : Int := if i < 0 ∨ (l.length : Int) ≤ i then 64 else 0
def remL (l : List PC) (i : Int) : List PC := if i < 0 ∨ (l.length : Int) ≤ i then l else l.take i.toNat ++ l.drop (i.toNat + 1)
theorem Wk.del {kind : Int} {P : Nat} {l : List PC} (h : Wk kind P l) (i : Int) : Wk kind P (remL l i) := by
  unfold remL
  split
  · exact h
  · exact h.rem (by omega)
/-- What Cell tells. -/
def cellZ (l : List PC) (i : Int) : Int := if i < 0 ∨ (l.length : Int) ≤ i then 64 else 0
def cellC (l : List PC) (i : Int) : PC := if i < 0 ∨ (l.length : Int) ≤ i then ⟨[], 0, [], 0, 0⟩ else l.getD i.toNat ⟨[], 0, [], 0, 0⟩
theorem Wk.len {kind : Int} {P : Nat} {l : List PC} (h : Wk kind P l) (hP : P ≤ 65536) : l.length ≤ 32768 := by
  have := h.size
  rw [sizeF_eq] at this
  omega
end Go.Proofs.Ytonbcipofakpjaa

-- plain.Page.refused: the walk.
namespace Go.Proofs.Ytonbcipofakpjaa
open Go.RowKit
theorem RdCs.key_at {w : World} {A : Option Addr} {m c i : Nat} {l : List CV} (h : RdCs w (.slice A m c) l) (hi : i < l.length) :
    ∃ ad B b, A = some ad ∧ w.cell? (ad.add (i * 5)) = some (.slice B l[i].c.key.length b) ∧ RdB w (.slice B l[i].c.key.length b) l[i].c.key := by
  obtain ⟨ad, rfl, c0, -⟩ := h.at_ hi
  have hx := (h.ok _ (List.getElem_mem hi)).k
  obtain ⟨B, b, he, -⟩ := hx.form
  rw [he] at hx c0
  exact ⟨ad, B, b, rfl, c0, hx⟩
set_option maxRecDepth 100000 in
set_option maxHeartbeats 2000000 in
theorem refused_any {w : World} {p : Nat} {kind : Int} {P : Nat} {used : Int} {v : Value} {l : List CV} (h : PgAt w p kind P used v l) (hP : P ≤ 65536) (x : CV) (hx : x.ok w) (hxl : x.c.key.length + x.c.val.length ≤ 4611686018427387904) (i j : Nat) (hi : i ≤ l.length) (hj : j ≤ l.length) (less : Int) (hu : 0 ≤ used) (hu2 : used ≤ 65536) (hless : 0 ≤ less) (hless2 : less ≤ 65536) :
    Calls Try.prog 69 #[.pointer (some ⟨p, 0, none⟩), .int .i64 (i : Int), .int .i64 (j : Int), cellV x, .int .i64 less] w fun e w' =>
      e = .returned (.int .i64 (if mayP kind P x.c = false then 62 else if 0 ≤ leftO (pcs l) i x.c ∨ 0 ≤ rightO (pcs l) j x.c then 63 else if (P : Int) < used - less + 2 + (longF x.c : Int) then 61 else 0)) ∧ Below w.heap.size w w' := by
  have hlq : mayP kind P x.c = true → longF x.c ≤ 65536 := fun hm => longF_le (may_ok hm) hP
  obtain ⟨A, ca, B, cb, key, ck, val, pg, ct, rfl, hk1, hk2⟩ := CV.form hx
  obtain ⟨L, lc, rfl, hm, hc⟩ := h.rd.slice
  have hA : Below w.heap.size w (w.alloc (.cells #[.slice A key.length ca, .int .i64 ck, .slice B val.length cb, .int .i64 pg, .int .i64 ct] 32)) := (Below.refl _ _).alloc (Nat.le_refl _) _
  have hC := OBlk.new' w 32 [.slice A key.length ca, .int .i64 ck, .slice B val.length cb, .int .i64 pg, .int .i64 ct]
  have hB := h.blk.alloc (.cells #[.slice A key.length ca, .int .i64 ck, .slice B val.length cb, .int .i64 pg, .int .i64 ct] 32)
  have hx1 := hx.below hA
  have hL := h.rd.below hA
  have hma := fun W => may_any ⟨.slice A key.length ca, .slice B val.length cb, ⟨key, ck, val, pg, ct⟩⟩ kind P hP W
  have hlo := fun W => long_any ⟨.slice A key.length ca, .slice B val.length cb, ⟨key, ck, val, pg, ct⟩⟩ W
  have hkv' : key.length + val.length ≤ 9223372036854775000 := by have : key.length + val.length ≤ 4611686018427387904 := hxl; omega
  unfold cellV at hma hlo ⊢
  have hlo2 : ∀ W, CV.ok W ⟨.slice A key.length ca, .slice B val.length cb, ⟨key, ck, val, pg, ct⟩⟩ → Calls Try.prog 53 #[.agg #[.slice A key.length ca, .int .i64 ck, .slice B val.length cb, .int .i64 pg, .int .i64 ct]] W fun e w' => e = .returned (.int .i64 (longF ⟨key, ck, val, pg, ct⟩ : Nat)) ∧ Below W.heap.size W w' := fun W hW => hlo W hW hkv'
  have HM := Lib.hid hma
  have HL := Lib.hid hlo2
  obtain ⟨lO, hlO⟩ : ∃ q, leftO (pcs l) i ⟨key, ck, val, pg, ct⟩ = q := ⟨_, rfl⟩
  obtain ⟨rO, hrO⟩ : ∃ q, rightO (pcs l) j ⟨key, ck, val, pg, ct⟩ = q := ⟨_, rfl⟩
  obtain ⟨mB, hmB⟩ : ∃ q, mayP kind P ⟨key, ck, val, pg, ct⟩ = q := ⟨_, rfl⟩
  have hlq' : mB = true → longF ⟨key, ck, val, pg, ct⟩ ≤ 65536 := by rw [← hmB]; exact hlq
  show Calls Try.prog _ _ w fun e w' => e = .returned (.int .i64 (if mayP kind P ⟨key, ck, val, pg, ct⟩ = false then 62 else if 0 ≤ leftO (pcs l) i ⟨key, ck, val, pg, ct⟩ ∨ 0 ≤ rightO (pcs l) j ⟨key, ck, val, pg, ct⟩ then 63 else if (P : Int) < used - less + 2 + (longF ⟨key, ck, val, pg, ct⟩ : Int) then 61 else 0)) ∧ Below w.heap.size w w'
  rw [hlO, hrO, hmB]
  have HLO : Hid ((i = 0 ∧ lO = -1) ∨ ∃ k, i = k + 1 ∧ ∃ h : k < l.length, lO = ordC l[k].c.key key) := Lib.hid (by
    rcases Nat.eq_zero_or_pos i with e | e
    · exact .inl ⟨e, by rw [← hlO, e, leftO_zero]⟩
    · obtain ⟨k, rfl⟩ : ∃ k, i = k + 1 := ⟨i - 1, by omega⟩
      refine .inr ⟨k, rfl, by omega, ?_⟩
      rw [← hlO, leftO_succ _ (by rw [pcs_length]; omega), pcs_at (by omega)])
  have HRO : Hid ((j = l.length ∧ rO = -1) ∨ ∃ h : j < l.length, rO = ordC key l[j].c.key) := Lib.hid (by
    by_cases e : j < l.length
    · refine .inr ⟨e, ?_⟩
      rw [← hrO, rightO_in _ (by rw [pcs_length]; omega), pcs_at e]
    · exact .inl ⟨by omega, by rw [← hrO, rightO_end _ (by rw [pcs_length]; omega)]⟩)
  have HXK := Lib.hid hx1.k
  clear hlo hma hlo2 h hx hlq hxl hlO hrO
  have hpl := hB.lt
  obtain ⟨Z, hZ⟩ : ∃ Z : Int, (if mB = false then 62 else if 0 ≤ lO ∨ 0 ≤ rO then 63 else if (P : Int) < used - less + 2 + (longF ⟨key, ck, val, pg, ct⟩ : Int) then 61 else 0) = Z := ⟨_, rfl⟩
  rw [hZ]
  have HZ := Lib.hid hZ
  clear hZ
  generalize longF ⟨key, ck, val, pg, ct⟩ = lo at *
  go_enter Try.func69, Try.ntmps69
  go_upto_region 1 with (fail)
  generalize (w.alloc (.cells #[.slice A key.length ca, .int .i64 ck, .slice B val.length cb, .int .i64 pg, .int .i64 ct] 32)) = w1 at *
  obtain ⟨c0, c1, c2, c3, c4⟩ := cells5 hC
  obtain ⟨b0, b1, b2, b3⟩ := cells4 hB
  have hcl := hC.lt
  go_cut [11] (fun s wx => s = .bool (!mB) ∧ Below w1.heap.size w1 wx)
  case first =>
    go_region_held3 (fun w' => w'.cell? ⟨w.heap.size, 0, none⟩ = some (.slice A key.length ca) ∧ w'.cell? ⟨w.heap.size, 1, none⟩ = some (.int .i64 ck) ∧ w'.cell? ⟨w.heap.size, 2, none⟩ = some (.slice B val.length cb) ∧ w'.cell? ⟨w.heap.size, 3, none⟩ = some (.int .i64 pg) ∧ w'.cell? ⟨w.heap.size, 4, none⟩ = some (.int .i64 ct) ∧ w'.cell? ⟨p, 0, none⟩ = some (.int .i64 kind) ∧ w'.cell? ⟨p, 1, none⟩ = some (.int .i64 (P : Int)))
      (first
        | exact ⟨c0, c1, c2, c3, c4, b0, b1⟩
        | (obtain ⟨d0, d1, d2, d3, d4⟩ := cells5 (hC.drew.below hw2 hcl); obtain ⟨f0, f1, _, _⟩ := cells4 (hB.drew.below hw2 hpl); exact ⟨d0, d1, d2, d3, d4, f0, f1⟩))
      (first
        | (go_at_call 50; refine (HM.out _ (hx1.below ((Below.refl _ _).drew))).mono ?_; rw [hmB]; rintro e w2 ⟨rfl, hw2⟩)
        | fail)
    go_wp2_with fail
    go_meet
    exact ⟨rfl, (Below.refl _ _).drew.trans hw2⟩
  case rest =>
    obtain ⟨rfl, hw2⟩ := hcut
    have hB2 := hB.below hw2 hpl
    have hA2 := hA.trans (hw2.mono hA.size)
    cases mB with
    | false =>
      have e : Z = 62 := by rw [← HZ.out]; rfl
      subst e
      go_wp2_with fail
      go_ret
      exact ⟨rfl, hA2⟩
    | true =>
      have hC2 := hC.below hw2 hcl
      have hx2 := hx1.below hw2
      have hL2 := hL.below hw2
      have hxk2 := HXK.out.below hw2 (Nat.le_refl _)
      have hlo1 : lo ≤ 65536 := hlq' rfl
      clear c0 c1 c2 c3 c4 b0 b1 b2 b3 hC hB hx1 hL hA hw2 hlq'
      obtain ⟨c0, c1, c2, c3, c4⟩ := cells5 hC2
      obtain ⟨b0, b1, b2, b3⟩ := cells4 hB2
      have hcl2 := hC2.lt
      have hpl2 := hB2.lt
      go_upto_region 3 with (fail)
      go_cut [23] (fun s wx => s = .bool (decide (0 ≤ lO)) ∧ Below wc.heap.size wc wx)
      case first =>
        rcases HLO.out with ⟨rfl, rfl⟩ | ⟨k, rfl, hk, rfl⟩
        · go_region
          go_wp2_with fail
          go_meet
          exact ⟨rfl, (Below.refl _ _).drew⟩
        · obtain ⟨ad, K, kc, rfl, q0, hkr⟩ := hL2.key_at hk
          have j1 : (0 : Int) ≤ (k : Int) := by omega
          have j2 : (k : Int) < (l.length : Int) := by omega
          have j4 : IntKind.i64.wrap (k : Int) = (k : Int) := by rw [IntKind.wrap_i64]; omega
          have j5 : (0 : Int) < (k : Int) + 1 := by omega
          have hcmp := fun m => Compare_any _ _ _ _ (wc.drewN m) (show RdB (wc.drewN m) _ _ from hkr) (show RdB (wc.drewN m) _ _ from hxk2)
          simp only at hcmp
          have HCM := Lib.hid hcmp
          clear hcmp
          generalize ordC l[k].c.key key = oc at *
          generalize l[k].c.key = lk at *
          go_region_held3 (fun w' => w'.cell? (ad.add (k * 5)) = some (.slice K lk.length kc) ∧ w'.cell? ⟨w.heap.size, 0, none⟩ = some (.slice A key.length ca) ∧ w'.cell? ⟨p, 3, none⟩ = some (.slice (some ad) l.length lc))
            (first | exact ⟨q0, c0, b3⟩)
            (first
              | (go_at_call 51; refine (HCM.out 1).mono ?_; rintro e w7 ⟨rfl, rfl⟩)
              | fail)
          go_wp2_with fail
          go_meet
          exact ⟨rfl, (Below.refl _ _).drew⟩
      case rest =>
        obtain ⟨rfl, hw3⟩ := hcut
        have hC3 := hC2.below hw3 hcl2
        have hB3 := hB2.below hw3 hpl2
        have hA3 := hA2.trans (hw3.mono hA2.size)
        by_cases hlO : 0 ≤ lO
        · rw [show decide (0 ≤ lO) = true from decide_eq_true hlO]
          have e : Z = 63 := by rw [← HZ.out, if_neg (by simp), if_pos (Or.inl hlO)]
          subst e
          clear hlO
          go_wp2_with fail
          go_ret
          exact ⟨rfl, hA3⟩
        · have hx3 := hx2.below hw3
          have hL3 := hL2.below hw3
          have hxk3 := hxk2.below hw3 (Nat.le_refl _)
          rw [show decide (0 ≤ lO) = false from decide_eq_false hlO]
          have H1 := Lib.hid hlO
          clear c0 c1 c2 c3 c4 b0 b1 b2 b3 hC2 hB2 hx2 hL2 hA2 hw3 hlO HLO hxk2
          obtain ⟨c0, c1, c2, c3, c4⟩ := cells5 hC3
          obtain ⟨b0, b1, b2, b3⟩ := cells4 hB3
          have hcl3 := hC3.lt
          have hpl3 := hB3.lt
          go_upto_region 4 with (fail)
          go_cut [23] (fun s wx => s = .bool (decide (0 ≤ rO)) ∧ Below wc.heap.size wc wx)
          case first =>
            rcases HRO.out with ⟨rfl, rfl⟩ | ⟨hj2, rfl⟩
            · have j5 : ¬ (l.length : Int) < (l.length : Int) := by omega
              go_region
              go_wp2_with fail
              go_meet
              exact ⟨rfl, (Below.refl _ _).drew⟩
            · obtain ⟨ad, K, kc, rfl, q0, hkr⟩ := hL3.key_at hj2
              have j1 : (0 : Int) ≤ (j : Int) := by omega
              have j2 : (j : Int) < (l.length : Int) := by omega
              have hcmp := fun m => Compare_any _ _ _ _ (wc.drewN m) (show RdB (wc.drewN m) _ _ from hxk3) (show RdB (wc.drewN m) _ _ from hkr)
              simp only at hcmp
              have HCM := Lib.hid hcmp
              clear hcmp
              generalize ordC key l[j].c.key = oc at *
              generalize l[j].c.key = lk at *
              go_region_held3 (fun w' => w'.cell? (ad.add (j * 5)) = some (.slice K lk.length kc) ∧ w'.cell? ⟨w.heap.size, 0, none⟩ = some (.slice A key.length ca) ∧ w'.cell? ⟨p, 3, none⟩ = some (.slice (some ad) l.length lc))
                (first | exact ⟨q0, c0, b3⟩)
                (first
                  | (go_at_call 51; refine (HCM.out 1).mono ?_; rintro e w7 ⟨rfl, rfl⟩)
                  | fail)
              go_wp2_with fail
              go_meet
              exact ⟨rfl, (Below.refl _ _).drew⟩
          case rest =>
            obtain ⟨rfl, hw4⟩ := hcut
            have hC4 := hC3.below hw4 hcl3
            have hB4 := hB3.below hw4 hpl3
            have hA4 := hA3.trans (hw4.mono hA3.size)
            by_cases hrO : 0 ≤ rO
            · rw [show decide (0 ≤ rO) = true from decide_eq_true hrO]
              have e : Z = 63 := by rw [← HZ.out, if_neg (by simp), if_pos (Or.inr hrO)]
              subst e
              clear hrO
              go_wp2_with fail
              go_ret
              exact ⟨rfl, hA4⟩
            · have hx4 := hx3.below hw4
              rw [show decide (0 ≤ rO) = false from decide_eq_false hrO]
              have H2 := Lib.hid hrO
              clear c0 c1 c2 c3 c4 b0 b1 b2 b3 hC3 hB3 hx3 hL3 hA3 hw4 hrO HRO hxk3
              obtain ⟨c0, c1, c2, c3, c4⟩ := cells5 hC4
              obtain ⟨b0, b1, b2, b3⟩ := cells4 hB4
              have hcl4 := hC4.lt
              have hpl4 := hB4.lt
              have i1 : IntKind.i64.wrap (used - less) = used - less := by rw [IntKind.wrap_i64]; omega
              have i2 : IntKind.i64.wrap (used - less + 2) = used - less + 2 := by rw [IntKind.wrap_i64]; omega
              have i3 : IntKind.i64.wrap (used - less + 2 + (lo : Int)) = used - less + 2 + (lo : Int) := by rw [IntKind.wrap_i64]; omega
              go_upto_region 6 with (fail)
              go_region_held3 (fun w' => w'.cell? ⟨w.heap.size, 0, none⟩ = some (.slice A key.length ca) ∧ w'.cell? ⟨w.heap.size, 1, none⟩ = some (.int .i64 ck) ∧ w'.cell? ⟨w.heap.size, 2, none⟩ = some (.slice B val.length cb) ∧ w'.cell? ⟨w.heap.size, 3, none⟩ = some (.int .i64 pg) ∧ w'.cell? ⟨w.heap.size, 4, none⟩ = some (.int .i64 ct) ∧ w'.cell? ⟨p, 1, none⟩ = some (.int .i64 (P : Int)) ∧ w'.cell? ⟨p, 2, none⟩ = some (.int .i64 used))
                (first
                  | exact ⟨c0, c1, c2, c3, c4, b1, b2⟩
                  | (obtain ⟨d0, d1, d2, d3, d4⟩ := cells5 (OBlk.below (w := wc.drew) hC4 hw5 hcl4); obtain ⟨_, f1, f2, _⟩ := cells4 (OBlk.below (w := wc.drew) hB4 hw5 hpl4); exact ⟨d0, d1, d2, d3, d4, f1, f2⟩))
                (first
                  | (go_at_call 53; refine (HL.out _ (hx4.below ((Below.refl _ _).drew))).mono ?_; rintro e w5 ⟨rfl, hw5⟩)
                  | fail)
              have hA5 := hA4.trans (((Below.refl wc.heap.size wc).drew.trans hw5).mono hA4.size)
              by_cases hz : (P : Int) < used - less + 2 + (lo : Int)
              · have e : Z = 61 := by rw [← HZ.out, if_neg (by simp), if_neg (fun e => by have h1 := H1.out; have h2 := H2.out; omega), if_pos hz]
                subst e
                go_wp2_with fail
                go_ret
                exact ⟨rfl, hA5⟩
              · have e : Z = 0 := by rw [← HZ.out, if_neg (by simp), if_neg (fun e => by have h1 := H1.out; have h2 := H2.out; omega), if_neg hz]
                subst e
                go_wp2_with fail
                go_ret
                exact ⟨rfl, hA5⟩
end Go.Proofs.Ytonbcipofakpjaa

-- A row of cells: copies within it, zeros behind it, cleared; where slices of it lie.
namespace Go.Proofs.Ytonbcipofakpjaa
open Go.RowKit
set_option maxRecDepth 100000
abbrev cz : Value := .agg #[.slice none 0 0, .int .i64 0, .slice none 0 0, .int .i64 0, .int .i64 0]
theorem run_copy_5 (w : World) (ty : TypeId) (g : Nat) (T' : TypeId) (cs : List Value) (hg : OBlk w g T' cs)
    (dA : Option Addr) (dLen dCap off : Nat) (hd : 0 < dLen → dA = some ⟨g, off, none⟩) (hfit : off + dLen * 5 ≤ cs.length)
    (vx : Value) (m : Nat) (news : List Value) (hr : Rd w 5 vx m news) (h1 : ∀ u ∈ news.take (min m dLen * 5), u.oneCell' = true) :
    (Builtin.copy_ #[25, 25] ty #[.slice dA dLen dCap, vx]).run Try.prog w = .ok (goInt (min m dLen : Nat)) (w.setCells g off (news.take (min m dLen * 5))) := by
  obtain ⟨i, hi, hz0, hz1, hz2⟩ := info_parts cell_info
  obtain ⟨hl, A, c, rfl, hc1, hc2, hcells⟩ := hr
  have hmin : Nat.min m dLen = min m dLen := rfl
  by_cases h0 : min m dLen = 0
  · rw [h0]
    have hl0 : ∀ (x : Addr), (loadCells x 0).run Try.prog w = .ok #[] w := fun x => by simpa using run_loadCells_list (P := Try.prog) w x [] (by simp)
    cases dA <;> cases A <;> simp [Builtin.copy_, run_underlying Try.underlying25, sizeOf, typeInfo, hi, hz1, Builtin.lenOf, hmin, h0, Builtin.firstCells, storeCells, hl0, World.setCells]
  · obtain rfl := hd (by omega)
    obtain ⟨a, rfl, _⟩ := hcells 0 _ (List.getElem?_eq_getElem (by omega))
    have hnews : ∀ j u, (news.take (min m dLen * 5))[j]? = some u → w.cell? (a.add j) = some u := fun j u hj => by
      rw [List.getElem?_take] at hj
      split at hj
      · obtain ⟨a', he, h⟩ := hcells j u hj
        injection he with he
        subst he; exact h
      · cases hj
    have hlen : (news.take (min m dLen * 5)).length = min m dLen * 5 := by rw [List.length_take]; omega
    have hf := run_firstCells_some (P := Try.prog) w 5 (min m dLen) a m c (news.take (min m dLen * 5)) hlen hnews
    have hst := run_storeCells_cells (P := Try.prog) g off (news.take (min m dLen * 5)) 0 w
      (fun j hj => by rw [hg.cell]; simp; omega) (fun j hj => hg.frozen (by omega)) h1
    simp only [Nat.add_zero] at hst
    simp [Builtin.copy_, run_underlying Try.underlying25, sizeOf, typeInfo, hi, hz1, Builtin.lenOf, hmin, hf, hst]
section laws
variable {w : World} {ops : Array Oper} {rest : List Oper} {o : Oper} {a : Act} {Q : Exit → Act → World → Prop}
theorem wp_copy_5 (hgd : o.guard = none) (d s : Operand)
    (ho : o.op = .call { callee := .builtin .copy, args := #[d, s], argTypes := #[25, 25] })
    (g : Nat) (T' : TypeId) (cs : List Value) (hg : OBlk w g T' cs) (dA : Option Addr) (dLen dCap off : Nat) (hd' : a.eval d = .slice dA dLen dCap) (hd : 0 < dLen → dA = some ⟨g, off, none⟩) (hfit : off + dLen * 5 ≤ cs.length)
    (vx : Value) (m : Nat) (news : List Value) (hx : a.eval s = vx) (hr : Rd w 5 vx m news) (h1 : ∀ u ∈ news.take (min m dLen * 5), u.oneCell' = true)
    (h : ∀ w', OBlk w' g T' (splice cs off (news.take (min m dLen * 5))) → w.grownBy w' (some g) → wpList Try.prog ops Q rest (a.put o.dst (goInt (min m dLen : Nat))) w') : wpList Try.prog ops Q (o :: rest) a w := by
  refine wpList_plain hgd fun K hK => ?_
  have hrun := run_copy_5 w o.type g T' cs hg dA dLen dCap off hd hfit vx m news hr h1
  have hl := hr.1
  unfold Oper.wp
  simp [execOp, ho, resolve, invoke, builtin, hd', hx, hrun, Result.andThen]
  refine hK _ _ (h _ (OBlk.setCells _ _ _ _ hg ?_) (grownBy_setCells _ _ _ _))
  rw [List.length_take]; omega
theorem step_copy_5 {K : Act → World → Prop} {E : Prop} (hgd : o.guard = none) (d s : Operand)
    (ho : o.op = .call { callee := .builtin .copy, args := #[d, s], argTypes := #[25, 25] })
    (g : Nat) (T' : TypeId) (cs : List Value) (hg : OBlk w g T' cs) (dA : Option Addr) (dLen dCap off : Nat) (hd' : a.eval d = .slice dA dLen dCap) (hd : 0 < dLen → dA = some ⟨g, off, none⟩) (hfit : off + dLen * 5 ≤ cs.length)
    (vx : Value) (m : Nat) (news : List Value) (hx : a.eval s = vx) (hr : Rd w 5 vx m news) (h1 : ∀ u ∈ news.take (min m dLen * 5), u.oneCell' = true)
    (h : ∀ w', OBlk w' g T' (splice cs off (news.take (min m dLen * 5))) → w.grownBy w' (some g) → K (a.put o.dst (goInt (min m dLen : Nat))) w') :
    if Region.wanted o (yielded ops a.tmps) = true then Oper.wp Try.prog o a w K Q else E := by
  have hw : Region.wanted o (yielded ops a.tmps) = true := by simp [Region.wanted, hgd]
  rw [if_pos hw]
  have hrun := run_copy_5 w o.type g T' cs hg dA dLen dCap off hd hfit vx m news hr h1
  have hl := hr.1
  unfold Oper.wp
  simp [execOp, ho, resolve, invoke, builtin, hd', hx, hrun, Result.andThen]
  refine h _ (OBlk.setCells _ _ _ _ hg ?_) (grownBy_setCells _ _ _ _)
  rw [List.length_take]; omega
end laws
/-! ### where a slice of a row lies -/
theorem sl_h (g n c hi : Nat) (h : hi ≤ c) (w : World) : (Instr.slice 25 (.slice (some ⟨g, 0, none⟩) n c) none (some (.int .i64 (hi : Int))) none).run Try.prog w = .ok (.slice (some ⟨g, 0, none⟩) hi c) w := by
  have := run_slice_h (P := Try.prog) w 25 (some ⟨g, 0, none⟩) n c Cell_elem .i64 hi (by omega) (by omega)
  rw [this, Cell_sizeOf]
  simp [Result.andThen, sliced, Addr.add]
@[irreducible] def slA (g c lo : Nat) : Addr := if c = lo then ⟨g, 0, none⟩ else ⟨g, lo * 5, none⟩
theorem slA_eq {g c lo : Nat} (h : lo < c) : slA g c lo = ⟨g, lo * 5, none⟩ := by unfold slA; exact if_neg (by omega)
theorem slA_block (g c lo : Nat) : (slA g c lo).block = g := by unfold slA; split <;> rfl
theorem slA_zero (g c : Nat) : slA g c 0 = ⟨g, 0, none⟩ := by unfold slA; split <;> rfl
theorem slA_run (g c lo : Nat) : (if c = lo then (some ⟨g, 0, none⟩ : Option Addr) else some ((⟨g, 0, none⟩ : Addr).add (lo * 5))) = some (slA g c lo) := by
  unfold slA
  split
  · rfl
  · rw [add_row, Nat.zero_add]
theorem sl_l (g n c lo : Nat) (h : lo ≤ n) (w : World) : (Instr.slice 25 (.slice (some ⟨g, 0, none⟩) n c) (some (.int .i64 (lo : Int))) none none).run Try.prog w = .ok (.slice (some (slA g c lo)) (n - lo) (c - lo)) w := by
  have := run_slice_l (P := Try.prog) w 25 (some ⟨g, 0, none⟩) n c Cell_elem .i64 lo (by omega) (by omega)
  rw [this, Cell_sizeOf, ← slA_run]
  simp [Result.andThen, sliced]
theorem sl_lO (A : Option Addr) (n c lo : Nat) (h : lo ≤ n) : ∃ X, ∀ w, (Instr.slice 25 (.slice A n c) (some (.int .i64 (lo : Int))) none none).run Try.prog w = .ok (.slice X (n - lo) (c - lo)) w := by
  refine ⟨if c = lo then A else A.map (·.add (lo * 5)), fun w => ?_⟩
  have := run_slice_l (P := Try.prog) w 25 A n c Cell_elem .i64 lo (by omega) (by omega)
  rw [this, Cell_sizeOf]
  simp [Result.andThen, sliced]
theorem sl_lh (g n c lo hi : Nat) (h : lo ≤ hi) (h2 : hi ≤ c) (w : World) : (Instr.slice 25 (.slice (some ⟨g, 0, none⟩) n c) (some (.int .i64 (lo : Int))) (some (.int .i64 (hi : Int))) none).run Try.prog w = .ok (.slice (some (slA g c lo)) (hi - lo) (c - lo)) w := by
  have := run_slice_lh (P := Try.prog) w 25 (some ⟨g, 0, none⟩) n c Cell_elem .i64 .i64 lo hi (by omega) (by omega) (by omega)
  rw [this, Cell_sizeOf, ← slA_run]
  simp [Result.andThen, sliced]
theorem sl_lhm (g n c lo hi mx : Nat) (h : lo ≤ hi) (h2 : hi ≤ mx) (h3 : mx ≤ c) (w : World) : (Instr.slice 25 (.slice (some ⟨g, 0, none⟩) n c) (some (.int .i64 (lo : Int))) (some (.int .i64 (hi : Int))) (some (.int .i64 (mx : Int)))).run Try.prog w = .ok (.slice (some (slA g mx lo)) (hi - lo) (mx - lo)) w := by
  have := run_slice_lhm (P := Try.prog) w 25 (some ⟨g, 0, none⟩) n c Cell_elem .i64 .i64 .i64 lo hi mx (by omega) (by omega) (by omega) (by omega)
  rw [this, Cell_sizeOf, ← slA_run]
  simp [Result.andThen, sliced]
theorem OBlk.rd5 {w : World} {g c lo m : Nat} {T : TypeId} {cs : List Value} (h : OBlk w g T cs) (h1 : lo + m ≤ c) (h2 : c * 5 ≤ cs.length) (h3 : c ≤ maxLen) : Rd w 5 (.slice (some (slA g c lo)) m (c - lo)) m ((cs.drop (lo * 5)).take (m * 5)) := by
  refine ⟨by rw [List.length_take, List.length_drop]; omega, _, _, rfl, by omega, by omega, fun j u hj => ⟨_, rfl, ?_⟩⟩
  rw [List.getElem?_take] at hj
  split at hj
  · rename_i hlt
    rw [slA_eq (by omega), add_row, h.cell, ← List.getElem?_drop]
    exact hj
  · cases hj
/-! ### zeros behind a row that must grow -/
theorem run_append_grow_Z5 (w : World) (ty : TypeId) (base : Option Addr) (sLen sCap n : Nat) (olds : List Value) (hold : (Builtin.firstCells 5 sLen (.slice base sLen sCap)).run Try.prog w.drew = .ok olds.toArray w.drew) (h0 : ¬ n = 0) (hg : sCap < sLen + n) (h48 : (sLen + n) * 72 ≤ 140737488355328) :
    (Builtin.append_ #[25, 3] ty #[.slice base sLen sCap, .int .i64 (n : Int)]).run Try.prog w =
      .ok (.slice (some ⟨w.heap.size, 0, none⟩) (sLen + n) (grownCap w (sLen + n) sCap 32)) (w.drew.alloc (.cells ((olds ++ (Builtin.zeroCells cz.cells n).toList).toArray ++ Builtin.zeroCells cz.cells (grownCap w (sLen + n) sCap 32 - (sLen + n))) 32)) := by
  obtain ⟨i, hi, hz0, hz1, hz2⟩ := info_parts cell_info
  have hw : IntKind.i64.wrap (n : Int) = n := by rw [IntKind.wrap_i64]; omega
  have hneg : ¬ ((n : Int) < 0) := by omega
  have h48i : ¬ (281474976710656 < (n : Int) * 72) := by omega
  have hn : ¬ (sLen + n ≤ sCap) := by omega
  have h63' : ¬ (9223372036854775807 < ((sLen : Int) + (n : Int))) := by omega
  have hfit : Builtin.nextslicecap (sLen + n) sCap * 72 ≤ 281474976710656 := growslice_fits (by omega) (by omega)
  have h48' : ¬ (281474976710656 < Builtin.nextslicecap (sLen + n) sCap * 72) := by omega
  have hns : ¬ (n * 5 = 0) := by omega
  simp [hns, Builtin.append_, run_underlying Try.underlying25, run_underlying Try.underlying3, sizeOf, typeInfo, zeroValue, hi, hz0, hz1, hz2, asInt, asIntOf, hw, hneg, h48i, hn, h63', h48', Question.forced, hold, newRow, grownCap, h0]
  congr 2
  apply Array.ext'
  simp [List.append_assoc]
section laws
variable {w : World} {ops : Array Oper} {rest : List Oper} {o : Oper} {a : Act} {Q : Exit → Act → World → Prop}
/-- append(s[:k], make([]Cell, n)...) where that is more than there is room for. -/
theorem wp_append_Z5 (hgd : o.guard = none) (s x : Operand)
    (ho : o.op = .call { callee := .builtin .append, args := #[s, x], argTypes := #[25, 3] })
    (base : Option Addr) (sLen sCap n : Nat) (olds : List Value) (hs : a.eval s = .slice base sLen sCap) (hr : Rd w 5 (.slice base sLen sCap) sLen olds) (X : Int) (hX : X = (n : Int)) (hx : a.eval x = .int .i64 X) (h0 : ¬ n = 0) (hg : sCap < sLen + n) (h48 : (sLen + n) * 72 ≤ 140737488355328) (N : Nat) (hN : sLen + n = N)
    (h : ∀ cap zs w', OBlk w' w.heap.size 32 (olds ++ zs) → N ≤ cap → cap ≤ maxLen → zs.length = (cap - sLen) * 5 → Below w.heap.size w w' → wpList Try.prog ops Q rest (a.put o.dst (.slice (some ⟨w.heap.size, 0, none⟩) N cap)) w') :
    wpList Try.prog ops Q (o :: rest) a w := by
  subst hX hN
  obtain ⟨hl, A, c, hv, hc1, hc2, hcells⟩ := hr
  injection hv with hA hn' hc
  subst hA hc
  have hold : (Builtin.firstCells 5 sLen (.slice base sLen sCap)).run Try.prog w.drew = .ok olds.toArray w.drew := by
    cases base with
    | none =>
      have hs0 : sLen = 0 := by
        rcases Nat.eq_zero_or_pos sLen with e | e
        · exact e
        · obtain ⟨_, he, _⟩ := hcells 0 _ (List.getElem?_eq_getElem (by omega))
          cases he
      subst hs0
      have : olds = [] := List.eq_nil_of_length_eq_zero (by simpa using hl)
      subst this
      simp [Builtin.firstCells]
    | some ad =>
      exact run_firstCells_some w.drew 5 sLen ad sLen sCap olds hl (fun j u hj => by
        obtain ⟨a', he, h⟩ := hcells j u hj
        injection he with he
        subst he; exact h)
  have hrun := run_append_grow_Z5 w o.type base sLen sCap n olds hold h0 hg h48
  have hge := grownCap_ge w (sLen + n) sCap 32
  have hcm : grownCap w (sLen + n) sCap 32 ≤ maxLen := grownCap_le_maxLen w (sLen + n) sCap 32 (by simp only [maxLen]; omega)
  refine Lib.wpList_append_run w hgd s x _ _ ho _ _ hs hx _ _ hrun (h _ ((Builtin.zeroCells cz.cells n).toList ++ (Builtin.zeroCells cz.cells (grownCap w (sLen + n) sCap 32 - (sLen + n))).toList) _ ?_ hge hcm ?_ ?_)
  · have := OBlk.new w.drew 32 ((olds ++ (Builtin.zeroCells cz.cells n).toList).toArray ++ Builtin.zeroCells cz.cells (grownCap w (sLen + n) sCap 32 - (sLen + n)))
    rw [Array.toList_append, List.toList_toArray, List.append_assoc] at this
    exact this
  · rw [List.length_append, Array.length_toList, Array.length_toList, size_zeroCells, size_zeroCells]
    show n * 5 + (grownCap w (sLen + n) sCap 32 - (sLen + n)) * 5 = _
    omega
  · exact ((Below.refl _ _).drew).alloc (Nat.le_refl _) _
end laws
/-! ### a cell cleared -/
theorem run_clear_5 (w : World) (ty : TypeId) (g off c : Nat) (T : TypeId) (cs : List Value) (hg : OBlk w g T cs) (hfit : off + 5 ≤ cs.length) :
    (Builtin.clear_ #[25] ty #[.slice (some ⟨g, off, none⟩) 1 c]).run Try.prog w = .ok (.tuple #[]) (w.setCells g off [.slice none 0 0, .int .i64 0, .slice none 0 0, .int .i64 0, .int .i64 0]) := by
  obtain ⟨i, hi, hz0, hz1, hz2⟩ := info_parts cell_info
  have hz : (Builtin.zeroCells cz.cells 1).toList = [.slice none 0 0, .int .i64 0, .slice none 0 0, .int .i64 0, .int .i64 0] := by kernel_rfl
  have hst := run_storeCells_cells (P := Try.prog) g off [.slice none 0 0, .int .i64 0, .slice none 0 0, .int .i64 0, .int .i64 0] 0 w (fun j hj => by rw [hg.cell]; simp at hj ⊢; omega) (fun j hj => hg.frozen (by simp at hj; omega)) (by simp [Value.oneCell'])
  simp only [Nat.add_zero] at hst
  simp only [cz] at hz
  simp [Builtin.clear_, run_underlying Try.underlying25, zeroValue, typeInfo, hi, hz0, hz, hst]
theorem wp_clear_5 {w : World} {ops : Array Oper} {rest : List Oper} {o : Oper} {a : Act} {Q : Exit → Act → World → Prop} (hgd : o.guard = none) (s : Operand)
    (ho : o.op = .call { callee := .builtin .clear, args := #[s], argTypes := #[25] }) (g off c : Nat) (hs : a.eval s = .slice (some ⟨g, off, none⟩) 1 c) (T : TypeId) (cs : List Value) (hg : OBlk w g T cs) (hfit : off + 5 ≤ cs.length)
    (h : ∀ w', OBlk w' g T (splice cs off [.slice none 0 0, .int .i64 0, .slice none 0 0, .int .i64 0, .int .i64 0]) → w.grownBy w' (some g) → wpList Try.prog ops Q rest (a.put o.dst (.tuple #[])) w') : wpList Try.prog ops Q (o :: rest) a w := by
  refine wpList_plain hgd fun K hK => ?_
  have hrun := run_clear_5 w o.type g off c T cs hg hfit
  unfold Oper.wp
  simp [execOp, ho, resolve, invoke, builtin, hs, hrun, Result.andThen]
  exact hK _ _ (h _ (OBlk.setCells _ _ _ _ hg (by simpa using hfit)) (grownBy_setCells _ _ _ _))
theorem at_clear {P : Program} {w : World} {ops : Array Oper} {rest : List Oper} {a : Act} {Q : Exit → Act → World → Prop} {d : Option Tmp} {x : Operand} {t ty : TypeId} {pos : String} {af : Array Edge} {gd : Option (Nat × Bool)}
    (h : wpList P ops Q ({ dst := d, op := Op.call { callee := Callee.builtin Builtin.clear, args := #[x], argTypes := #[t] }, type := ty, pos := pos, after := af, guard := gd } :: rest) a w) :
    wpList P ops Q ({ dst := d, op := Op.call { callee := Callee.builtin Builtin.clear, args := #[x], argTypes := #[t] }, type := ty, pos := pos, after := af, guard := gd } :: rest) a w := h
end Go.Proofs.Ytonbcipofakpjaa
