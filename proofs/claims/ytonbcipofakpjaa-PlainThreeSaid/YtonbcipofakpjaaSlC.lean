/- Slices of cells: pieces of them, append of pieces. -/
import Derived.Test.YtonbcipofakpjaaPlnAwake
import Derived.Test.YtonbcipofakpjaaLawPTot
import Derived.Test.YtonbcipofakpjaaLawPBack
import Derived.Laws.Slices
namespace Go.Proofs.Ytonbcipofakpjaa
open Go.RowKit
theorem mul_sub_five (a b : Nat) : (a - b) * 5 = a * 5 - b * 5 := by omega
theorem flatC_take (l : List CV) : ∀ n, flatC (l.take n) = (flatC l).take (n * 5) := by
  intro n
  have h : flatC l = flatC (l.take n) ++ flatC (l.drop n) := by rw [← flatC_append, List.take_append_drop]
  by_cases hn : n ≤ l.length
  · rw [h, List.take_left']
    rw [flatC_length, List.length_take]; omega
  · rw [List.take_of_length_le (by omega), List.take_of_length_le (by rw [flatC_length]; omega)]
theorem flatC_drop (l : List CV) : ∀ n, flatC (l.drop n) = (flatC l).drop (n * 5) := by
  intro n
  have h : flatC l = flatC (l.take n) ++ flatC (l.drop n) := by rw [← flatC_append, List.take_append_drop]
  by_cases hn : n ≤ l.length
  · rw [h, List.drop_left']
    rw [flatC_length, List.length_take]; omega
  · rw [List.drop_of_length_le (by omega), List.drop_of_length_le (by rw [flatC_length]; omega)]; rfl
theorem Rd.cut5 {w : World} {A : Option Addr} {n c lo hi : Nat} {xs : List Value} (h : Rd w 5 (.slice A n c) n xs) (hlo : lo ≤ hi) (hhi : hi ≤ n) :
    Rd w 5 (.slice (if c = lo then A else A.map (·.add (lo * 5))) (hi - lo) (c - lo)) (hi - lo) ((xs.take (hi * 5)).drop (lo * 5)) := by
  obtain ⟨hl, A', c', hv, h1, h2, h3⟩ := h
  injection hv with hA _ hc
  subst hA; subst hc
  refine ⟨by simp only [List.length_drop, List.length_take]; omega, _, _, rfl, by omega, by omega, fun j u hj => ?_⟩
  rw [List.getElem?_drop, List.getElem?_take] at hj
  split at hj
  · obtain ⟨ad, rfl, hc⟩ := h3 _ _ hj
    rw [if_neg (by omega)]
    exact ⟨ad.add (lo * 5), rfl, by rw [add_of_add]; exact hc⟩
  · cases hj
theorem RdCs.cut {w : World} {A : Option Addr} {n c lo hi : Nat} {l : List CV} (h : RdCs w (.slice A n c) l) (hlo : lo ≤ hi) (hhi : hi ≤ l.length) :
    RdCs w (.slice (if c = lo then A else A.map (·.add (lo * 5))) (hi - lo) (c - lo)) ((l.take hi).drop lo) := by
  have hn : n = l.length := by
    obtain ⟨_, A', c', hv, _⟩ := h.form
    injection hv
  subst hn
  refine ⟨?_, fun x hx => h.ok x (List.mem_of_mem_take (List.mem_of_mem_drop hx))⟩
  have e : ((l.take hi).drop lo).length = hi - lo := by simp; omega
  rw [e, flatC_drop, flatC_take]
  exact h.form.cut5 hlo hhi
theorem RdCs.len {w : World} {A : Option Addr} {n c : Nat} {l : List CV} (h : RdCs w (.slice A n c) l) : n = l.length ∧ l.length ≤ c ∧ c ≤ 9223372036854775807 := by
  obtain ⟨_, A', c', hv, h1, h2, _⟩ := h.form
  injection hv with _ hn hc
  subst hc
  simp only [maxLen] at h2
  exact ⟨hn, h1, h2⟩
theorem Cell_elem : Try.prog.underlying 25 = some (.slice (Try.prog.elem 25)) := by kernel_rfl
theorem Cell_sizeOf (w : World) : (sizeOf (Try.prog.elem 25)).run Try.prog w = .ok 5 w := by
  have he : Try.prog.elem 25 = 32 := by kernel_rfl
  rw [he]
  obtain ⟨i, hi, hz0, hz1, hz2⟩ := info_parts cell_info
  simp [sizeOf, typeInfo, hi, hz1]
/-- x[lo:hi] -/
theorem RdCs.run_lh {w : World} {A : Option Addr} {n c : Nat} {l : List CV} (h : RdCs w (.slice A n c) l) (lo hi : Nat) (h1 : lo ≤ hi) (h2 : hi ≤ l.length) :
    ∃ A' c', (∀ w', (Instr.slice 25 (.slice A n c) (some (.int .i64 (lo : Int))) (some (.int .i64 (hi : Int))) none).run Try.prog w' = .ok (.slice A' (hi - lo) c') w') ∧ RdCs w (.slice A' (hi - lo) c') ((l.take hi).drop lo) := by
  obtain ⟨_, hc, _⟩ := h.len
  refine ⟨_, _, fun w' => ?_, h.cut h1 h2⟩
  have := run_slice_lh (P := Try.prog) w' 25 A n c Cell_elem .i64 .i64 lo hi (by omega) (by omega) (by omega)
  rw [this, Cell_sizeOf]
  simp [Result.andThen, sliced]
theorem RdCs.run_l {w : World} {A : Option Addr} {n c : Nat} {l : List CV} (h : RdCs w (.slice A n c) l) (lo : Nat) (h1 : lo ≤ l.length) :
    ∃ A' c', (∀ w', (Instr.slice 25 (.slice A n c) (some (.int .i64 (lo : Int))) none none).run Try.prog w' = .ok (.slice A' (l.length - lo) c') w') ∧ RdCs w (.slice A' (l.length - lo) c') (l.drop lo) := by
  obtain ⟨rfl, hc, _⟩ := h.len
  have hr := h.cut h1 (Nat.le_refl _)
  rw [List.take_length] at hr
  refine ⟨_, _, fun w' => ?_, hr⟩
  have := run_slice_l (P := Try.prog) w' 25 A l.length c Cell_elem .i64 lo (by omega) (by omega)
  rw [this, Cell_sizeOf]
  simp [Result.andThen, sliced]
theorem RdCs.run_h {w : World} {A : Option Addr} {n c : Nat} {l : List CV} (h : RdCs w (.slice A n c) l) (hi : Nat) (h2 : hi ≤ l.length) :
    ∃ A' c', (∀ w', (Instr.slice 25 (.slice A n c) none (some (.int .i64 (hi : Int))) none).run Try.prog w' = .ok (.slice A' hi c') w') ∧ RdCs w (.slice A' hi c') (l.take hi) := by
  obtain ⟨_, hc, _⟩ := h.len
  have hr := h.cut (Nat.zero_le hi) h2
  rw [List.drop_zero, Nat.sub_zero] at hr
  refine ⟨_, _, fun w' => ?_, hr⟩
  have := run_slice_h (P := Try.prog) w' 25 A n c Cell_elem .i64 hi (by omega) (by omega)
  rw [this, Cell_sizeOf]
  simp [Result.andThen, sliced]
theorem RdB.oneC {w : World} {v : Value} {l : List UInt8} (h : RdB w v l) : v.oneCell' = true := by
  obtain ⟨A, c, rfl, _⟩ := h.form
  rfl
theorem CV.ok.one {w : World} {x : CV} (h : x.ok w) : ∀ u ∈ x.cells, u.oneCell' = true := by
  intro u hu
  simp only [CV.cells, List.mem_cons, List.not_mem_nil, or_false] at hu
  rcases hu with rfl | rfl | rfl | rfl | rfl
  · exact h.k.oneC
  · rfl
  · exact h.v.oneC
  · rfl
  · rfl
theorem flatC_one {w : World} {l : List CV} (h : ∀ x ∈ l, x.ok w) : ∀ u ∈ flatC l, u.oneCell' = true := by
  intro u hu
  obtain ⟨x, hx, hux⟩ := List.mem_flatMap.1 hu
  exact (h x hx).one u hux
/-- A list of the call's own, of cells that are read. -/
structure OwL (w : World) (base : Nat) (v : Value) (l : List CV) : Prop where
  own : Own w base 32 5 v l.length (flatC l)
  ok : ∀ x ∈ l, x.ok w
theorem OwL.nil (w : World) (base : Nat) : OwL w base (.slice none 0 0) [] := ⟨Own.nil _ _ _ _, by simp⟩
theorem OwL.rd {w : World} {base : Nat} {v : Value} {l : List CV} (h : OwL w base v l) : RdCs w v l := ⟨h.own.rd, h.ok⟩
theorem OwL.below {w w' : World} {base : Nat} {v : Value} {l : List CV} (h : OwL w base v l) (hb : Below w.heap.size w w') : OwL w' base v l :=
  ⟨Own.below' h.own hb (Nat.le_refl _), fun x hx => (h.ok x hx).below hb⟩
section laws
variable {w : World} {ops : Array Oper} {rest : List Oper} {o : Oper} {a : Act} {Q : Exit → Act → World → Prop}
/-- append(l, m...) of cells. -/
theorem wp_append_C (hgd : o.guard = none) (s x : Operand)
    (ho : o.op = .call { callee := .builtin .append, args := #[s, x], argTypes := #[25, 25] })
    (base : Nat) (v : Value) (l : List CV) (hs : a.eval s = v) (hown : Own w base 32 5 v l.length (flatC l))
    (vx : Value) (m : List CV) (hx : a.eval x = vx) (hr : Rd w 5 vx m.length (flatC m)) (h1 : ∀ u ∈ flatC m, u.oneCell' = true) (hsm : (l.length + m.length) * 72 ≤ 140737488355328) (hbase : base ≤ w.heap.size)
    (h : ∀ v' w', Own w' base 32 5 v' (l ++ m).length (flatC (l ++ m)) → w.grownBy w' v.ownBlock → (v'.ownBlock = v.ownBlock ∨ v'.ownBlock = some w.heap.size) → wpList Try.prog ops Q rest (a.put o.dst v') w') :
    wpList Try.prog ops Q (o :: rest) a w := by
  obtain ⟨i, hi, hz0, hz1, hz2⟩ := info_parts cell_info
  refine wp_append hgd s x _ _ ho base 32 i _ 5 72 Try.underlying25 hi hz0 hz1 hz2 rfl v l.length (flatC l) hs hown vx m.length (flatC m) hx (Rd.src w Try.underlying25 (by omega) hr h1) hsm (by omega) hbase ?_
  intro v' w' h1 h2 h3
  refine h v' w' ?_ h2 h3
  rw [List.length_append, flatC_append]
  exact h1
end laws
/-! ### a key's place among rising ones -/
def Rising (l : List PC) : Prop := l.Pairwise (fun a b => ordC a.key b.key < 0)
theorem ordC_flip : ∀ (a b : List UInt8), ordC a b < 0 ∨ ordC a b = 0 ∨ ordC b a < 0
  | [], [] => by simp [ordC]
  | _ :: _, [] => by simp [ordC]
  | [], _ :: _ => by simp [ordC]
  | x :: a, y :: b => by
    by_cases h1 : x < y
    · exact .inl (by rw [ordC_lt h1]; omega)
    · by_cases h2 : y < x
      · exact .inr (.inr (by rw [ordC_lt h2]; omega))
      · have e : x = y := by
          rw [UInt8.lt_iff_toNat_lt] at h1 h2
          exact UInt8.toNat_inj.mp (by omega)
        subst e
        rw [ordC_same, ordC_same]
        exact ordC_flip a b
theorem rise_ins {c : PC} {l : List PC} (hs : Rising l) (hne : ∀ x ∈ l, x.key ≠ c.key) : Rising (l.take (findF c.key l) ++ (c :: l.drop (findF c.key l))) := by
  have hd : Rising (l.take (findF c.key l) ++ l.drop (findF c.key l)) := by rw [List.take_append_drop]; exact hs
  have hlo : ∀ x ∈ l.take (findF c.key l), ordC x.key c.key < 0 := by
    intro x hx
    obtain ⟨j, hj, rfl⟩ := List.getElem_of_mem hx
    rw [List.length_take] at hj
    rw [List.getElem_take]
    exact find_lt (by omega) (by omega)
  have hhi : ∀ x ∈ l.drop (findF c.key l), ordC c.key x.key < 0 := by
    intro x hx
    obtain ⟨j, hj, rfl⟩ := List.getElem_of_mem hx
    rw [List.length_drop] at hj
    rw [List.getElem_drop]
    have h1 := find_ge hs (j := findF c.key l + j) (key := c.key) (by omega) (by omega)
    rcases ordC_flip l[findF c.key l + j].key c.key with h | h | h
    · exact absurd h h1
    · exact absurd (ordC_eq _ _ h) (hne _ (List.getElem_mem _))
    · exact h
  unfold Rising at hd ⊢
  rw [List.pairwise_append] at hd ⊢
  refine ⟨hd.1, List.pairwise_cons.2 ⟨hhi, hd.2.1⟩, fun x hx y hy => ?_⟩
  rcases List.mem_cons.1 hy with rfl | hy
  · exact hlo x hx
  · exact hd.2.2 x hx y hy
theorem scan_rise {kind : Int} {P : Nat} : ∀ {l : List PC} {p : Option (List UInt8)}, (∀ c ∈ l, mayP kind P c = true) → (∀ q, p = some q → ∀ c ∈ l, ordC q c.key < 0) → Rising l → scanE kind P p l = 0
  | [], _, _, _, _ => rfl
  | c :: r, p, hm, hp, hs => by
    have hs' := List.pairwise_cons.1 hs
    rw [scanE, if_neg (by rw [hm c (by simp)]; simp)]
    have ha : afterP p c.key = true := by
      cases p with
      | none => rfl
      | some q => exact decide_eq_true (hp q rfl c (by simp))
    rw [if_neg (by rw [ha]; simp)]
    exact scan_rise (fun d hd => hm d (by simp [hd])) (fun q hq d hd => by injection hq with hq; subst hq; exact hs'.1 d hd) hs'.2
/-- One cell that may be is a page. -/
theorem enc_one {kind : Int} {P : Nat} {c : PC} (hP : 512 ≤ P) : encE kind [c] P = if mayP kind P c = true then 0 else 62 := by
  by_cases hm : mayP kind P c = true
  · rw [if_pos hm]
    refine encE_zero.2 ⟨scan_rise (by simpa using hm) (by simp) (by simp [Rising]), ?_⟩
    have h := may_ok hm
    have h1 := h.k0
    have h2 := h.v0
    simp only [sizeF]
    unfold longF
    split
    · have := (h2 (by assumption)).1; omega
    · omega
  · rw [if_neg hm]
    have h62 : scanE kind P none [c] = 62 := by rw [scanE, if_pos (by simpa using hm)]
    unfold encE
    rw [h62]; rfl
theorem enc_three {kind : Int} {P : Nat} {l : List PC} (hP : 512 ≤ P) (hl : l.length ≤ 3) (hm : ∀ c ∈ l, mayP kind P c = true) (hs : Rising l) : encE kind l P = 0 := by
  refine encE_zero.2 ⟨scan_rise hm (by simp) hs, ?_⟩
  have key : ∀ l : List PC, (∀ c ∈ l, mayP kind P c = true) → sizeF l ≤ 8 + l.length * (8 + 5 * (P / 16)) := by
    intro l
    induction l with
    | nil => simp [sizeF]
    | cons c r ih =>
      intro hm
      have h := may_ok (hm c (by simp))
      have h1 := h.k0
      have h2 := h.v0
      have ih' := ih fun d hd => hm d (by simp [hd])
      have hc : longF c ≤ 6 + 5 * (P / 16) := by
        unfold longF
        split
        · have := (h2 (by assumption)).1; omega
        · omega
      simp only [sizeF, List.length_cons, Nat.add_mul, Nat.one_mul]
      omega
  have h1 := key l hm
  have h2 : l.length * (8 + 5 * (P / 16)) ≤ 3 * (8 + 5 * (P / 16)) := Nat.mul_le_mul_right _ hl
  omega
end Go.Proofs.Ytonbcipofakpjaa
