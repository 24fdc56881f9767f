/- Texts joined: copy over the head of bytes that the call owns.; x[lo; Blocks outside of a set stand; Separate pieces of memory; espalierref03.Book; espalierref03.Book; copy into bytes that the call owns, at a place. -/
import Derived.Test.YtonbcipofakpjaaH1
import Derived.Laws.Slices
import Derived.Maps.RangeWalk
import Derived.Maps.OwnSet
import Derived.Deep.DeepCutAuto
-- copy over the head of bytes that the call owns.
namespace Go.Proofs.Ytonbcipofakpjaa
open Go.RowKit
theorem OwB.some' {w : World} {b n : Nat} {u : Value} {l : List UInt8} (h : OwB w b u l) (hn : l.length = n) (h0 : 0 < n) : ∃ g c, u = .slice (some ⟨g, 0, none⟩) n c := by
  subst hn
  rcases h.form with ⟨_, rfl⟩ | ⟨g, c, rfl, _⟩
  · simp at h0
  · exact ⟨g, c, rfl⟩
section laws
variable {w : World} {ops : Array Oper} {rest : List Oper} {o : Oper} {a : Act} {Q : Exit → Act → World → Prop}
theorem wp_copy_Ow (hgd : o.guard = none) (d s : Operand)
    (ho : o.op = .call { callee := .builtin .copy, args := #[d, s], argTypes := #[27, 27] })
    (base g n k c cap : Nat) (l sp : List UInt8) (hd : a.eval d = .slice (some ⟨g, 0, none⟩) n c) (hown : OwB w base (.slice (some ⟨g, 0, none⟩) (n + k) cap) (l ++ sp)) (hl : l.length = n) (hk : sp.length = k)
    (vx : Value) (m : List UInt8) (hx : a.eval s = vx) (hr : RdB w vx m) (hm : m.length = n)
    (h : ∀ w', OwB w' base (.slice (some ⟨g, 0, none⟩) (n + k) cap) (m ++ sp) → w.grownBy w' (some g) → wpList Try.prog ops Q rest (a.put o.dst (goInt (n : Nat))) w') : wpList Try.prog ops Q (o :: rest) a w := by
  have hlen : (l ++ sp).length = n + k := by simp; omega
  have hown' := hown
  unfold OwB at hown'
  rw [hlen] at hown'
  obtain ⟨h0, h1⟩ := hown'
  rcases h1 with ⟨h1, _⟩ | ⟨g', cap', cs, h1, hb, ho2, h2, h3, h4, h5⟩
  · cases h1
  · injection h1 with hA _ hc
    injection hA with hA
    injection hA with hA
    subst hA; subst hc
    rw [Nat.mul_one] at h4 h5
    refine wp_copy hgd d s _ _ ho 5 Try.underlying27 u8_size _ n c g 0 hd cs _ ho2 (fun _ => rfl) (by omega) vx m.length (bvs m) hx hr.rd (bvs_one m) ?_
    intro w' hw' hgr
    rw [hm, Nat.min_self, List.take_of_length_le (by rw [bvs_length]; omega)] at hw'
    rw [hm, Nat.min_self]
    refine h w' ?_ hgr
    unfold OwB
    have hlen2 : (m ++ sp).length = n + k := by simp; omega
    rw [hlen2]
    refine ⟨by rw [bvs_length, hlen2]; omega, .inr ⟨g, cap, _, rfl, hb, hw', h2, h3, ?_, ?_⟩⟩
    · rw [length_splice _ _ _ (by rw [bvs_length]; omega)]; omega
    · rw [Nat.mul_one, bvs_append]
      have e : splice cs 0 (bvs m) = bvs m ++ cs.drop n := by
        unfold splice
        simp [bvs_length, hm]
      rw [e, List.take_append, bvs_length, hm, List.take_of_length_le (by rw [bvs_length]; omega), Nat.add_sub_cancel_left]
      congr 1
      have : (cs.take (n + k)).drop n = (bvs (l ++ sp)).drop n := by rw [h5]
      rw [List.drop_take, Nat.add_sub_cancel_left, bvs_append, List.drop_left' (by rw [bvs_length, hl])] at this
      exact this
end laws
end Go.Proofs.Ytonbcipofakpjaa

-- x[lo:], x[:hi], x[lo:hi] of bytes that are read: as run equations and readings.
namespace Go.Proofs.Ytonbcipofakpjaa
open Go.RowKit
theorem u8_elem : Try.prog.underlying 27 = some (.slice (Try.prog.elem 27)) := by kernel_rfl
theorem u8_sizeOf (w : World) : (sizeOf (Try.prog.elem 27)).run Try.prog w = .ok 1 w := by
  have he : Try.prog.elem 27 = 5 := by kernel_rfl
  rw [he]
  obtain ⟨i, hi, hz0, hz1, hz2⟩ := info_parts u8_info
  simp [sizeOf, typeInfo, hi, hz1]
theorem RdB.cap {w : World} {A : Option Addr} {n c : Nat} {l : List UInt8} (h : RdB w (.slice A n c) l) : n = l.length ∧ l.length ≤ c ∧ c ≤ 9223372036854775807 := by
  obtain ⟨A', c', hv, h1, h2, _⟩ := h
  injection hv with _ hn hc
  subst hc
  simp only [maxLen] at h2
  exact ⟨hn, h1, h2⟩
/-- x[lo:hi] -/
theorem RdB.run_lh {w : World} {A : Option Addr} {n c : Nat} {l : List UInt8} (h : RdB w (.slice A n c) l) (lo hi : Nat) (h1 : lo ≤ hi) (h2 : hi ≤ l.length) :
    ∃ A' c', (∀ w', (Instr.slice 27 (.slice A n c) (some (.int .i64 (lo : Int))) (some (.int .i64 (hi : Int))) none).run Try.prog w' = .ok (.slice A' (hi - lo) c') w') ∧ RdB w (.slice A' (hi - lo) c') ((l.take hi).drop lo) := by
  obtain ⟨_, hc, _⟩ := h.cap
  refine ⟨_, _, fun w' => ?_, h.cut h1 h2⟩
  have := run_slice_lh (P := Try.prog) w' 27 A n c u8_elem .i64 .i64 lo hi (by omega) (by omega) (by omega)
  rw [this, u8_sizeOf]
  simp [Result.andThen, sliced]
theorem RdB.run_l {w : World} {A : Option Addr} {n c : Nat} {l : List UInt8} (h : RdB w (.slice A n c) l) (lo : Nat) (h1 : lo ≤ l.length) :
    ∃ A' c', (∀ w', (Instr.slice 27 (.slice A n c) (some (.int .i64 (lo : Int))) none none).run Try.prog w' = .ok (.slice A' (l.length - lo) c') w') ∧ RdB w (.slice A' (l.length - lo) c') (l.drop lo) := by
  obtain ⟨rfl, hc, _⟩ := h.cap
  have hr := h.cut h1 (Nat.le_refl _)
  rw [List.take_length] at hr
  refine ⟨_, _, fun w' => ?_, hr⟩
  have := run_slice_l (P := Try.prog) w' 27 A l.length c u8_elem .i64 lo (by omega) (by omega)
  rw [this, u8_sizeOf]
  simp [Result.andThen, sliced]
theorem RdB.run_h {w : World} {A : Option Addr} {n c : Nat} {l : List UInt8} (h : RdB w (.slice A n c) l) (hi : Nat) (h2 : hi ≤ l.length) :
    ∃ A' c', (∀ w', (Instr.slice 27 (.slice A n c) none (some (.int .i64 (hi : Int))) none).run Try.prog w' = .ok (.slice A' hi c') w') ∧ RdB w (.slice A' hi c') (l.take hi) := by
  obtain ⟨_, hc, _⟩ := h.cap
  have hr := h.cut (Nat.zero_le hi) h2
  rw [List.drop_zero, Nat.sub_zero] at hr
  refine ⟨_, _, fun w' => ?_, hr⟩
  have := run_slice_h (P := Try.prog) w' 27 A n c u8_elem .i64 hi (by omega) (by omega)
  rw [this, u8_sizeOf]
  simp [Result.andThen, sliced]
end Go.Proofs.Ytonbcipofakpjaa

-- Blocks outside of a set stand: words for what a call may write.
namespace Go.Proofs.Ytonbcipofakpjaa
open Go.RowKit
/-- Blocks outside of F stand. -/
structure Turn (F : Nat → Prop) (w w' : World) : Prop where
  os : w'.os = w.os
  tape : w'.tape = w.tape
  output : w'.output = w.output
  size : w.heap.size ≤ w'.heap.size
  block : ∀ k, k < w.heap.size → ¬ F k → w'.heap[k]? = w.heap[k]?
/-- .. and what is in F now was there, or is new. -/
structure Step (F : Nat → Prop) (w : World) (F' : Nat → Prop) (w' : World) : Prop where
  turn : Turn F w w'
  grow : ∀ k, F' k → F k ∨ w.heap.size ≤ k
section
variable {F F' F'' G : Nat → Prop} {w w' w'' : World}
theorem Turn.refl (F : Nat → Prop) (w : World) : Turn F w w := ⟨rfl, rfl, rfl, Nat.le_refl _, fun _ _ _ => rfl⟩
theorem Turn.trans (h : Turn F w w') (k : Turn F' w' w'') (hs : ∀ b, F' b → F b ∨ w.heap.size ≤ b) : Turn F w w'' :=
  ⟨k.os.trans h.os, k.tape.trans h.tape, k.output.trans h.output, Nat.le_trans h.size k.size, fun b hb hn =>
    (k.block b (Nat.lt_of_lt_of_le hb h.size) (fun h' => (hs b h').elim hn (fun h1 => by omega))).trans (h.block b hb hn)⟩
theorem Turn.mono (h : Turn F w w') (hs : ∀ b, F b → G b) : Turn G w w' := ⟨h.os, h.tape, h.output, h.size, fun b hb hn => h.block b hb (fun e => hn (hs b e))⟩
theorem Turn.of_grown {row : Option Nat} (h : w.grownBy w' row) (hr : ∀ k, row = some k → F k) : Turn F w w' :=
  ⟨h.os, h.tape, h.output, h.size, fun b hb hn => h.block b hb (fun e => hn (hr b e.symm))⟩
theorem Turn.of_below (h : Below w.heap.size w w') : Turn F w w' := ⟨h.os, h.tape, h.output, h.size, fun b hb _ => h.block b hb⟩
theorem Turn.below {B : Nat} (h : Turn F w w') (hB : B ≤ w.heap.size) (hF : ∀ b, F b → B ≤ b) : Below B w w' :=
  ⟨h.os, h.tape, h.output, h.size, fun b hb => h.block b (by omega) (fun e => by have := hF b e; omega)⟩
theorem Turn.drew (h : Turn F w w') : Turn F w w'.drew := ⟨h.os, h.tape, h.output, h.size, h.block⟩
theorem Turn.drewN (h : Turn F w w') (n : Nat) : Turn F w (w'.drewN n) := ⟨h.os, h.tape, h.output, h.size, h.block⟩
theorem Turn.grown {row : Option Nat} (h : Turn F w w') (k : w'.grownBy w'' row) (hr : ∀ b, row = some b → F b ∨ w.heap.size ≤ b) : Turn F w w'' :=
  h.trans (F' := fun b => row = some b) (Turn.of_grown k fun _ e => e) hr
theorem Turn.new (h : Turn F w w') (k : Below w.heap.size w' w'') : Turn F w w'' :=
  ⟨k.os.trans h.os, k.tape.trans h.tape, k.output.trans h.output, Nat.le_trans h.size k.size, fun b hb hn => (k.block b hb).trans (h.block b hb hn)⟩
theorem Turn.alloc (h : Turn F w w') (o : Obj) : Turn F w (w'.alloc o) := h.new ((Below.refl _ _).alloc h.size o)
theorem Turn.setCell (h : Turn F w w') (p : Addr) (u : Value) (hp : F p.block ∨ w.heap.size ≤ p.block) : Turn F w (w'.setCell p u) :=
  h.grown (grownBy_setCell w' p u) (fun b e => by cases e; exact hp)
theorem Step.refl (F : Nat → Prop) (w : World) : Step F w F w := ⟨Turn.refl _ _, fun _ h => .inl h⟩
theorem Step.trans (h : Step F w F' w') (k : Step F' w' F'' w'') : Step F w F'' w'' :=
  ⟨h.turn.trans k.turn h.grow, fun b hb => (k.grow b hb).elim (h.grow b) (fun h1 => .inr (Nat.le_trans h.turn.size h1))⟩
/-- What the call owns and what no device has. -/
def Off (F : Nat → Prop) (v : Value) : Prop := ∀ g, v.ownBlock = some g → ¬ F g
theorem OwB.turn {b : Nat} {v : Value} {l : List UInt8} (h : OwB w b v l) (ht : Turn F w w') (ho : Off F v) : OwB w' b v l :=
  Own.heap h fun g hg => ht.block g (h.lt g hg).2 (ho g hg)
theorem OwB.off {b : Nat} {v : Value} {l : List UInt8} (h : OwB w b v l) (hs : Step F w F' w') (ho : Off F v) : Off F' v := fun g hg hf => by
  rcases hs.grow g hf with h1 | h1
  · exact ho g hg h1
  · have := (h.lt g hg).2
    omega
theorem OBlk.turn {g : Nat} {T : TypeId} {cs : List Value} (h : OBlk w g T cs) (ht : Turn F w w') (hg : ¬ F g) : OBlk w' g T cs := h.of_heap (ht.block g h.lt hg)
end
end Go.Proofs.Ytonbcipofakpjaa

-- Separate pieces of memory: one fact for all of them.
namespace Go.Proofs.Ytonbcipofakpjaa
open Go.RowKit
/-- A piece of memory: its blocks, and what holds of them. -/
structure Ent where
  F : Nat → Prop
  p : World → Prop
  loc : ∀ {w w' : World}, (∀ g, F g → w'.heap[g]? = w.heap[g]?) → p w → p w'
structure Same (w0 w : World) : Prop where
  os : w.os = w0.os
  tape : w.tape = w0.tape
  output : w.output = w0.output
  size : w0.heap.size ≤ w.heap.size
theorem Same.refl (w : World) : Same w w := ⟨rfl, rfl, rfl, Nat.le_refl _⟩
theorem Same.trans {a b c : World} (h : Same a b) (k : Same b c) : Same a c := ⟨k.os.trans h.os, k.tape.trans h.tape, k.output.trans h.output, Nat.le_trans h.size k.size⟩
theorem Same.of_below {B : Nat} {w w' : World} (h : Below B w w') : Same w w' := ⟨h.os, h.tape, h.output, h.size⟩
theorem Same.of_turn {F : Nat → Prop} {w w' : World} (h : Turn F w w') : Same w w' := ⟨h.os, h.tape, h.output, h.size⟩
/-- Pieces that lie apart, all of them in the world w, which came of w0. -/
structure Sep (w0 w : World) (L : List Ent) : Prop where
  same : Same w0 w
  each : ∀ E ∈ L, E.p w ∧ ∀ g, E.F g → g < w.heap.size
  apart : L.Pairwise fun a b => ∀ g, a.F g → ¬ b.F g
section
variable {w0 w w' : World} {L L' : List Ent} {E E' A B C D : Ent}
theorem Sep.perm (h : Sep w0 w L) (hp : L.Perm L') : Sep w0 w L' :=
  ⟨h.same, fun E hE => h.each E (hp.mem_iff.2 hE), (hp.pairwise_iff (fun {a b} hab g h1 h2 => hab g h2 h1)).1 h.apart⟩
theorem Sep.sw1 (h : Sep w0 w (A :: E :: L)) : Sep w0 w (E :: A :: L) := h.perm (List.perm_middle (l₁ := [A]))
theorem Sep.sw2 (h : Sep w0 w (A :: B :: E :: L)) : Sep w0 w (E :: A :: B :: L) := h.perm (List.perm_middle (l₁ := [A, B]))
theorem Sep.sw3 (h : Sep w0 w (A :: B :: C :: E :: L)) : Sep w0 w (E :: A :: B :: C :: L) := h.perm (List.perm_middle (l₁ := [A, B, C]))
theorem Sep.sw4 (h : Sep w0 w (A :: B :: C :: D :: E :: L)) : Sep w0 w (E :: A :: B :: C :: D :: L) := h.perm (List.perm_middle (l₁ := [A, B, C, D]))
/-- The piece behind the first n comes to the head. -/
theorem Sep.sw (L1 : List Ent) (h : Sep w0 w (L1 ++ E :: L)) : Sep w0 w (E :: (L1 ++ L)) := h.perm List.perm_middle
/-- The piece behind the first n behind the head comes next to the head. -/
theorem Sep.sn (L1 : List Ent) (h : Sep w0 w (A :: (L1 ++ E :: L))) : Sep w0 w (A :: E :: (L1 ++ L)) := h.perm (List.Perm.cons _ List.perm_middle)
/-- The first piece goes behind L1. -/
theorem Sep.back (L1 : List Ent) (h : Sep w0 w (E :: (L1 ++ L))) : Sep w0 w (L1 ++ E :: L) := h.perm List.perm_middle.symm
theorem Sep.head (h : Sep w0 w (E :: L)) : E.p w := (h.each E (List.mem_cons_self ..)).1
theorem Sep.lt (h : Sep w0 w (E :: L)) : ∀ g, E.F g → g < w.heap.size := (h.each E (List.mem_cons_self ..)).2
theorem Sep.of_mem (h : Sep w0 w L) (hE : E ∈ L) : E.p w := (h.each E hE).1
theorem Sep.tail (h : Sep w0 w (E :: L)) : Sep w0 w L := ⟨h.same, fun X hX => h.each X (List.mem_cons_of_mem _ hX), (List.pairwise_cons.1 h.apart).2⟩
theorem Sep.far (h : Sep w0 w (E :: L)) (hA : A ∈ L) : ∀ g, E.F g → ¬ A.F g := (List.pairwise_cons.1 h.apart).1 A hA
theorem Sep.cons (h : Sep w0 w L) (hp : E.p w) (hl : ∀ g, E.F g → g < w.heap.size) (ha : ∀ A ∈ L, ∀ g, E.F g → ¬ A.F g) : Sep w0 w (E :: L) :=
  ⟨h.same, fun X hX => by rcases List.mem_cons.1 hX with rfl | hX; exact ⟨hp, hl⟩; exact h.each X hX, List.pairwise_cons.2 ⟨ha, h.apart⟩⟩
/-- Nothing that was there is written. -/
theorem Sep.below (h : Sep w0 w L) (hb : Below w.heap.size w w') : Sep w0 w' L :=
  ⟨h.same.trans (Same.of_below hb), fun X hX => ⟨X.loc (fun g hg => hb.block g ((h.each X hX).2 g hg)) (h.each X hX).1, fun g hg => Nat.lt_of_lt_of_le ((h.each X hX).2 g hg) hb.size⟩, h.apart⟩
/-- .. and a new piece. -/
theorem Sep.new (h : Sep w0 w L) (hb : Below w.heap.size w w') (hp : E.p w') (hF : ∀ g, E.F g → w.heap.size ≤ g ∧ g < w'.heap.size) : Sep w0 w' (E :: L) :=
  (h.below hb).cons hp (fun g hg => (hF g hg).2) (fun X hX g hg h2 => by have h1 := (h.each X hX).2 g h2; have h3 := (hF g hg).1; omega)
/-- The first piece is written. -/
theorem Sep.upd (h : Sep w0 w (E :: L)) (ht : Turn E.F w w') (hp : E'.p w') (hF : ∀ g, E'.F g → (E.F g ∨ w.heap.size ≤ g) ∧ g < w'.heap.size) : Sep w0 w' (E' :: L) := by
  have hl : Sep w0 w' L := ⟨h.same.trans (Same.of_turn ht), fun X hX => ⟨X.loc (fun g hg => ht.block g ((h.tail.each X hX).2 g hg) (fun e => h.far hX g e hg)) (h.tail.each X hX).1, fun g hg => Nat.lt_of_lt_of_le ((h.tail.each X hX).2 g hg) ht.size⟩, h.tail.apart⟩
  refine hl.cons hp (fun g hg => (hF g hg).2) (fun X hX g hg h2 => ?_)
  rcases (hF g hg).1 with h3 | h3
  · exact h.far hX g h3 h2
  · have h1 := (h.tail.each X hX).2 g h2
    omega
/-- The first piece is written, and is of no more use. -/
theorem Sep.kill (h : Sep w0 w (E :: L)) (ht : Turn E.F w w') : Sep w0 w' L :=
  ⟨h.same.trans (Same.of_turn ht), fun X hX => ⟨X.loc (fun g hg => ht.block g ((h.tail.each X hX).2 g hg) (fun e => h.far hX g e hg)) (h.tail.each X hX).1, fun g hg => Nat.lt_of_lt_of_le ((h.tail.each X hX).2 g hg) ht.size⟩, h.tail.apart⟩
/-- The first piece is told otherwise. -/
theorem Sep.weak (h : Sep w0 w (E :: L)) (hp : E.p w → E'.p w) (hF : ∀ g, E'.F g → E.F g) : Sep w0 w (E' :: L) :=
  h.tail.cons (hp h.head) (fun g hg => h.lt g (hF g hg)) (fun _ hX g hg => h.far hX g (hF g hg))
/-- Two pieces as one. -/
def Ent.star (A B : Ent) : Ent := ⟨fun g => A.F g ∨ B.F g, fun w => A.p w ∧ B.p w ∧ ∀ g, A.F g → ¬ B.F g,
  fun h ⟨h1, h2, h3⟩ => ⟨A.loc (fun g hg => h g (.inl hg)) h1, B.loc (fun g hg => h g (.inr hg)) h2, h3⟩⟩
theorem Sep.join (h : Sep w0 w (A :: B :: L)) : Sep w0 w (A.star B :: L) := by
  refine h.tail.tail.cons ⟨h.head, h.tail.head, h.far (List.mem_cons_self ..)⟩ (fun g hg => hg.elim (h.lt g) (h.tail.lt g)) (fun X hX g hg => ?_)
  rcases hg with hg | hg
  · exact h.far (List.mem_cons_of_mem _ hX) g hg
  · exact h.tail.far hX g hg
theorem Sep.split (h : Sep w0 w (A.star B :: L)) : Sep w0 w (A :: B :: L) := by
  refine (h.tail.cons (E := B) h.head.2.1 (fun g hg => h.lt g (.inr hg)) (fun X hX g hg => h.far hX g (.inr hg))).cons h.head.1 (fun g hg => h.lt g (.inl hg)) (fun X hX g hg => ?_)
  rcases List.mem_cons.1 hX with rfl | hX
  · exact h.head.2.2 g hg
  · exact h.far hX g (.inl hg)
/-- The first two pieces are written. -/
theorem Sep.upd2 (h : Sep w0 w (A :: B :: L)) (ht : Turn (fun g => A.F g ∨ B.F g) w w') (hc : C.p w') (hd : D.p w') (hC : ∀ g, C.F g → (A.F g ∨ B.F g ∨ w.heap.size ≤ g) ∧ g < w'.heap.size) (hD : ∀ g, D.F g → (A.F g ∨ B.F g ∨ w.heap.size ≤ g) ∧ g < w'.heap.size)
    (hCD : ∀ g, C.F g → ¬ D.F g) : Sep w0 w' (C :: D :: L) := by
  refine Sep.split (h.join.upd (E' := C.star D) ht ⟨hc, hd, hCD⟩ (fun g hg => ?_))
  rcases hg with hg | hg
  · exact ⟨by rcases (hC g hg).1 with h | h | h; exact .inl (.inl h); exact .inl (.inr h); exact .inr h, (hC g hg).2⟩
  · exact ⟨by rcases (hD g hg).1 with h | h | h; exact .inl (.inl h); exact .inl (.inr h); exact .inr h, (hD g hg).2⟩
theorem Sep.drewN (h : Sep w0 w L) (n : Nat) : Sep w0 (w.drewN n) L := h.below (w' := w.drewN n) ⟨rfl, rfl, rfl, Nat.le_refl _, fun _ _ => rfl⟩
theorem Sep.drew (h : Sep w0 w L) : Sep w0 w.drew L := h.below (w' := w.drew) ⟨rfl, rfl, rfl, Nat.le_refl _, fun _ _ => rfl⟩
/-! ### kinds of pieces -/
/-- All that was there in w0. -/
def oldE (w0 : World) : Ent := ⟨fun g => g < w0.heap.size, fun w => ∀ g, g < w0.heap.size → w.heap[g]? = w0.heap[g]?, fun h k g hg => (h g hg).trans (k g hg)⟩
theorem Sep.start (w : World) : Sep w w [oldE w] := ⟨Same.refl w, fun E hE => by obtain rfl := List.mem_singleton.1 hE; exact ⟨fun _ _ => rfl, fun _ h => h⟩, List.pairwise_singleton _ _⟩
theorem Sep.belowOld {v : World} (h : Sep w0 w L) (hm : oldE w0 ∈ L) : Below w0.heap.size w0 w := ⟨h.same.os, h.same.tape, h.same.output, h.same.size, h.of_mem hm⟩
theorem Sep.old_cell {v : World} (h : Sep w0 w L) (hm : oldE v ∈ L) : ∀ p : Addr, p.block < v.heap.size → w.cell? p = v.cell? p := fun p hp => World.cell?_of_block (h.of_mem hm p.block hp)
theorem Sep.rd {v : World} {x : Value} {l : List UInt8} (h : Sep w0 w L) (hm : oldE v ∈ L) (hr : RdB v x l) : RdB w x l := hr.keep (h.old_cell hm)
/-- A block. -/
def blkE (g : Nat) (T : TypeId) (cs : List Value) : Ent := ⟨fun b => b = g, fun w => OBlk w g T cs, fun h k => k.of_heap (h g rfl)⟩
/-- Bytes of the call's own, or nil. -/
def bytesE (v : Value) (l : List UInt8) : Ent := ⟨fun g => v.ownBlock = some g, fun w => OwB w 0 v l, fun h k => Own.heap k h⟩
def ownE (T : TypeId) (size : Nat) (v : Value) (n : Nat) (xs : List Value) : Ent := ⟨fun g => v.ownBlock = some g, fun w => Own w 0 T size v n xs, fun h k => Own.heap k h⟩
theorem Sep.alloc (h : Sep w0 w L) (T : TypeId) (cs : List Value) : Sep w0 (w.alloc (.cells cs.toArray T)) (blkE w.heap.size T cs :: L) :=
  h.new ((Below.refl _ _).alloc (Nat.le_refl _) _) (OBlk.new' w T cs) (fun g hg => by have hg' : g = w.heap.size := hg; rw [World.size_alloc]; omega)
theorem Sep.setCell {g : Nat} {T : TypeId} {cs : List Value} (h : Sep w0 w (blkE g T cs :: L)) (j : Nat) (u : Value) : Sep w0 (w.setCell ⟨g, j, none⟩ u) (blkE g T (cs.set j u) :: L) :=
  h.upd (Turn.of_grown (grownBy_setCell w ⟨g, j, none⟩ u) (fun k e => (Option.some.inj e).symm)) (OBlk.set (h.head : OBlk w g T cs) j u) (fun b hb => ⟨.inl hb, by have h' := h.lt b hb; simpa using h'⟩)
theorem Sep.bytes {b : Nat} {v : Value} {l : List UInt8} (h : Sep w0 w L) (hb : Below w.heap.size w w') (ho : OwB w' b v l) (hB : w.heap.size ≤ b) : Sep w0 w' (bytesE v l :: L) :=
  h.new hb (OwB.low ho (Nat.zero_le _)) (fun g hg => ⟨Nat.le_trans hB (Own.lt ho g hg).1, (Own.lt ho g hg).2⟩)
/-- A list that is read, in whichever piece. -/
def RdIn (L : List Ent) (v : Value) (l : List UInt8) : Prop := ∃ E ∈ L, ∀ w, E.p w → RdB w v l
theorem RdIn.cons {v : Value} {l : List UInt8} (h : RdIn L v l) : RdIn (E :: L) v l := by obtain ⟨X, hX, h⟩ := h; exact ⟨X, List.mem_cons_of_mem _ hX, h⟩
theorem Sep.rdIn {v : Value} {l : List UInt8} (h : Sep w0 w L) (hr : RdIn L v l) : RdB w v l := by obtain ⟨X, hX, hr⟩ := hr; exact hr w (h.of_mem hX)
/-- Many pieces as one. -/
def allE (D : List Ent) : Ent := ⟨fun g => ∃ E ∈ D, E.F g, fun w => (∀ E ∈ D, E.p w) ∧ D.Pairwise (fun (a b : Ent) => ∀ g : Nat, a.F g → ¬ b.F g),
  fun h ⟨h1, h2⟩ => ⟨fun E hE => E.loc (fun g hg => h g ⟨E, hE, hg⟩) (h1 E hE), h2⟩⟩
theorem Sep.pack {D : List Ent} (h : Sep w0 w (D ++ L)) : Sep w0 w (allE D :: L) := by
  have h1 := List.pairwise_append.1 h.apart
  refine Sep.cons ⟨h.same, fun X hX => h.each X (List.mem_append_right _ hX), h1.2.1⟩ ⟨fun E hE => (h.each E (List.mem_append_left _ hE)).1, h1.1⟩ (fun g hg => ?_) (fun X hX g hg => ?_)
  · obtain ⟨E, hE, hg⟩ := hg
    exact (h.each E (List.mem_append_left _ hE)).2 g hg
  · obtain ⟨E, hE, hg⟩ := hg
    exact h1.2.2 E hE X hX g hg
theorem Sep.unpack {D : List Ent} (h : Sep w0 w (allE D :: L)) : Sep w0 w (D ++ L) := by
  have hp := h.head
  refine ⟨h.same, fun X hX => ?_, List.pairwise_append.2 ⟨hp.2, h.tail.apart, fun E hE X hX g hg => h.far hX g ⟨E, hE, hg⟩⟩⟩
  rcases List.mem_append.1 hX with hX | hX
  · exact ⟨hp.1 X hX, fun g hg => h.lt g ⟨X, hX, hg⟩⟩
  · exact h.tail.each X hX
end
end Go.Proofs.Ytonbcipofakpjaa

-- espalierref03.Book: lists of bytes that came out: words and laws.
namespace Go.Proofs.Ytonbcipofakpjaa
open Go.RowKit
/-- The mark of a byte: of list k, at place q. -/
def mrk (k q : Nat) : UInt8 := UInt8.ofNat (k + q / 251)
theorem mrk_val (k q : Nat) : ((k : Int) + (q : Int) / 251) % 256 = ((mrk k q).toNat : Int) := by
  unfold mrk; rw [UInt8.toNat_ofNat']; omega
def mkL (k m : Nat) : List UInt8 := (List.range m).map (mrk k)
theorem mkL_length (k m : Nat) : (mkL k m).length = m := by simp [mkL]
theorem mkL_snoc (k m : Nat) : mkL k (m + 1) = mkL k m ++ [mrk k m] := by simp [mkL, List.range_succ]
theorem mkL_take (k : Nat) {m n : Nat} (h : m ≤ n) : (mkL k n).take m = mkL k m := by
  unfold mkL
  rw [← List.map_take, List.take_range, Nat.min_eq_left h]
theorem mkL_get (k m q : Nat) (h : q < (mkL k m).length) : (mkL k m)[q] = mrk k q := by simp [mkL]
def OwLs (w : World) (base : Nat) (vs : List Value) (f : Nat → List UInt8) : Prop := ∀ (j : Nat) (u : Value), vs[j]? = some u → OwB w base u (f j)
def ApartL (vs : List Value) : Prop := ∀ (i j : Nat) (u u' : Value), i ≠ j → vs[i]? = some u → vs[j]? = some u' → ∀ g, u.ownBlock = some g → some g ≠ u'.ownBlock
theorem OwLs.grown {w w' : World} {base : Nat} {vs : List Value} {f : Nat → List UInt8} {row : Option Nat} (h : OwLs w base vs f) (hg : w.grownBy w' row) (hne : ∀ (j : Nat) (u : Value), vs[j]? = some u → ∀ g, u.ownBlock = some g → some g ≠ row) : OwLs w' base vs f :=
  fun j u hj => (h j u hj).grown hg (hne j u hj)
theorem OwLs.below' {w w' : World} {base B : Nat} {vs : List Value} {f : Nat → List UInt8} (h : OwLs w base vs f) (hb : Below B w w') (hB : w.heap.size ≤ B) : OwLs w' base vs f := fun j u hj => (h j u hj).below' hb hB
theorem OwLs.alloc {w : World} {base : Nat} {vs : List Value} {f : Nat → List UInt8} (h : OwLs w base vs f) (o : Obj) : OwLs (w.alloc o) base vs f := fun j u hj => (h j u hj).alloc o
/-- One byte of one of them is written. -/
theorem OwLs.set {w : World} {base : Nat} {vs : List Value} {f : Nat → List UInt8} (h : OwLs w base vs f) (ha : ApartL vs) {i g n c : Nat} (hi : vs[i]? = some (.slice (some ⟨g, 0, none⟩) n c)) (j : Nat) (x : UInt8) {f' : Nat → List UInt8} (hf : f' i = (f i).set j x) (hf' : ∀ k, k ≠ i → f' k = f k) :
    OwLs (w.setCell ⟨g, j, none⟩ (.int .u8 (x.toNat : Int))) base vs f' := by
  intro k u hk
  by_cases e : k = i
  · subst e
    rw [hi] at hk
    injection hk with hk
    subst hk
    rw [hf]
    exact (h k _ hi).set j x
  · rw [hf' k e]
    exact (h k u hk).grown (grownBy_setCell w _ _) (fun g' hg' => by
      have := ha k i u _ e hk hi g' hg'
      simpa [Value.ownBlock] using this)
/-- The slice e holds the marks of list b; where it lies in x's block it is no longer than n, and b is x's list. -/
def EOk (w : World) (base : Nat) (x : Value) (n : Nat) (bx : Nat) (e : Value) (m b : Nat) : Prop := OwB w base e (mkL b m) ∧ (∀ g, e.ownBlock = some g → x.ownBlock = some g → m ≤ n ∧ b = bx)
/-- What an append to x leaves of e. -/
theorem EOk.step {w w' : World} {base n s : Nat} {x x' e : Value} {bx m b : Nat} (h : EOk w base x n bx e m b) (hx : OwB w base x (mkL bx n)) (hx' : OwB w' base x (mkL bx n)) (hg : w.grownBy w' x.ownBlock)
    (hb : x'.ownBlock = x.ownBlock ∨ x'.ownBlock = some s) (hs : w.heap.size ≤ s) : EOk w' base x' (n + 1) bx e m b := by
  obtain ⟨ho, hm⟩ := h
  have hnew : ∀ g, e.ownBlock = some g → x'.ownBlock = some g → m ≤ n + 1 ∧ b = bx := by
    intro g he hxe
    rcases hb with hb | hb
    · rw [hb] at hxe
      have := hm g he hxe
      exact ⟨by omega, this.2⟩
    · rw [hb] at hxe
      injection hxe with hxe
      have := (ho.lt g he).2; omega
  refine ⟨?_, hnew⟩
  by_cases hsame : ∃ g, e.ownBlock = some g ∧ x.ownBlock = some g
  · obtain ⟨g, he, hxg⟩ := hsame
    obtain ⟨hmn, rfl⟩ := hm g he hxg
    rcases ho.form with ⟨rfl, _⟩ | ⟨g1, c1, rfl, _⟩
    · cases he
    rcases hx.form with ⟨rfl, _⟩ | ⟨g2, c2, rfl, _⟩
    · cases hxg
    simp [Value.ownBlock] at he hxg
    subst he; subst hxg
    have hc := ho.cap_eq hx
    subst hc
    have := hx'.take (m := m) (by rw [mkL_length]; exact hmn)
    rw [mkL_take _ hmn] at this
    rw [mkL_length]
    exact this
  · exact ho.grown hg (fun g he hr => hsame ⟨g, he, hr.symm⟩)
theorem EOk.grown {w w' : World} {base n : Nat} {x e : Value} {bx m b : Nat} {row : Option Nat} (h : EOk w base x n bx e m b) (hg : w.grownBy w' row) (hne : ∀ g, e.ownBlock = some g → some g ≠ row) : EOk w' base x n bx e m b :=
  ⟨h.1.grown hg hne, h.2⟩
/-- Another slice comes into x's place: one in another block. -/
theorem EOk.fresh {w : World} {base n n' : Nat} {x y e : Value} {bx by' m b : Nat} (h : EOk w base x n bx e m b) (hne : ∀ g, e.ownBlock = some g → y.ownBlock ≠ some g) : EOk w base y n' by' e m b :=
  ⟨h.1, fun g he hy => absurd hy (hne g he)⟩
theorem OwB.ne_own' {w : World} {b b' : Nat} {u v : Value} {l : List UInt8} {n : Nat} {vs : List Value} (h : OwB w b u l) (h' : Own w b' 27 1 v n vs) : ∀ g, u.ownBlock = some g → some g ≠ v.ownBlock :=
  fun _ hg he => h.ne_own h' he.symm hg.symm
/-- How many of the first q are kept. -/
def cntQ (q : Nat) : Nat := min q 3 + (if 8 < q then 1 else 0) + (if 19 < q then 1 else 0)
def keptQ (q : Nat) : Bool := decide (q < 3 ∨ q = 8 ∨ q = 19)
theorem cntQ_keep {q : Nat} (h : keptQ q = true) : cntQ (q + 1) = cntQ q + 1 ∧ cntQ q < 5 := by
  have h := of_decide_eq_true h
  unfold cntQ
  rcases h with h | rfl | rfl
  · rw [if_neg (by omega), if_neg (by omega), if_neg (by omega), if_neg (by omega)]; omega
  · decide
  · decide
theorem cntQ_drop {q : Nat} (h : keptQ q = false) (hq : q < 20) : cntQ (q + 1) = cntQ q := by
  have h := of_decide_eq_false h
  unfold cntQ
  by_cases h1 : 8 < q
  · rw [if_pos (by omega), if_pos h1, if_neg (by omega), if_neg (by omega)]; omega
  · rw [if_neg (by omega), if_neg h1, if_neg (by omega), if_neg (by omega)]; omega
/-- Where the growing of slice k stands. -/
structure InvQ (F : Nat → Prop) (w : World) (s2 base : Nat) (vs : List Value) (f : Nat → List UInt8) (v : Value) (k q : Nat) (gr x : Value) (es : List Value) (wi : World) : Prop where
  len : es.length = 5 * k + cntQ q
  own : Own wi s2 27 1 gr es.length es
  ox : OwB wi base x (mkL k ((f k).length + q))
  hE : ∀ (j : Nat) (e : Value), es[j]? = some e → (∃ m, EOk wi base x ((f k).length + q) k e m (j / 5)) ∧ ∀ (i : Nat) (u : Value), k < i → vs[i]? = some u → ∀ g, e.ownBlock = some g → u.ownBlock ≠ some g
  hk : ∀ (u : Value), vs[k]? = some u → EOk wi base x ((f k).length + q) k u (f k).length k
  hx : ∀ (i : Nat) (u : Value), i ≠ k → vs[i]? = some u → ∀ g, x.ownBlock = some g → u.ownBlock ≠ some g
  hv : Own wi base 27 1 v vs.length vs
  hl : ∀ (j : Nat) (u : Value), j ≠ k → vs[j]? = some u → OwB wi base u (mkL j (f j).length)
  hs : ∀ (j : Nat) (u : Value), vs[j]? = some u → ∀ g, u.ownBlock = some g → g < s2
  ht : Turn F w wi
  hxF : ∀ g, x.ownBlock = some g → F g ∨ w.heap.size ≤ g
  s2w : w.heap.size ≤ s2
  size : s2 ≤ wi.heap.size
section
variable {F : Nat → Prop} {w wi w3 w4 : World} {s2 base : Nat} {vs : List Value} {f : Nat → List UInt8} {v : Value} {k q : Nat} {gr x x3 gr4 : Value} {es : List Value}
/-- A byte is put behind x. -/
theorem InvQ.grow (h : InvQ F w s2 base vs f v k q gr x es wi)
    (ho3 : OwB w3 base x3 (mkL k ((f k).length + q) ++ [mrk k ((f k).length + q)])) (hg3 : wi.grownBy w3 x.ownBlock) (hb3 : x3.ownBlock = x.ownBlock ∨ x3.ownBlock = some (wi.heap.size + 1)) (hk3 : OwB w3 base x (mkL k ((f k).length + q)))
    (hq : es.length = 5 * k + cntQ (q + 1) ∨ es.length = 5 * k + cntQ q) :
    Own w3 s2 27 1 gr es.length es ∧ OwB w3 base x3 (mkL k ((f k).length + (q + 1))) ∧
    (∀ (j : Nat) (e : Value), es[j]? = some e → (∃ m, EOk w3 base x3 ((f k).length + (q + 1)) k e m (j / 5)) ∧ ∀ (i : Nat) (u : Value), k < i → vs[i]? = some u → ∀ g, e.ownBlock = some g → u.ownBlock ≠ some g) ∧
    (∀ (u : Value), vs[k]? = some u → EOk w3 base x3 ((f k).length + (q + 1)) k u (f k).length k) ∧
    (∀ (i : Nat) (u : Value), i ≠ k → vs[i]? = some u → ∀ g, x3.ownBlock = some g → u.ownBlock ≠ some g) ∧
    Own w3 base 27 1 v vs.length vs ∧ (∀ (j : Nat) (u : Value), j ≠ k → vs[j]? = some u → OwB w3 base u (mkL j (f j).length)) ∧ Turn F w w3 ∧ (∀ g, x3.ownBlock = some g → F g ∨ w.heap.size ≤ g) ∧ s2 ≤ w3.heap.size := by
  have hgr3 : Own w3 s2 27 1 gr es.length es := h.own.grown hg3 (fun g hg => h.ox.ne_own h.own hg)
  rw [← mkL_snoc, Nat.add_assoc] at ho3
  have hsz := h.ht.size
  have s3 := hg3.size
  have hz := h.size
  refine ⟨hgr3, ho3, fun j e hj => ?_, fun u hu => ?_, ?_, h.hv.grown hg3 (fun g hg => h.ox.ne_own h.hv hg), fun j u hj hu => (h.hl j u hj hu).grown hg3 (fun g hg he => h.hx j u hj hu g he.symm hg), h.ht.grown hg3 (fun g hg => h.hxF g hg), fun g hg => ?_, by omega⟩
  · obtain ⟨⟨m, he⟩, hne⟩ := h.hE j e hj
    exact ⟨⟨m, he.step h.ox hk3 hg3 hb3 (by omega)⟩, hne⟩
  · exact (h.hk u hu).step h.ox hk3 hg3 hb3 (by omega)
  · intro i u hi hu g hg hu'
    rcases hb3 with e | e
    · exact h.hx i u hi hu g (e ▸ hg) hu'
    · rw [e] at hg
      injection hg with hg
      have := h.hs i u hu g hu'
      omega
  · rcases hb3 with e | e
    · exact h.hxF g (e ▸ hg)
    · rw [e] at hg
      injection hg with hg
      right; omega
/-- .. and it is not kept. -/
theorem InvQ.drop (h : InvQ F w s2 base vs f v k q gr x es wi) (hq : q < 20) (hk : keptQ q = false)
    (ho3 : OwB w3 base x3 (mkL k ((f k).length + q) ++ [mrk k ((f k).length + q)])) (hg3 : wi.grownBy w3 x.ownBlock) (hb3 : x3.ownBlock = x.ownBlock ∨ x3.ownBlock = some (wi.heap.size + 1)) (hk3 : OwB w3 base x (mkL k ((f k).length + q))) :
    InvQ F w s2 base vs f v k (q + 1) gr x3 es w3 := by
  have hlen := h.len
  have hc := cntQ_drop hk hq
  obtain ⟨h1, h2, h3, h4, h5, h6, h7, h8, h8', h9⟩ := h.grow ho3 hg3 hb3 hk3 (.inr hlen)
  exact ⟨by rw [hc]; exact hlen, h1, h2, h3, h4, h5, h6, h7, h.hs, h8, h8', h.s2w, h9⟩
/-- .. and it is kept. -/
theorem InvQ.step (h : InvQ F w s2 base vs f v k q gr x es wi) (hk : keptQ q = true)
    (hV : ∀ g, v.ownBlock = some g → g < s2)
    (ho3 : OwB w3 base x3 (mkL k ((f k).length + q) ++ [mrk k ((f k).length + q)])) (hg3 : wi.grownBy w3 x.ownBlock) (hb3 : x3.ownBlock = x.ownBlock ∨ x3.ownBlock = some (wi.heap.size + 1)) (hk3 : OwB w3 base x (mkL k ((f k).length + q)))
    (hgr4 : Own w4 s2 27 1 gr4 (es.length + 1) (es ++ [x3])) (hg4 : w3.grownBy w4 gr.ownBlock) : InvQ F w s2 base vs f v k (q + 1) gr4 x3 (es ++ [x3]) w4 := by
  have hlen := h.len
  obtain ⟨hc, hc5⟩ := cntQ_keep hk
  obtain ⟨hgr3, ho, h3, h4, h5, h6, h7, h8, h8', h9⟩ := h.grow ho3 hg3 hb3 hk3 (.inr hlen)
  have ho4 := ho.grown hg4 (ho.ne_own' hgr3)
  have s4 := hg4.size
  have hsz := h8.size
  have hne : ∀ {u : Value} {l : List UInt8}, OwB w3 base u l → ∀ g, u.ownBlock = some g → some g ≠ gr.ownBlock := fun hu => OwB.ne_own' hu hgr3
  refine ⟨by simp [hlen, hc]; omega, by simpa using hgr4, ho4, ?_, fun u hu => (h4 u hu).grown hg4 (hne (h4 u hu).1), h5, ?_, fun j u hj hu => (h7 j u hj hu).grown hg4 (hne (h7 j u hj hu)), h.hs, ?_, h8', h.s2w, by omega⟩
  · intro j e hj
    rcases Nat.lt_or_ge j es.length with hlt | hge
    · rw [List.getElem?_append_left hlt] at hj
      obtain ⟨⟨m, he⟩, hn⟩ := h3 j e hj
      exact ⟨⟨m, he.grown hg4 (hne he.1)⟩, hn⟩
    · rw [List.getElem?_append_right hge] at hj
      have hj0 : j = es.length := by
        have := (List.getElem?_eq_some_iff.mp hj).1
        simp at this; omega
      subst hj0
      simp at hj
      subst hj
      have hd : es.length / 5 = k := by rw [hlen]; omega
      rw [hd]
      exact ⟨⟨_, ho4, fun g _ _ => ⟨Nat.le_refl _, rfl⟩⟩, fun i u hi hu => h5 i u (by omega) hu⟩
  · refine h6.grown hg4 (fun g hg he => ?_)
    have h1 := hV g hg
    have h2 := (hgr3.lt g he.symm).1
    omega
  · refine h8.grown hg4 (fun g hg => ?_)
    have h1 := (hgr3.lt g hg).1
    have h2 := h.s2w
    right; omega
end
theorem InvQ.gr3 {F : Nat → Prop} {w wi : World} {s2 base : Nat} {vs : List Value} {f : Nat → List UInt8} {v : Value} {k q : Nat} {gr x : Value} {es : List Value} (h : InvQ F w s2 base vs f v k q gr x es wi) :
    ∀ w3, wi.grownBy w3 x.ownBlock → Own w3 s2 27 1 gr es.length es := fun _ hg => h.own.grown hg (fun _ hg => h.ox.ne_own h.own hg)
theorem OwB.one {w : World} {b : Nat} {u : Value} {l : List UInt8} (h : OwB w b u l) : u.oneCell' = true := by
  rcases h.form with ⟨rfl, _⟩ | ⟨g, c, rfl, _⟩ <;> rfl
theorem OwB.slice' {w : World} {b n : Nat} {u : Value} {l : List UInt8} (h : OwB w b u l) (hn : l.length = n) : ∃ A c, u = .slice A n c := by
  subst hn; exact Own.slice h
def markF (f : Nat → List UInt8) (k : Nat) (j : Nat) : List UInt8 := bif decide (j < k) then mkL j (f j).length else f j
def markQ (f : Nat → List UInt8) (k q : Nat) (j : Nat) : List UInt8 := bif decide (j = k) then mkL k q ++ (f k).drop q else markF f k j
theorem markQ_0 (f : Nat → List UInt8) (k j : Nat) : markQ f k 0 j = markF f k j := by
  unfold markQ markF
  by_cases h : j = k <;> simp [h, mkL]
theorem markQ_n (f : Nat → List UInt8) (k j : Nat) : markQ f k (f k).length j = markF f (k + 1) j := by
  unfold markQ markF
  by_cases h : j = k
  · simp [h]
  · by_cases h2 : j < k
    · have : j < k + 1 := by omega
      simp [h, h2, this]
    · have : ¬ j < k + 1 := by omega
      simp [h, h2, this]
theorem markQ_set (f : Nat → List UInt8) (k q : Nat) (hq : q < (f k).length) : markQ f k (q + 1) k = (markQ f k q k).set q (mrk k q) := by
  unfold markQ
  simp only [decide_true, cond_true]
  rw [List.set_append_right _ _ (by rw [mkL_length]; exact Nat.le_refl _)]
  rw [mkL_length, Nat.sub_self, List.drop_eq_getElem_cons hq, List.set_cons_zero, mkL_snoc, List.append_assoc]
  rfl
theorem markQ_ne (f : Nat → List UInt8) (k q j : Nat) (h : j ≠ k) : markQ f k (q + 1) j = markQ f k q j := by
  unfold markQ; simp [h]
section laws
variable {w : World} {ops : Array Oper} {rest : List Oper} {o : Oper} {a : Act} {Q : Exit → Act → World → Prop}
/-- append(vs, u) of one slice that has just been laid. -/
theorem wp_append_L (hgd : o.guard = none) (s x : Operand)
    (ho : o.op = .call { callee := .builtin .append, args := #[s, x], argTypes := #[36, 36] })
    (base : Nat) (v : Value) (vs : List Value) (hs : a.eval s = v) (hown : Own w base 27 1 v vs.length vs)
    (u : Value) (hu : u.oneCell' = true) (T : TypeId) (hx : a.eval x = .slice (some ⟨w.heap.size, 0, none⟩) 1 1) (hsm : (vs.length + 1) * 24 ≤ 140737488355328) (hbase : base ≤ w.heap.size)
    (h : ∀ v' w', Own w' base 27 1 v' (vs.length + 1) (vs ++ [u]) → w.grownBy w' v.ownBlock → (v'.ownBlock = v.ownBlock ∨ (v'.ownBlock = some (w.heap.size + 1))) → wpList Try.prog ops Q rest (a.put o.dst v') w') :
    wpList Try.prog ops Q (o :: rest) a (w.alloc (.cells #[u] T)) := by
  obtain ⟨i, hi, hz0, hz1, hz2⟩ := info_parts L_info
  refine wp_append hgd s x _ _ ho base 27 i _ 1 24 Try.underlying36 hi hz0 hz1 hz2 rfl v vs.length vs hs (hown.alloc _) (.slice (some ⟨w.heap.size, 0, none⟩) 1 1) 1 [u] hx
    (Rd.src _ Try.underlying36 (by omega) (Rd.one w u T) (by simpa using hu)) (by omega) (by omega) (by simp; omega) ?_
  intro v' w' h1 h2 h3
  refine h v' w' h1 ⟨h2.os, h2.tape, h2.output, ?_, fun k hk hne => (h2.block k (by simp; omega) hne).trans (Below.heap_alloc _ _ _ hk)⟩ (by simpa using h3)
  have := h2.size
  simp at this; omega
end laws
end Go.Proofs.Ytonbcipofakpjaa

-- espalierref03.Book: marked, Take, Owned: walks.
namespace Go.Proofs.Ytonbcipofakpjaa
open Go.RowKit
set_option maxRecDepth 20000 in
set_option maxHeartbeats 2000000 in
theorem marked_any (v : Value) (n m : Nat) (w : World) (hv : RdB w v (mkL n m)) (hn : n ≤ 1000000000000) : Calls Try.prog 55 #[v, .int .i64 (n : Int)] w fun e w' => e = .returned (.bool true) ∧ w = w' := by
  have hm := hv.le
  obtain ⟨A, c, rfl, hc⟩ := hv.form
  rw [mkL_length] at hc hv hm ⊢
  go_enter Try.func55, Try.ntmps55
  go_wp2_with fail
  go_loopw [5] (fun i wr => ∃ q : Nat, q ≤ m ∧ i = .int .i64 (q : Int) ∧ w = wr) (fun i _ => m - (intOf i).toNat)
  case atStart => exact ⟨0, Nat.zero_le _, rfl, rfl⟩
  case round =>
    obtain ⟨q, hq, rfl, rfl⟩ := hrel
    by_cases hlt : q < m
    · obtain ⟨ad, rfl, hcell⟩ := hv.at_ (j := q) (by rw [mkL_length]; exact hlt)
      rw [mkL_get, ← mrk_val] at hcell
      have i1 : (q : Int) < (m : Int) := by omega
      go_wp2_with fail
      exact ⟨⟨q + 1, by omega, by go_num, trivial⟩, by simp [intOf]; omega⟩
    · obtain rfl : q = m := by omega
      go_wp2_with fail
      go_ret
      exact ⟨rfl, rfl⟩
theorem Own.ne_Tb {w : World} {b n size : Nat} {v : Value} {xs : List Value} {T T' : TypeId} {g : Nat} {cs : List Value} (h : Own w b T size v n xs) (hg : OBlk w g T' cs) (hT : T ≠ T') : some g ≠ v.ownBlock := by
  rcases h.2 with ⟨rfl, _⟩ | ⟨g', cap, cs', rfl, _, hg', _⟩
  · simp [Value.ownBlock]
  · intro e
    simp [Value.ownBlock] at e
    subst e
    exact (hg'.ne hg hT) rfl
/-- A book: its block, its lists. -/
structure BookAt (w : World) (b0 : Nat) (bb : Nat) (v : Value) (vs : List Value) (f : Nat → List UInt8) (T : TypeId := 38) (rest : List Value := []) : Prop where
  blk : OBlk w bb T (v :: rest)
  own : Own w b0 27 1 v vs.length vs
  each : OwLs w 0 vs f
  apart : ApartL vs
def InL (vs : List Value) (b : Nat) : Prop := ∃ (j : Nat) (u : Value), vs[j]? = some u ∧ u.ownBlock = some b
theorem BookAt.below {w w' : World} {b0 bb : Nat} {v : Value} {vs : List Value} {f : Nat → List UInt8} {T : TypeId} {rest : List Value} (h : BookAt w b0 bb v vs f T rest) (hb : Below w.heap.size w w') : BookAt w' b0 bb v vs f T rest :=
  ⟨h.blk.below hb h.blk.lt, Own.below' h.own hb (Nat.le_refl _), h.each.below' hb (Nat.le_refl _), h.apart⟩
set_option maxRecDepth 20000 in
set_option maxHeartbeats 2000000 in
/-- A list comes into the book. -/
theorem Take_gen {T : TypeId} {rest : List Value} (hT1 : 5 ≠ T) (hT2 : 27 ≠ T) (w : World) (b0 bb : Nat) (v : Value) (vs : List Value) (f : Nat → List UInt8) (u : Value) (l : List UInt8) (h : BookAt w b0 bb v vs f T rest) (h0 : b0 ≤ w.heap.size) (hn : vs.length ≤ 100000000) (hu : OwB w 0 u l) (ha : ∀ (j : Nat) (y : Value), vs[j]? = some y → ∀ g, u.ownBlock = some g → y.ownBlock ≠ some g) :
    Calls Try.prog 18 #[.pointer (some ⟨bb, 0, none⟩), u] w fun e w' => (∃ x, e = .returned x) ∧ ∃ v', BookAt w' b0 bb v' (vs ++ [u]) (fun j => if j = vs.length then l else f j) T rest ∧ Turn (fun b => b = bb ∨ v.ownBlock = some b) w w' ∧ (∀ g, v'.ownBlock = some g → v.ownBlock = some g ∨ w.heap.size ≤ g) := by
  obtain ⟨A, c, hv⟩ := Own.slice h.own
  have c0 := h.blk.cell' (j := 0) rfl
  have hone := OwB.one hu
  obtain ⟨A', c', hus⟩ := Own.slice hu
  subst hv
  subst hus
  have HH := Lib.hid h
  have lb := h.blk.lt
  clear h
  go_enter Try.func18, Try.ntmps18
  go_wp2_with (first
    | (at_builtin; refine wp_append_L rfl (.tmp 8) (.tmp 10) rfl b0 _ vs rfl HH.out.own _ hone _ rfl (by omega) h0 ?_; intro v' w' ho hg hk; obtain ⟨V, d, rfl⟩ := Own.slice ho; have hb' := HH.out.blk.grown hg (fun e => HH.out.own.ne_Tb HH.out.blk hT2 e); have c0' := hb'.cell' (j := 0) (u := .slice A vs.length c) rfl; have f0' := hb'.frozen (j := 0) (by simp))
    | fail)
  refine bodyPost_end (results_none rfl _ _ _) rfl ?_
  have hg2 := grownBy_setCell w' ⟨bb, 0, none⟩ (.slice V (vs.length + 1) d)
  have hh := HH.out
  have hbT : ∀ {x : Value} {m : List UInt8}, OwB w 0 x m → OwB (w'.setCell ⟨bb, 0, none⟩ (.slice V (vs.length + 1) d)) 0 x m := fun {x m} hx => by
    have h1 : OwB w' 0 x m := Own.grown hx hg (fun g hg' e => hx.ne_own hh.own e.symm (by rw [hg']))
    exact Own.grown h1 hg2 (fun g hg' e => OwB.ne_blk h1 hb' hT1 (by rw [hg', e]))
  refine ⟨⟨_, rfl⟩, .slice V (vs.length + 1) d, ⟨hb'.set 0 _, ?_, ?_, ?_⟩, ?_, ?_⟩
  · rw [List.length_append]
    exact Own.grown ho hg2 (fun g hg' e => ho.ne_Tb hb' hT2 (by rw [hg', e]))
  · intro j y hj
    rcases Nat.lt_or_ge j vs.length with hlt | hge
    · rw [List.getElem?_append_left hlt] at hj
      show OwB _ 0 y (if j = vs.length then l else f j)
      rw [if_neg (show ¬ j = vs.length by omega)]
      exact hbT (hh.each j y hj)
    · rw [List.getElem?_append_right hge] at hj
      have hj0 : j = vs.length := by
        have := (List.getElem?_eq_some_iff.mp hj).1
        simp at this; omega
      subst hj0
      simp at hj
      subst hj
      show OwB _ 0 _ (if vs.length = vs.length then l else f vs.length)
      rw [if_pos rfl]
      exact hbT hu
  · intro i j y y' hij hi hj g hg' e
    have split : ∀ (i : Nat) (y : Value), (vs ++ [Value.slice A' l.length c'])[i]? = some y → (i < vs.length ∧ vs[i]? = some y) ∨ (i = vs.length ∧ y = .slice A' l.length c') := fun i y hi => by
      rcases Nat.lt_or_ge i vs.length with hlt | hge
      · rw [List.getElem?_append_left hlt] at hi
        exact .inl ⟨hlt, hi⟩
      · rw [List.getElem?_append_right hge] at hi
        have h0 : i = vs.length := by
          have := (List.getElem?_eq_some_iff.mp hi).1
          simp at this; omega
        subst h0
        simp at hi
        exact .inr ⟨rfl, hi.symm⟩
    rcases split i y hi with ⟨h1, h2⟩ | ⟨h1, rfl⟩
    · rcases split j y' hj with ⟨h3, h4⟩ | ⟨h3, rfl⟩
      · exact hh.apart i j y y' hij h2 h4 g hg' e
      · exact ha i y h2 g e.symm hg'
    · rcases split j y' hj with ⟨h3, h4⟩ | ⟨h3, rfl⟩
      · exact ha j y' h4 g hg' e.symm
      · omega
  · exact (Turn.of_grown hg (fun k e => .inr e)).grown hg2 (fun b e => by cases e; exact .inl (.inl rfl))
  · intro g hg'
    rcases hk with e | e
    · exact .inl (e ▸ hg')
    · right
      have := e.symm.trans hg'
      injection this with this
      omega

theorem Take_any (w : World) (b0 bb : Nat) (v : Value) (vs : List Value) (f : Nat → List UInt8) (u : Value) (l : List UInt8) (h : BookAt w b0 bb v vs f) (h0 : b0 ≤ w.heap.size) (hn : vs.length ≤ 100000000) (hu : OwB w 0 u l) (ha : ∀ (j : Nat) (y : Value), vs[j]? = some y → ∀ g, u.ownBlock = some g → y.ownBlock ≠ some g) :
    Calls Try.prog 18 #[.pointer (some ⟨bb, 0, none⟩), u] w fun e w' => (∃ x, e = .returned x) ∧ ∃ v', BookAt w' b0 bb v' (vs ++ [u]) (fun j => if j = vs.length then l else f j) ∧ Turn (fun b => b = bb ∨ v.ownBlock = some b) w w' ∧ (∀ g, v'.ownBlock = some g → v.ownBlock = some g ∨ w.heap.size ≤ g) :=
  Take_gen (by decide) (by decide) w b0 bb v vs f u l h h0 hn hu ha
theorem OBlk.grownL {T : TypeId} (hT1 : 5 ≠ T) {w w' : World} {bb : Nat} {cs : List Value} {u : Value} {l : List UInt8} {b : Nat} (h : OBlk w bb T cs) (hu : OwB w b u l) (hg : w.grownBy w' u.ownBlock) : OBlk w' bb T cs :=
  h.grown hg (fun e => OwB.ne_blk hu h hT1 e)
set_option maxRecDepth 100000 in
set_option maxHeartbeats 8000000 in
theorem BookOwned_gen {T : TypeId} {rest : List Value} (hT1 : 5 ≠ T) (hT2 : 27 ≠ T) (v : Value) (vs : List Value) (f : Nat → List UInt8) (b0 bb : Nat) (w : World) (h : BookAt w b0 bb v vs f T rest) (hn : vs.length ≤ 8388608) (hsz : ∀ j, j < vs.length → (f j).length ≤ 1000000000) :
    Calls Try.prog 19 #[.pointer (some ⟨bb, 0, none⟩)] w fun e w' => e = .returned (.bool true) ∧ Turn (InL vs) w w' ∧ OwLs w' 0 vs (fun j => mkL j (f j).length) := by
  obtain ⟨hblk, hv0, hl, ha⟩ := h
  have hv : Own w 0 27 1 v vs.length vs := Own.low hv0 (Nat.zero_le _)
  obtain ⟨A, cv, rfl⟩ := hv.slice
  clear hv0
  go_enter Try.func19, Try.ntmps19
  go_wp2_with fail
  go_loopw [3] (fun i wr => ∃ k : Nat, i = .int .i64 (k : Int) ∧ k ≤ vs.length ∧ Own wr 0 27 1 (.slice A vs.length cv) vs.length vs ∧ OwLs wr 0 vs (markF f k) ∧ OBlk wr bb T (.slice A vs.length cv :: rest) ∧ Turn (InL vs) w wr)
    (fun i _ => vs.length - (intOf i).toNat)
  case atStart => exact ⟨0, rfl, Nat.zero_le _, hv, fun j u hj => by simpa [markF] using hl j u hj, hblk, Turn.refl _ _⟩
  case round =>
    clear hv hl hblk
    obtain ⟨k, rfl, hk, hv, hl, hblk, hT⟩ := hrel
    have c0 := hblk.cell' (j := 0) rfl
    by_cases hlt : k < vs.length
    · obtain ⟨gL, rfl⟩ : ∃ gL, A = some ⟨gL, 0, none⟩ := by
        rcases hv.form with ⟨h, h0⟩ | ⟨g, c, h, _⟩
        · omega
        · injection h with h; exact ⟨g, h⟩
      have hku : vs[k]? = some vs[k] := List.getElem?_eq_getElem hlt
      have how := hl k _ hku
      have hcell := hv.cells k _ hku
      have hlen : (markF f k k) = f k := by simp [markF]
      rw [hlen] at how
      obtain ⟨B, c, hform⟩ := how.slice
      rw [hform] at hku hcell
      have HU := Lib.hid hku
      have hm1 := hsz k hlt
      clear hlen how hform hku
      go_wp2_with fail
      obtain ⟨wq, rfl⟩ : ∃ wq, wq = wr := ⟨_, rfl⟩
      go_loopw [5] (fun i wi => ∃ q : Nat, i = .int .i64 (q : Int) ∧ q ≤ (f k).length ∧ Own wi 0 27 1 (.slice (some ⟨gL, 0, none⟩) vs.length cv) vs.length vs ∧ OwLs wi 0 vs (markQ f k q) ∧ OBlk wi bb T (.slice (some ⟨gL, 0, none⟩) vs.length cv :: rest) ∧ Turn (InL vs) w wi)
        (fun i _ => (f k).length - (intOf i).toNat)
      case atStart => exact ⟨0, rfl, Nat.zero_le _, hv, fun j u hj => by rw [markQ_0]; exact hl j u hj, hblk, hT⟩
      case round =>
        clear hv hl hblk hT hcell c0
        obtain ⟨q, rfl, hq, hv, hl, hblk, hT⟩ := hrel
        by_cases hql : q < (f k).length
        · have how := hl k _ HU.out
          have hlen : (markQ f k q k).length = (f k).length := by simp [markQ, mkL_length]; omega
          obtain ⟨g, rfl⟩ : ∃ g, B = some ⟨g, 0, none⟩ := by
            rcases how.form with ⟨_, h0⟩ | ⟨g, c, h, _⟩
            · rw [h0] at hlen; simp at hlen; omega
            · injection h with h; exact ⟨g, h⟩
          have hc2 := how.cell (j := q) (by omega)
          have hf2 := how.frozen (j := q) (by omega)
          have hgb := how.lt g rfl
          have hne := how.ne_own hv rfl
          have hnb := fun x => hblk.far (p := ⟨g, q, none⟩) (fun e => OwB.ne_blk how hblk hT1 (by rw [e]; rfl)) x
          have HNB := Lib.hid hnb
          have HIN : Hid (InL vs g) := Lib.hid ⟨k, _, HU.out, rfl⟩
          clear hnb
          generalize ((markQ f k q k)[q]'(by omega)).toNat = y at hc2
          clear how hlen
          go_wp2_with fail
          go_roundw
          case rel =>
            refine ⟨q + 1, by go_num, by omega, ?_, ?_, HNB.out _, hT.setCell _ _ (.inl HIN.out)⟩
            · exact hv.far (p := ⟨g, q, none⟩) hne _
            · rw [mrk_val]
              exact hl.set ha HU.out q (mrk k q) (markQ_set f k q hql) (fun j hj => markQ_ne f k q j hj)
          case measure => simp [intOf]; omega
        · obtain rfl : q = (f k).length := by omega
          go_wp2_with fail
          go_roundw
          case rel => exact ⟨k + 1, by go_num, by omega, hv, fun j u hj => by rw [← markQ_n]; exact hl j u hj, hblk, hT⟩
          case measure => simp [intOf]; omega
    · obtain rfl : k = vs.length := by omega
      have hl2 : ∀ (j : Nat) (u : Value), vs[j]? = some u → OwB wr 0 u (mkL j (f j).length) := fun j u hj => by
        have hjl := (List.getElem?_eq_some_iff.mp hj).1
        have := hl j u hj
        simpa [markF, hjl] using this
      clear hl
      go_wp2_with fail
      obtain ⟨w2, rfl⟩ : ∃ w2, w2 = wr := ⟨_, rfl⟩
      have hw2 := hT.size
      go_loopw [6, 7] (fun gr i wr => ∃ (k : Nat) (es : List Value), i = .int .i64 (k : Int) ∧ k ≤ vs.length ∧ es.length = 5 * k ∧ Own wr w2.heap.size 27 1 gr es.length es ∧
          (∀ (j : Nat) (e : Value), es[j]? = some e → (∃ m, EOk wr 0 (.slice none 0 0) 0 0 e m (j / 5)) ∧ ∀ (i : Nat) (u : Value), k ≤ i → vs[i]? = some u → ∀ g, e.ownBlock = some g → u.ownBlock ≠ some g) ∧
          Own wr 0 27 1 (.slice A vs.length cv) vs.length vs ∧ (∀ (j : Nat) (u : Value), vs[j]? = some u → OwB wr 0 u (mkL j (f j).length)) ∧ (∀ (j : Nat) (u : Value), vs[j]? = some u → ∀ g, u.ownBlock = some g → g < w2.heap.size) ∧
          OBlk wr bb T (.slice A vs.length cv :: rest) ∧ Turn (InL vs) w wr ∧ w2.heap.size ≤ wr.heap.size)
        (fun _ i _ => vs.length - (intOf i).toNat)
      case atStart => exact ⟨0, [], rfl, Nat.zero_le _, rfl, Own.nil _ _ _ _, fun j e h => by simp at h, hv, hl2, fun j u hj g hg => ((hl2 j u hj).lt g hg).2, hblk, hT, Nat.le_refl _⟩
      case round =>
        have hvlt := fun g h => (hv.lt g h).2
        have HV := Lib.hid hvlt
        clear hvlt hv hl2 hT c0 hblk
        obtain ⟨k, es, rfl, hk, hes, hgr, hE, hv, hl, hs, hblk, hT, hsz2⟩ := hrel
        have c0 := hblk.cell' (j := 0) rfl
        by_cases hlt : k < vs.length
        · obtain ⟨gL, rfl⟩ : ∃ gL, A = some ⟨gL, 0, none⟩ := by
            rcases hv.form with ⟨h, h0⟩ | ⟨g, c, h, _⟩
            · omega
            · injection h with h; exact ⟨g, h⟩
          have hku : vs[k]? = some vs[k] := List.getElem?_eq_getElem hlt
          have how := hl k _ hku
          have hcell := hv.cells k _ hku
          generalize vs[k] = u at *
          have hm1 := hsz k hlt
          have HU := Lib.hid hku
          have HES := Lib.hid hes
          obtain ⟨G, cG, rfl⟩ := hgr.slice
          clear hku
          rw [hes]
          clear hes
          go_wp2_with fail
          obtain ⟨wq, rfl⟩ : ∃ wq, wq = wr := ⟨_, rfl⟩
          go_loopw [6, 8, 9] (fun gr x j wi => ∃ (q : Nat) (es : List Value), j = .int .i64 (q : Int) ∧ q ≤ 20 ∧ InvQ (InL vs) w w2.heap.size 0 vs f (.slice (some ⟨gL, 0, none⟩) vs.length cv) k q gr x es wi ∧ OBlk wi bb T (.slice (some ⟨gL, 0, none⟩) vs.length cv :: rest))
            (fun _ _ j _ => 20 - (intOf j).toNat)
          case atStart =>
            refine ⟨0, es, rfl, by omega, ⟨HES.out, ?_, how, ?_, ?_, ?_, hv, fun j u _ hu => hl j u hu, hs, hT, fun g hg => .inl ⟨k, u, HU.out, hg⟩, hw2, hsz2⟩, hblk⟩
            · rw [HES.out]; rw [HES.out] at hgr; exact hgr
            · exact fun j e hj => ⟨⟨(hE j e hj).1.choose, (hE j e hj).1.choose_spec.fresh (fun g hg => (hE j e hj).2 k u (Nat.le_refl _) HU.out g hg)⟩, fun i u' hi hu' => (hE j e hj).2 i u' (Nat.le_of_lt hi) hu'⟩
            · intro u' hu'
              rw [HU.out] at hu'
              injection hu' with hu'
              subst hu'
              exact ⟨how, fun g _ _ => ⟨Nat.le_refl _, rfl⟩⟩
            · exact fun i u' hi hu' g hg hg' => ha k i u u' (fun e => hi e.symm) HU.out hu' g hg hg'.symm
          case round =>
            clear hgr hE hv hl hs hT hsz2 how hcell hblk c0
            obtain ⟨q, es, rfl, hq, hI, hblk⟩ := hrel
            by_cases hql : q < 20
            · have hlen3 := hI.len
              have hc5 : cntQ q ≤ 5 := by unfold cntQ; split <;> split <;> omega
              have hel : es.length ≤ 50000000 := by omega
              have hgr3 := hI.gr3
              have hs2 := hI.size
              have hox := hI.ox
              have HI := Lib.hid hI
              obtain ⟨n, hN⟩ : ∃ n, n = (f k).length + q := ⟨_, rfl⟩
              rw [← hN] at hox
              have HN := Lib.hid hN
              have hnb : n ≤ 2000000000 := by omega
              have hmv := mrk_val k n
              have HMV := Lib.hid hmv
              obtain ⟨X, cX, rfl⟩ := hox.slice' (n := n) (mkL_length _ _)
              clear hlen3 hN hmv hI
              have iq : (q : Int) < 20 := by omega
              go_upto_region 18 with (first
                | (at_builtin; refine wp_append_keep_B1 rfl (.tmp 64) (.tmp 71) rfl 0 _ _ rfl hox (mrk k n) _ (congrArg (Value.int .u8) HMV.out) 5 rfl (by rw [mkL_length]; omega) (Nat.zero_le _) ?_; intro x3 w3 ho3 hg3 hb3 hk3; obtain ⟨B3, c3, rfl⟩ := ho3.slice' (n := n + 1) (by rw [List.length_append, mkL_length]; rfl))
                | fail)
              have hblk3 := hblk.grownL hT1 hox hg3
              have ho1 := OwB.one ho3
              have hgrn := hgr3 _ hg3
              clear hox hgr3
              cases hkq : keptQ q
              · have hd := of_decide_eq_false hkq
                have j1 : ¬ (q : Int) < 3 := by omega
                have j2 : ((q : Int) == 8) = false := beq_eq_false_iff_ne.2 (by omega)
                have j3 : ((q : Int) == 19) = false := beq_eq_false_iff_ne.2 (by omega)
                have HK := Lib.hid hkq
                clear hd hkq
                go_wp2_with fail
                have hN := HN.out
                subst hN
                go_roundw
                case rel => exact ⟨q + 1, es, by go_num, by omega, HI.out.drop hql HK.out ho3 hg3 hb3 hk3, hblk3⟩
                case measure => simp [intOf]; omega
              · have hd := of_decide_eq_true hkq
                have HK := Lib.hid hkq
                clear hkq
                rcases hd with hd | hd | hd
                · have j1 : (q : Int) < 3 := by omega
                  clear hd
                  go_wp2_with (first
                    | (at_builtin; refine wp_append_L rfl (.tmp 83) (.tmp 85) rfl w2.heap.size _ es rfl hgrn _ ho1 27 rfl (by omega) (Nat.le_trans hs2 hg3.size) ?_; intro gr4 w4 hgr4 hg4 _)
                    | fail)
                  have hblk4 := hblk3.grown hg4 (fun e => hgrn.ne_Tb hblk3 hT2 e)
                  have hN := HN.out
                  subst hN
                  go_roundw
                  case rel => exact ⟨q + 1, _, by go_num, by omega, HI.out.step HK.out HV.out ho3 hg3 hb3 hk3 hgr4 hg4, hblk4⟩
                  case measure => simp [intOf]; omega
                · have j1 : ¬ (q : Int) < 3 := by omega
                  have j2 : ((q : Int) == 8) = true := beq_iff_eq.2 (by omega)
                  clear hd
                  go_wp2_with (first
                    | (at_builtin; refine wp_append_L rfl (.tmp 83) (.tmp 85) rfl w2.heap.size _ es rfl hgrn _ ho1 27 rfl (by omega) (Nat.le_trans hs2 hg3.size) ?_; intro gr4 w4 hgr4 hg4 _)
                    | fail)
                  have hblk4 := hblk3.grown hg4 (fun e => hgrn.ne_Tb hblk3 hT2 e)
                  have hN := HN.out
                  subst hN
                  go_roundw
                  case rel => exact ⟨q + 1, _, by go_num, by omega, HI.out.step HK.out HV.out ho3 hg3 hb3 hk3 hgr4 hg4, hblk4⟩
                  case measure => simp [intOf]; omega
                · have j1 : ¬ (q : Int) < 3 := by omega
                  have j2 : ((q : Int) == 8) = false := beq_eq_false_iff_ne.2 (by omega)
                  have j3 : ((q : Int) == 19) = true := beq_iff_eq.2 (by omega)
                  clear hd
                  go_wp2_with (first
                    | (at_builtin; refine wp_append_L rfl (.tmp 83) (.tmp 85) rfl w2.heap.size _ es rfl hgrn _ ho1 27 rfl (by omega) (Nat.le_trans hs2 hg3.size) ?_; intro gr4 w4 hgr4 hg4 _)
                    | fail)
                  have hblk4 := hblk3.grown hg4 (fun e => hgrn.ne_Tb hblk3 hT2 e)
                  have hN := HN.out
                  subst hN
                  go_roundw
                  case rel => exact ⟨q + 1, _, by go_num, by omega, HI.out.step HK.out HV.out ho3 hg3 hb3 hk3 hgr4 hg4, hblk4⟩
                  case measure => simp [intOf]; omega
            · obtain rfl : q = 20 := by omega
              have i1 : ¬ ((20 : Nat) : Int) < 20 := by omega
              have hI' := hI
              have HI := Lib.hid hI'
              have hlen3 := hI.len
              have hc20 : cntQ 20 = 5 := rfl
              rw [hc20] at hlen3
              clear hI hI'
              go_wp2_with fail
              go_roundw
              case rel =>
                have hI := HI.out
                refine ⟨k + 1, es, by go_num, by omega, by omega, hI.own, fun j e hj => ⟨⟨(hI.hE j e hj).1.choose, (hI.hE j e hj).1.choose_spec.fresh (fun g _ h => by cases h)⟩, fun i u' hi hu' => (hI.hE j e hj).2 i u' (by omega) hu'⟩, hI.hv, fun j u' hu' => ?_, hI.hs, hblk, hI.ht, hI.size⟩
                by_cases e : j = k
                · subst e; exact (hI.hk u' hu').1
                · exact hI.hl j u' e hu'
              case measure => simp [intOf]; omega
        · obtain rfl : k = vs.length := by omega
          have hE2 : ∀ (j : Nat) (e : Value), es[j]? = some e → ∃ m, OwB wr 0 e (mkL (j / 5) m) := fun j e hj => by
            obtain ⟨⟨m, h1⟩, _⟩ := hE j e hj
            exact ⟨m, h1.1⟩
          clear hE
          obtain ⟨G, cG, rfl⟩ := hgr.slice
          have hsm : es.length ≤ 50000000 := by omega
          have HE := Lib.hid hE2
          have HL := Lib.hid hl
          clear hE2 hes hl
          go_wp2_with fail
          obtain ⟨w5, rfl⟩ : ∃ w5, w5 = wr := ⟨_, rfl⟩
          go_loopw [10] (fun i wr => ∃ j : Nat, i = .int .i64 (j : Int) ∧ j ≤ vs.length ∧ wr = w5)
            (fun i _ => vs.length - (intOf i).toNat)
          case atStart => exact ⟨0, rfl, Nat.zero_le _, rfl⟩
          case round =>
            obtain ⟨j, rfl, hj, rfl⟩ := hrel
            by_cases hjl : j < vs.length
            · have hju : vs[j]? = some vs[j] := List.getElem?_eq_getElem hjl
              have how := HL.out j _ hju
              have hsj := hsz j hjl
              obtain ⟨gL, rfl⟩ : ∃ gL, A = some ⟨gL, 0, none⟩ := by
                rcases hv.form with ⟨h, h0⟩ | ⟨g, c, h, _⟩
                · omega
                · injection h with h; exact ⟨g, h⟩
              have hcell := hv.cells j _ hju
              have hmk := marked_any _ j (f j).length wr how.rd (by omega)
              generalize vs[j] = e at *
              clear hju how
              go_wp2_with fail
              refine hmk.mono ?_
              rintro e2 w6 ⟨rfl, rfl⟩
              go_wp2_with fail
              exact ⟨⟨j + 1, by go_num, by omega, trivial⟩, by simp [intOf]; omega⟩
            · obtain rfl : j = vs.length := by omega
              go_wp2_with fail
              obtain ⟨w5, rfl⟩ : ∃ w5, w5 = wr := ⟨_, rfl⟩
              go_loopw [12] (fun i wr => ∃ j : Nat, i = .int .i64 (j : Int) ∧ j ≤ es.length ∧ wr = w5)
                (fun i _ => es.length - (intOf i).toNat)
              case atStart => exact ⟨0, rfl, Nat.zero_le _, rfl⟩
              case round =>
                obtain ⟨j, rfl, hj, rfl⟩ := hrel
                by_cases hjl : j < es.length
                · have hju : es[j]? = some es[j] := List.getElem?_eq_getElem hjl
                  obtain ⟨m, how⟩ := HE.out j _ hju
                  obtain ⟨gG, rfl⟩ : ∃ gG, G = some ⟨gG, 0, none⟩ := by
                    rcases hgr.form with ⟨h, h0⟩ | ⟨g, c, h, _⟩
                    · omega
                    · injection h with h; exact ⟨g, h⟩
                  have hcell := hgr.cells j _ hju
                  have hmk := marked_any _ (j / 5) m wr how.rd (by omega)
                  rw [show ((j / 5 : Nat) : Int) = (j : Int) / 5 by omega] at hmk
                  generalize es[j] = e at *
                  clear hju how
                  go_wp2_with fail
                  refine hmk.mono ?_
                  rintro e2 w6 ⟨rfl, rfl⟩
                  go_wp2_with fail
                  exact ⟨⟨j + 1, by go_num, by omega, trivial⟩, by simp [intOf]; omega⟩
                · obtain rfl : j = es.length := by omega
                  go_wp2_with fail
                  go_ret
                  exact ⟨rfl, hT, fun j u hj => HL.out j u hj⟩
theorem BookOwned_any (v : Value) (vs : List Value) (f : Nat → List UInt8) (b0 bb : Nat) (w : World) (h : BookAt w b0 bb v vs f) (hn : vs.length ≤ 8388608) (hsz : ∀ j, j < vs.length → (f j).length ≤ 1000000000) :
    Calls Try.prog 19 #[.pointer (some ⟨bb, 0, none⟩)] w fun e w' => e = .returned (.bool true) ∧ Turn (InL vs) w w' ∧ OwLs w' 0 vs (fun j => mkL j (f j).length) :=
  BookOwned_gen (by decide) (by decide) v vs f b0 bb w h hn hsz
end Go.Proofs.Ytonbcipofakpjaa

-- copy into bytes that the call owns, at a place.
namespace Go.Proofs.Ytonbcipofakpjaa
open Go.RowKit
theorem splice_append {α : Type} (a b : List α) (o : Nat) (r : List α) (h : o + r.length ≤ a.length) : splice (a ++ b) o r = splice a o r ++ b := by
  unfold splice
  rw [List.take_append_of_le_length (by omega), List.drop_append_of_le_length h]
  simp [List.append_assoc]
theorem splice_take_n {α : Type} (cs : List α) (o n : Nat) (r : List α) (h : o + r.length ≤ n) (hn : n ≤ cs.length) : (splice cs o r).take n = splice (cs.take n) o r := by
  have hl : (cs.take n).length = n := by simp; omega
  have e := splice_append (cs.take n) (cs.drop n) o r (by omega)
  rw [List.take_append_drop] at e
  have h2 : (splice (cs.take n) o r).length = n := by rw [length_splice _ _ _ (by omega)]; exact hl
  rw [e]
  exact List.take_left' h2
section laws
variable {w : World} {ops : Array Oper} {rest : List Oper} {o : Oper} {a : Act} {Q : Exit → Act → World → Prop}
theorem wp_copy_At (hgd : o.guard = none) (d s : Operand)
    (ho : o.op = .call { callee := .builtin .copy, args := #[d, s], argTypes := #[27, 27] })
    (base g n cap off : Nat) (dA : Option Addr) (dLen dCap : Nat) (hd' : a.eval d = .slice dA dLen dCap) (hd : 0 < dLen → dA = some ⟨g, off, none⟩)
    (l : List UInt8) (hown : OwB w base (.slice (some ⟨g, 0, none⟩) n cap) l) (hl : l.length = n) (hfit : off + dLen ≤ n)
    (vx : Value) (m : List UInt8) (hx : a.eval s = vx) (hr : RdB w vx m)
    (h : ∀ w', OwB w' base (.slice (some ⟨g, 0, none⟩) n cap) (splice l off (m.take (min m.length dLen))) → w.grownBy w' (some g) → wpList Try.prog ops Q rest (a.put o.dst (goInt (min m.length dLen : Nat))) w') : wpList Try.prog ops Q (o :: rest) a w := by
  have hown' := hown
  unfold OwB at hown'
  rw [hl] at hown'
  obtain ⟨h0, h1⟩ := hown'
  rcases h1 with ⟨h1, _⟩ | ⟨g', cap', cs, h1, hb, ho2, h2, h3, h4, h5⟩
  · cases h1
  · injection h1 with hA _ hc
    injection hA with hA
    injection hA with hA
    subst hA; subst hc
    rw [Nat.mul_one] at h4 h5
    refine wp_copy hgd d s _ _ ho 5 Try.underlying27 u8_size dA dLen dCap g off hd' cs _ ho2 hd (by omega) vx m.length (bvs m) hx hr.rd (bvs_one m) ?_
    intro w' hw' hgr
    refine h w' ?_ hgr
    have hlr : (m.take (min m.length dLen)).length ≤ dLen := by simp; omega
    have hlen2 : (splice l off (m.take (min m.length dLen))).length = n := by rw [length_splice _ _ _ (by omega)]; exact hl
    unfold OwB
    rw [hlen2]
    have hlb : ((bvs m).take (min m.length dLen)).length ≤ dLen := by rw [← bvs_take, bvs_length]; exact hlr
    refine ⟨by rw [bvs_length, hlen2]; omega, .inr ⟨g, cap, _, rfl, hb, hw', h2, h3, ?_, ?_⟩⟩
    · rw [length_splice _ _ _ (by omega)]; omega
    · rw [Nat.mul_one, splice_take_n _ _ _ _ (by omega) (by omega), h5, bvs_splice, bvs_take]
end laws
end Go.Proofs.Ytonbcipofakpjaa
