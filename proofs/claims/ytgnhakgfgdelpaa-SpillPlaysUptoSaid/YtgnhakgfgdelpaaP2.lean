/- Texts joined: copy over the head of bytes that the call owns.; x[lo; Blocks outside of a set stand; Separate pieces of memory; Bytes that grow, as pieces.; Lists of integers; Lists of integers as pieces; The check sum in plain numbers; Ordered, ReadOrdered, order, common, behind; ink.Fixed, ink.half, ink.Sum; espalierref01.Fixed, step, SumOf; ink.ReadFixed -/
import Derived.Test.YtgnhakgfgdelpaaP1
import Derived.Laws.Slices
import Derived.Maps.RangeWalk
import Derived.Maps.OwnSet
import Derived.Laws.BitsAllLaws
import Derived.Outline
-- copy over the head of bytes that the call owns.
namespace Go.Proofs.Ytgnhakgfgdelpaa
open Go.RowKit
theorem OwB.some' {w : World} {b n : Nat} {u : Value} {l : List UInt8} (h : OwB w b u l) (hn : l.length = n) (h0 : 0 < n) : ∃ g c, u = .slice (some ⟨g, 0, none⟩) n c := by
  subst hn
  rcases h.form with ⟨_, rfl⟩ | ⟨g, c, rfl, _⟩
  · simp at h0
  · exact ⟨g, c, rfl⟩
section laws
variable {w : World} {ops : Array Oper} {rest : List Oper} {o : Oper} {a : Act} {Q : Exit → Act → World → Prop}
theorem wp_copy_Ow (hgd : o.guard = none) (d s : Operand)
    (ho : o.op = .call { callee := .builtin .copy, args := #[d, s], argTypes := #[25, 25] })
    (base g n k c cap : Nat) (l sp : List UInt8) (hd : a.eval d = .slice (some ⟨g, 0, none⟩) n c) (hown : OwB w base (.slice (some ⟨g, 0, none⟩) (n + k) cap) (l ++ sp)) (hl : l.length = n) (hk : sp.length = k)
    (vx : Value) (m : List UInt8) (hx : a.eval s = vx) (hr : RdB w vx m) (hm : m.length = n)
    (h : ∀ w', OwB w' base (.slice (some ⟨g, 0, none⟩) (n + k) cap) (m ++ sp) → w.grownBy w' (some g) → wpList Try.prog ops Q rest (a.put o.dst (goInt (n : Nat))) w') : wpList Try.prog ops Q (o :: rest) a w := by
  have hlen : (l ++ sp).length = n + k := by simp; omega
  have hown' := hown
  unfold OwB at hown'
  rw [hlen] at hown'
  obtain ⟨h0, h1⟩ := hown'
  rcases h1 with ⟨h1, _⟩ | ⟨g', cap', cs, h1, hb, ho2, h2, h3, h4, h5⟩
  · cases h1
  · injection h1 with hA _ hc
    injection hA with hA
    injection hA with hA
    subst hA; subst hc
    rw [Nat.mul_one] at h4 h5
    refine wp_copy hgd d s _ _ ho 5 Try.underlying25 u8_size _ n c g 0 hd cs _ ho2 (fun _ => rfl) (by omega) vx m.length (bvs m) hx hr.rd (bvs_one m) ?_
    intro w' hw' hgr
    rw [hm, Nat.min_self, List.take_of_length_le (by rw [bvs_length]; omega)] at hw'
    rw [hm, Nat.min_self]
    refine h w' ?_ hgr
    unfold OwB
    have hlen2 : (m ++ sp).length = n + k := by simp; omega
    rw [hlen2]
    refine ⟨by rw [bvs_length, hlen2]; omega, .inr ⟨g, cap, _, rfl, hb, hw', h2, h3, ?_, ?_⟩⟩
    · rw [length_splice _ _ _ (by rw [bvs_length]; omega)]; omega
    · rw [Nat.mul_one, bvs_append]
      have e : splice cs 0 (bvs m) = bvs m ++ cs.drop n := by
        unfold splice
        simp [bvs_length, hm]
      rw [e, List.take_append, bvs_length, hm, List.take_of_length_le (by rw [bvs_length]; omega), Nat.add_sub_cancel_left]
      congr 1
      have : (cs.take (n + k)).drop n = (bvs (l ++ sp)).drop n := by rw [h5]
      rw [List.drop_take, Nat.add_sub_cancel_left, bvs_append, List.drop_left' (by rw [bvs_length, hl])] at this
      exact this
end laws
end Go.Proofs.Ytgnhakgfgdelpaa

-- x[lo:], x[:hi], x[lo:hi] of bytes that are read: as run equations and readings.
namespace Go.Proofs.Ytgnhakgfgdelpaa
open Go.RowKit
theorem u8_elem : Try.prog.underlying 25 = some (.slice (Try.prog.elem 25)) := by kernel_rfl
theorem u8_sizeOf (w : World) : (sizeOf (Try.prog.elem 25)).run Try.prog w = .ok 1 w := by
  have he : Try.prog.elem 25 = 5 := by kernel_rfl
  rw [he]
  obtain ⟨i, hi, hz0, hz1, hz2⟩ := info_parts u8_info
  simp [sizeOf, typeInfo, hi, hz1]
theorem RdB.cap {w : World} {A : Option Addr} {n c : Nat} {l : List UInt8} (h : RdB w (.slice A n c) l) : n = l.length ∧ l.length ≤ c ∧ c ≤ 9223372036854775807 := by
  obtain ⟨A', c', hv, h1, h2, _⟩ := h
  injection hv with _ hn hc
  subst hc
  simp only [maxLen] at h2
  exact ⟨hn, h1, h2⟩
/-- x[lo:hi] -/
theorem RdB.run_lh {w : World} {A : Option Addr} {n c : Nat} {l : List UInt8} (h : RdB w (.slice A n c) l) (lo hi : Nat) (h1 : lo ≤ hi) (h2 : hi ≤ l.length) :
    ∃ A' c', (∀ w', (Instr.slice 25 (.slice A n c) (some (.int .i64 (lo : Int))) (some (.int .i64 (hi : Int))) none).run Try.prog w' = .ok (.slice A' (hi - lo) c') w') ∧ RdB w (.slice A' (hi - lo) c') ((l.take hi).drop lo) := by
  obtain ⟨_, hc, _⟩ := h.cap
  refine ⟨_, _, fun w' => ?_, h.cut h1 h2⟩
  have := run_slice_lh (P := Try.prog) w' 25 A n c u8_elem .i64 .i64 lo hi (by omega) (by omega) (by omega)
  rw [this, u8_sizeOf]
  simp [Result.andThen, sliced]
theorem RdB.run_l {w : World} {A : Option Addr} {n c : Nat} {l : List UInt8} (h : RdB w (.slice A n c) l) (lo : Nat) (h1 : lo ≤ l.length) :
    ∃ A' c', (∀ w', (Instr.slice 25 (.slice A n c) (some (.int .i64 (lo : Int))) none none).run Try.prog w' = .ok (.slice A' (l.length - lo) c') w') ∧ RdB w (.slice A' (l.length - lo) c') (l.drop lo) := by
  obtain ⟨rfl, hc, _⟩ := h.cap
  have hr := h.cut h1 (Nat.le_refl _)
  rw [List.take_length] at hr
  refine ⟨_, _, fun w' => ?_, hr⟩
  have := run_slice_l (P := Try.prog) w' 25 A l.length c u8_elem .i64 lo (by omega) (by omega)
  rw [this, u8_sizeOf]
  simp [Result.andThen, sliced]
theorem RdB.run_h {w : World} {A : Option Addr} {n c : Nat} {l : List UInt8} (h : RdB w (.slice A n c) l) (hi : Nat) (h2 : hi ≤ l.length) :
    ∃ A' c', (∀ w', (Instr.slice 25 (.slice A n c) none (some (.int .i64 (hi : Int))) none).run Try.prog w' = .ok (.slice A' hi c') w') ∧ RdB w (.slice A' hi c') (l.take hi) := by
  obtain ⟨_, hc, _⟩ := h.cap
  have hr := h.cut (Nat.zero_le hi) h2
  rw [List.drop_zero, Nat.sub_zero] at hr
  refine ⟨_, _, fun w' => ?_, hr⟩
  have := run_slice_h (P := Try.prog) w' 25 A n c u8_elem .i64 hi (by omega) (by omega)
  rw [this, u8_sizeOf]
  simp [Result.andThen, sliced]
end Go.Proofs.Ytgnhakgfgdelpaa

-- Blocks outside of a set stand: words for what a call may write.
namespace Go.Proofs.Ytgnhakgfgdelpaa
open Go.RowKit
/-- Blocks outside of F stand. -/
structure Turn (F : Nat → Prop) (w w' : World) : Prop where
  os : w'.os = w.os
  tape : w'.tape = w.tape
  output : w'.output = w.output
  size : w.heap.size ≤ w'.heap.size
  block : ∀ k, k < w.heap.size → ¬ F k → w'.heap[k]? = w.heap[k]?
/-- .. and what is in F now was there, or is new. -/
structure Step (F : Nat → Prop) (w : World) (F' : Nat → Prop) (w' : World) : Prop where
  turn : Turn F w w'
  grow : ∀ k, F' k → F k ∨ w.heap.size ≤ k
section
variable {F F' F'' G : Nat → Prop} {w w' w'' : World}
theorem Turn.refl (F : Nat → Prop) (w : World) : Turn F w w := ⟨rfl, rfl, rfl, Nat.le_refl _, fun _ _ _ => rfl⟩
theorem Turn.trans (h : Turn F w w') (k : Turn F' w' w'') (hs : ∀ b, F' b → F b ∨ w.heap.size ≤ b) : Turn F w w'' :=
  ⟨k.os.trans h.os, k.tape.trans h.tape, k.output.trans h.output, Nat.le_trans h.size k.size, fun b hb hn =>
    (k.block b (Nat.lt_of_lt_of_le hb h.size) (fun h' => (hs b h').elim hn (fun h1 => by omega))).trans (h.block b hb hn)⟩
theorem Turn.mono (h : Turn F w w') (hs : ∀ b, F b → G b) : Turn G w w' := ⟨h.os, h.tape, h.output, h.size, fun b hb hn => h.block b hb (fun e => hn (hs b e))⟩
theorem Turn.of_grown {row : Option Nat} (h : w.grownBy w' row) (hr : ∀ k, row = some k → F k) : Turn F w w' :=
  ⟨h.os, h.tape, h.output, h.size, fun b hb hn => h.block b hb (fun e => hn (hr b e.symm))⟩
theorem Turn.of_below (h : Below w.heap.size w w') : Turn F w w' := ⟨h.os, h.tape, h.output, h.size, fun b hb _ => h.block b hb⟩
theorem Turn.below {B : Nat} (h : Turn F w w') (hB : B ≤ w.heap.size) (hF : ∀ b, F b → B ≤ b) : Below B w w' :=
  ⟨h.os, h.tape, h.output, h.size, fun b hb => h.block b (by omega) (fun e => by have := hF b e; omega)⟩
theorem Turn.drew (h : Turn F w w') : Turn F w w'.drew := ⟨h.os, h.tape, h.output, h.size, h.block⟩
theorem Turn.drewN (h : Turn F w w') (n : Nat) : Turn F w (w'.drewN n) := ⟨h.os, h.tape, h.output, h.size, h.block⟩
theorem Turn.grown {row : Option Nat} (h : Turn F w w') (k : w'.grownBy w'' row) (hr : ∀ b, row = some b → F b ∨ w.heap.size ≤ b) : Turn F w w'' :=
  h.trans (F' := fun b => row = some b) (Turn.of_grown k fun _ e => e) hr
theorem Turn.new (h : Turn F w w') (k : Below w.heap.size w' w'') : Turn F w w'' :=
  ⟨k.os.trans h.os, k.tape.trans h.tape, k.output.trans h.output, Nat.le_trans h.size k.size, fun b hb hn => (k.block b hb).trans (h.block b hb hn)⟩
theorem Turn.alloc (h : Turn F w w') (o : Obj) : Turn F w (w'.alloc o) := h.new ((Below.refl _ _).alloc h.size o)
theorem Turn.setCell (h : Turn F w w') (p : Addr) (u : Value) (hp : F p.block ∨ w.heap.size ≤ p.block) : Turn F w (w'.setCell p u) :=
  h.grown (grownBy_setCell w' p u) (fun b e => by cases e; exact hp)
theorem Step.refl (F : Nat → Prop) (w : World) : Step F w F w := ⟨Turn.refl _ _, fun _ h => .inl h⟩
theorem Step.trans (h : Step F w F' w') (k : Step F' w' F'' w'') : Step F w F'' w'' :=
  ⟨h.turn.trans k.turn h.grow, fun b hb => (k.grow b hb).elim (h.grow b) (fun h1 => .inr (Nat.le_trans h.turn.size h1))⟩
/-- What the call owns and what no device has. -/
def Off (F : Nat → Prop) (v : Value) : Prop := ∀ g, v.ownBlock = some g → ¬ F g
theorem OwB.turn {b : Nat} {v : Value} {l : List UInt8} (h : OwB w b v l) (ht : Turn F w w') (ho : Off F v) : OwB w' b v l :=
  Own.heap h fun g hg => ht.block g (h.lt g hg).2 (ho g hg)
theorem OwB.off {b : Nat} {v : Value} {l : List UInt8} (h : OwB w b v l) (hs : Step F w F' w') (ho : Off F v) : Off F' v := fun g hg hf => by
  rcases hs.grow g hf with h1 | h1
  · exact ho g hg h1
  · have := (h.lt g hg).2
    omega
theorem OBlk.turn {g : Nat} {T : TypeId} {cs : List Value} (h : OBlk w g T cs) (ht : Turn F w w') (hg : ¬ F g) : OBlk w' g T cs := h.of_heap (ht.block g h.lt hg)
end
end Go.Proofs.Ytgnhakgfgdelpaa

-- Separate pieces of memory: one fact for all of them.
namespace Go.Proofs.Ytgnhakgfgdelpaa
open Go.RowKit
/-- A piece of memory: its blocks, and what holds of them. -/
structure Ent where
  F : Nat → Prop
  p : World → Prop
  loc : ∀ {w w' : World}, (∀ g, F g → w'.heap[g]? = w.heap[g]?) → p w → p w'
structure Same (w0 w : World) : Prop where
  os : w.os = w0.os
  tape : w.tape = w0.tape
  output : w.output = w0.output
  size : w0.heap.size ≤ w.heap.size
theorem Same.refl (w : World) : Same w w := ⟨rfl, rfl, rfl, Nat.le_refl _⟩
theorem Same.trans {a b c : World} (h : Same a b) (k : Same b c) : Same a c := ⟨k.os.trans h.os, k.tape.trans h.tape, k.output.trans h.output, Nat.le_trans h.size k.size⟩
theorem Same.of_below {B : Nat} {w w' : World} (h : Below B w w') : Same w w' := ⟨h.os, h.tape, h.output, h.size⟩
theorem Same.of_turn {F : Nat → Prop} {w w' : World} (h : Turn F w w') : Same w w' := ⟨h.os, h.tape, h.output, h.size⟩
/-- Pieces that lie apart, all of them in the world w, which came of w0. -/
structure Sep (w0 w : World) (L : List Ent) : Prop where
  same : Same w0 w
  each : ∀ E ∈ L, E.p w ∧ ∀ g, E.F g → g < w.heap.size
  apart : L.Pairwise fun a b => ∀ g, a.F g → ¬ b.F g
section
variable {w0 w w' : World} {L L' : List Ent} {E E' A B C D : Ent}
theorem Sep.perm (h : Sep w0 w L) (hp : L.Perm L') : Sep w0 w L' :=
  ⟨h.same, fun E hE => h.each E (hp.mem_iff.2 hE), (hp.pairwise_iff (fun {a b} hab g h1 h2 => hab g h2 h1)).1 h.apart⟩
theorem Sep.sw1 (h : Sep w0 w (A :: E :: L)) : Sep w0 w (E :: A :: L) := h.perm (List.perm_middle (l₁ := [A]))
theorem Sep.sw2 (h : Sep w0 w (A :: B :: E :: L)) : Sep w0 w (E :: A :: B :: L) := h.perm (List.perm_middle (l₁ := [A, B]))
theorem Sep.sw3 (h : Sep w0 w (A :: B :: C :: E :: L)) : Sep w0 w (E :: A :: B :: C :: L) := h.perm (List.perm_middle (l₁ := [A, B, C]))
theorem Sep.sw4 (h : Sep w0 w (A :: B :: C :: D :: E :: L)) : Sep w0 w (E :: A :: B :: C :: D :: L) := h.perm (List.perm_middle (l₁ := [A, B, C, D]))
/-- The piece behind the first n comes to the head. -/
theorem Sep.sw (L1 : List Ent) (h : Sep w0 w (L1 ++ E :: L)) : Sep w0 w (E :: (L1 ++ L)) := h.perm List.perm_middle
/-- The piece behind the first n behind the head comes next to the head. -/
theorem Sep.sn (L1 : List Ent) (h : Sep w0 w (A :: (L1 ++ E :: L))) : Sep w0 w (A :: E :: (L1 ++ L)) := h.perm (List.Perm.cons _ List.perm_middle)
/-- The first piece goes behind L1. -/
theorem Sep.back (L1 : List Ent) (h : Sep w0 w (E :: (L1 ++ L))) : Sep w0 w (L1 ++ E :: L) := h.perm List.perm_middle.symm
theorem Sep.head (h : Sep w0 w (E :: L)) : E.p w := (h.each E (List.mem_cons_self ..)).1
theorem Sep.lt (h : Sep w0 w (E :: L)) : ∀ g, E.F g → g < w.heap.size := (h.each E (List.mem_cons_self ..)).2
theorem Sep.of_mem (h : Sep w0 w L) (hE : E ∈ L) : E.p w := (h.each E hE).1
theorem Sep.tail (h : Sep w0 w (E :: L)) : Sep w0 w L := ⟨h.same, fun X hX => h.each X (List.mem_cons_of_mem _ hX), (List.pairwise_cons.1 h.apart).2⟩
theorem Sep.far (h : Sep w0 w (E :: L)) (hA : A ∈ L) : ∀ g, E.F g → ¬ A.F g := (List.pairwise_cons.1 h.apart).1 A hA
theorem Sep.cons (h : Sep w0 w L) (hp : E.p w) (hl : ∀ g, E.F g → g < w.heap.size) (ha : ∀ A ∈ L, ∀ g, E.F g → ¬ A.F g) : Sep w0 w (E :: L) :=
  ⟨h.same, fun X hX => by rcases List.mem_cons.1 hX with rfl | hX; exact ⟨hp, hl⟩; exact h.each X hX, List.pairwise_cons.2 ⟨ha, h.apart⟩⟩
/-- Nothing that was there is written. -/
theorem Sep.below (h : Sep w0 w L) (hb : Below w.heap.size w w') : Sep w0 w' L :=
  ⟨h.same.trans (Same.of_below hb), fun X hX => ⟨X.loc (fun g hg => hb.block g ((h.each X hX).2 g hg)) (h.each X hX).1, fun g hg => Nat.lt_of_lt_of_le ((h.each X hX).2 g hg) hb.size⟩, h.apart⟩
/-- .. and a new piece. -/
theorem Sep.new (h : Sep w0 w L) (hb : Below w.heap.size w w') (hp : E.p w') (hF : ∀ g, E.F g → w.heap.size ≤ g ∧ g < w'.heap.size) : Sep w0 w' (E :: L) :=
  (h.below hb).cons hp (fun g hg => (hF g hg).2) (fun X hX g hg h2 => by have h1 := (h.each X hX).2 g h2; have h3 := (hF g hg).1; omega)
/-- The first piece is written. -/
theorem Sep.upd (h : Sep w0 w (E :: L)) (ht : Turn E.F w w') (hp : E'.p w') (hF : ∀ g, E'.F g → (E.F g ∨ w.heap.size ≤ g) ∧ g < w'.heap.size) : Sep w0 w' (E' :: L) := by
  have hl : Sep w0 w' L := ⟨h.same.trans (Same.of_turn ht), fun X hX => ⟨X.loc (fun g hg => ht.block g ((h.tail.each X hX).2 g hg) (fun e => h.far hX g e hg)) (h.tail.each X hX).1, fun g hg => Nat.lt_of_lt_of_le ((h.tail.each X hX).2 g hg) ht.size⟩, h.tail.apart⟩
  refine hl.cons hp (fun g hg => (hF g hg).2) (fun X hX g hg h2 => ?_)
  rcases (hF g hg).1 with h3 | h3
  · exact h.far hX g h3 h2
  · have h1 := (h.tail.each X hX).2 g h2
    omega
/-- The first piece is written, and is of no more use. -/
theorem Sep.kill (h : Sep w0 w (E :: L)) (ht : Turn E.F w w') : Sep w0 w' L :=
  ⟨h.same.trans (Same.of_turn ht), fun X hX => ⟨X.loc (fun g hg => ht.block g ((h.tail.each X hX).2 g hg) (fun e => h.far hX g e hg)) (h.tail.each X hX).1, fun g hg => Nat.lt_of_lt_of_le ((h.tail.each X hX).2 g hg) ht.size⟩, h.tail.apart⟩
/-- The first piece is told otherwise. -/
theorem Sep.weak (h : Sep w0 w (E :: L)) (hp : E.p w → E'.p w) (hF : ∀ g, E'.F g → E.F g) : Sep w0 w (E' :: L) :=
  h.tail.cons (hp h.head) (fun g hg => h.lt g (hF g hg)) (fun _ hX g hg => h.far hX g (hF g hg))
/-- Two pieces as one. -/
def Ent.star (A B : Ent) : Ent := ⟨fun g => A.F g ∨ B.F g, fun w => A.p w ∧ B.p w ∧ ∀ g, A.F g → ¬ B.F g,
  fun h ⟨h1, h2, h3⟩ => ⟨A.loc (fun g hg => h g (.inl hg)) h1, B.loc (fun g hg => h g (.inr hg)) h2, h3⟩⟩
theorem Sep.join (h : Sep w0 w (A :: B :: L)) : Sep w0 w (A.star B :: L) := by
  refine h.tail.tail.cons ⟨h.head, h.tail.head, h.far (List.mem_cons_self ..)⟩ (fun g hg => hg.elim (h.lt g) (h.tail.lt g)) (fun X hX g hg => ?_)
  rcases hg with hg | hg
  · exact h.far (List.mem_cons_of_mem _ hX) g hg
  · exact h.tail.far hX g hg
theorem Sep.split (h : Sep w0 w (A.star B :: L)) : Sep w0 w (A :: B :: L) := by
  refine (h.tail.cons (E := B) h.head.2.1 (fun g hg => h.lt g (.inr hg)) (fun X hX g hg => h.far hX g (.inr hg))).cons h.head.1 (fun g hg => h.lt g (.inl hg)) (fun X hX g hg => ?_)
  rcases List.mem_cons.1 hX with rfl | hX
  · exact h.head.2.2 g hg
  · exact h.far hX g (.inl hg)
/-- The first two pieces are written. -/
theorem Sep.upd2 (h : Sep w0 w (A :: B :: L)) (ht : Turn (fun g => A.F g ∨ B.F g) w w') (hc : C.p w') (hd : D.p w') (hC : ∀ g, C.F g → (A.F g ∨ B.F g ∨ w.heap.size ≤ g) ∧ g < w'.heap.size) (hD : ∀ g, D.F g → (A.F g ∨ B.F g ∨ w.heap.size ≤ g) ∧ g < w'.heap.size)
    (hCD : ∀ g, C.F g → ¬ D.F g) : Sep w0 w' (C :: D :: L) := by
  refine Sep.split (h.join.upd (E' := C.star D) ht ⟨hc, hd, hCD⟩ (fun g hg => ?_))
  rcases hg with hg | hg
  · exact ⟨by rcases (hC g hg).1 with h | h | h; exact .inl (.inl h); exact .inl (.inr h); exact .inr h, (hC g hg).2⟩
  · exact ⟨by rcases (hD g hg).1 with h | h | h; exact .inl (.inl h); exact .inl (.inr h); exact .inr h, (hD g hg).2⟩
theorem Sep.drewN (h : Sep w0 w L) (n : Nat) : Sep w0 (w.drewN n) L := h.below (w' := w.drewN n) ⟨rfl, rfl, rfl, Nat.le_refl _, fun _ _ => rfl⟩
theorem Sep.drew (h : Sep w0 w L) : Sep w0 w.drew L := h.below (w' := w.drew) ⟨rfl, rfl, rfl, Nat.le_refl _, fun _ _ => rfl⟩
/-! ### kinds of pieces -/
/-- All that was there in w0. -/
def oldE (w0 : World) : Ent := ⟨fun g => g < w0.heap.size, fun w => ∀ g, g < w0.heap.size → w.heap[g]? = w0.heap[g]?, fun h k g hg => (h g hg).trans (k g hg)⟩
theorem Sep.start (w : World) : Sep w w [oldE w] := ⟨Same.refl w, fun E hE => by obtain rfl := List.mem_singleton.1 hE; exact ⟨fun _ _ => rfl, fun _ h => h⟩, List.pairwise_singleton _ _⟩
theorem Sep.belowOld {v : World} (h : Sep w0 w L) (hm : oldE w0 ∈ L) : Below w0.heap.size w0 w := ⟨h.same.os, h.same.tape, h.same.output, h.same.size, h.of_mem hm⟩
theorem Sep.old_cell {v : World} (h : Sep w0 w L) (hm : oldE v ∈ L) : ∀ p : Addr, p.block < v.heap.size → w.cell? p = v.cell? p := fun p hp => World.cell?_of_block (h.of_mem hm p.block hp)
theorem Sep.rd {v : World} {x : Value} {l : List UInt8} (h : Sep w0 w L) (hm : oldE v ∈ L) (hr : RdB v x l) : RdB w x l := hr.keep (h.old_cell hm)
/-- A block. -/
def blkE (g : Nat) (T : TypeId) (cs : List Value) : Ent := ⟨fun b => b = g, fun w => OBlk w g T cs, fun h k => k.of_heap (h g rfl)⟩
/-- Bytes of the call's own, or nil. -/
def bytesE (v : Value) (l : List UInt8) : Ent := ⟨fun g => v.ownBlock = some g, fun w => OwB w 0 v l, fun h k => Own.heap k h⟩
def ownE (T : TypeId) (size : Nat) (v : Value) (n : Nat) (xs : List Value) : Ent := ⟨fun g => v.ownBlock = some g, fun w => Own w 0 T size v n xs, fun h k => Own.heap k h⟩
theorem Sep.alloc (h : Sep w0 w L) (T : TypeId) (cs : List Value) : Sep w0 (w.alloc (.cells cs.toArray T)) (blkE w.heap.size T cs :: L) :=
  h.new ((Below.refl _ _).alloc (Nat.le_refl _) _) (OBlk.new' w T cs) (fun g hg => by have hg' : g = w.heap.size := hg; rw [World.size_alloc]; omega)
theorem Sep.setCell {g : Nat} {T : TypeId} {cs : List Value} (h : Sep w0 w (blkE g T cs :: L)) (j : Nat) (u : Value) : Sep w0 (w.setCell ⟨g, j, none⟩ u) (blkE g T (cs.set j u) :: L) :=
  h.upd (Turn.of_grown (grownBy_setCell w ⟨g, j, none⟩ u) (fun k e => (Option.some.inj e).symm)) (OBlk.set (h.head : OBlk w g T cs) j u) (fun b hb => ⟨.inl hb, by have h' := h.lt b hb; simpa using h'⟩)
theorem Sep.bytes {b : Nat} {v : Value} {l : List UInt8} (h : Sep w0 w L) (hb : Below w.heap.size w w') (ho : OwB w' b v l) (hB : w.heap.size ≤ b) : Sep w0 w' (bytesE v l :: L) :=
  h.new hb (OwB.low ho (Nat.zero_le _)) (fun g hg => ⟨Nat.le_trans hB (Own.lt ho g hg).1, (Own.lt ho g hg).2⟩)
/-- A list that is read, in whichever piece. -/
def RdIn (L : List Ent) (v : Value) (l : List UInt8) : Prop := ∃ E ∈ L, ∀ w, E.p w → RdB w v l
theorem RdIn.cons {v : Value} {l : List UInt8} (h : RdIn L v l) : RdIn (E :: L) v l := by obtain ⟨X, hX, h⟩ := h; exact ⟨X, List.mem_cons_of_mem _ hX, h⟩
theorem Sep.rdIn {v : Value} {l : List UInt8} (h : Sep w0 w L) (hr : RdIn L v l) : RdB w v l := by obtain ⟨X, hX, hr⟩ := hr; exact hr w (h.of_mem hX)
/-- Many pieces as one. -/
def allE (D : List Ent) : Ent := ⟨fun g => ∃ E ∈ D, E.F g, fun w => (∀ E ∈ D, E.p w) ∧ D.Pairwise (fun (a b : Ent) => ∀ g : Nat, a.F g → ¬ b.F g),
  fun h ⟨h1, h2⟩ => ⟨fun E hE => E.loc (fun g hg => h g ⟨E, hE, hg⟩) (h1 E hE), h2⟩⟩
theorem Sep.pack {D : List Ent} (h : Sep w0 w (D ++ L)) : Sep w0 w (allE D :: L) := by
  have h1 := List.pairwise_append.1 h.apart
  refine Sep.cons ⟨h.same, fun X hX => h.each X (List.mem_append_right _ hX), h1.2.1⟩ ⟨fun E hE => (h.each E (List.mem_append_left _ hE)).1, h1.1⟩ (fun g hg => ?_) (fun X hX g hg => ?_)
  · obtain ⟨E, hE, hg⟩ := hg
    exact (h.each E (List.mem_append_left _ hE)).2 g hg
  · obtain ⟨E, hE, hg⟩ := hg
    exact h1.2.2 E hE X hX g hg
theorem Sep.unpack {D : List Ent} (h : Sep w0 w (allE D :: L)) : Sep w0 w (D ++ L) := by
  have hp := h.head
  refine ⟨h.same, fun X hX => ?_, List.pairwise_append.2 ⟨hp.2, h.tail.apart, fun E hE X hX g hg => h.far hX g ⟨E, hE, hg⟩⟩⟩
  rcases List.mem_append.1 hX with hX | hX
  · exact ⟨hp.1 X hX, fun g hg => h.lt g ⟨X, hX, hg⟩⟩
  · exact h.tail.each X hX
end
end Go.Proofs.Ytgnhakgfgdelpaa

-- Bytes that grow, as pieces.
namespace Go.Proofs.Ytgnhakgfgdelpaa
open Go.RowKit
/-- An append to bytes of the call's own, in the words of pieces. -/
theorem Sep.appended {w0 w w' : World} {v v' : Value} {l m : List UInt8} {L : List Ent} (h : Sep w0 w (bytesE v l :: L)) (ho : OwB w' 0 v' m) (hg : w.grownBy w' v.ownBlock) (hk : v'.ownBlock = v.ownBlock ∨ v'.ownBlock = some w.heap.size) : Sep w0 w' (bytesE v' m :: L) :=
  h.upd (Turn.of_grown hg (fun _ e => e)) ho (fun g hg' => ⟨by
    rcases hk with e | e
    · exact .inl (e.symm.trans hg' : v.ownBlock = some g)
    · right
      have := e.symm.trans hg'
      injection this with this
      omega, (Own.lt ho g hg').2⟩)
theorem Sep.nil {w0 w : World} {L : List Ent} (h : Sep w0 w L) : Sep w0 w (bytesE (.slice none 0 0) [] :: L) :=
  h.cons (OwB.nil w 0) (fun g hg => by cases hg) (fun _ _ g hg => by cases hg)
end Go.Proofs.Ytgnhakgfgdelpaa

-- Lists of integers: read, owned, appended.
namespace Go.Proofs.Ytgnhakgfgdelpaa
open Go.RowKit
def ivs (ks : List Int) : List Value := ks.map (Value.int .i64)
theorem ivs_length (ks : List Int) : (ivs ks).length = ks.length := by simp [ivs]
theorem ivs_append (a b : List Int) : ivs (a ++ b) = ivs a ++ ivs b := by simp [ivs]
def RdI (w : World) (v : Value) (ks : List Int) : Prop := Rd w 1 v ks.length (ivs ks)
def OwI (w : World) (base : Nat) (v : Value) (ks : List Int) : Prop := Own w base 3 1 v ks.length (ivs ks)
def intsE (v : Value) (ks : List Int) : Ent := ⟨fun g => v.ownBlock = some g, fun w => OwI w 0 v ks, fun h k => Own.heap k h⟩
theorem int_info : (Try.prog.info? 3).map (fun i => (i.zero, i.size, i.bytes)) = some (some (.int .i64 0), 1, 8) := by kernel_rfl
theorem ivs_one (ks : List Int) : ∀ u ∈ ivs ks, u.oneCell' = true := by
  intro u hu
  obtain ⟨k, _, rfl⟩ := List.mem_map.mp hu
  rfl
theorem RdI.nil (w : World) : RdI w (.slice none 0 0) [] := Rd.nil
theorem RdI.form {w : World} {v : Value} {ks : List Int} (h : RdI w v ks) : ∃ A c, v = .slice A ks.length c ∧ ks.length ≤ c ∧ c ≤ 9223372036854775807 := by
  obtain ⟨_, A, c, hv, h1, h2, _⟩ := h
  exact ⟨A, c, hv, h1, h2⟩
theorem RdI.at_ {w : World} {A : Option Addr} {n c j : Nat} {ks : List Int} (h : RdI w (.slice A n c) ks) (hj : j < ks.length) : ∃ ad, A = some ad ∧ w.cell? (ad.add j) = some (.int .i64 ks[j]) := by
  obtain ⟨_, A', c', hv, _, _, h3⟩ := h
  injection hv with hA
  subst hA
  exact h3 j _ (by simp [ivs, hj])
theorem OwI.rd {w : World} {b : Nat} {v : Value} {ks : List Int} (h : OwI w b v ks) : RdI w v ks := Own.rd h
section laws
variable {w : World} {ops : Array Oper} {rest : List Oper} {o : Oper} {a : Act} {Q : Exit → Act → World → Prop}
theorem wp_append_I (hgd : o.guard = none) (s x : Operand)
    (ho : o.op = .call { callee := .builtin .append, args := #[s, x], argTypes := #[45, 45] })
    (base : Nat) (v : Value) (l : List Int) (hs : a.eval s = v) (hown : OwI w base v l)
    (vx : Value) (m : List Int) (hx : a.eval x = vx) (hr : RdI w vx m) (hsm : (l.length + m.length) * 8 ≤ 140737488355328) (hbase : base ≤ w.heap.size)
    (h : ∀ v' w', OwI w' base v' (l ++ m) → w.grownBy w' v.ownBlock → (v'.ownBlock = v.ownBlock ∨ v'.ownBlock = some w.heap.size) → wpList Try.prog ops Q rest (a.put o.dst v') w') :
    wpList Try.prog ops Q (o :: rest) a w := by
  obtain ⟨i, hi, hz0, hz1, hz2⟩ := info_parts int_info
  refine wp_append hgd s x _ _ ho base 3 i _ 1 8 Try.underlying45 hi hz0 hz1 hz2 rfl v l.length (ivs l) hs hown vx m.length (ivs m) hx (Rd.src w Try.underlying45 (by omega) hr (ivs_one m)) (by omega) (by omega) hbase ?_
  intro v' w' h1 h2 h3
  refine h v' w' ?_ h2 h3
  unfold OwI
  rw [List.length_append, ivs_append]
  exact h1
/-- append(l, n) of one integer that has just been laid. -/
theorem wp_append_I1 (hgd : o.guard = none) (s x : Operand)
    (ho : o.op = .call { callee := .builtin .append, args := #[s, x], argTypes := #[45, 45] })
    (base : Nat) (v : Value) (l : List Int) (hs : a.eval s = v) (hown : OwI w base v l)
    (y : Int) (T : TypeId) (hx : a.eval x = .slice (some ⟨w.heap.size, 0, none⟩) 1 1) (hsm : (l.length + 1) * 8 ≤ 140737488355328) (hbase : base ≤ w.heap.size)
    (h : ∀ v' w', OwI w' base v' (l ++ [y]) → w.grownBy w' v.ownBlock → (v'.ownBlock = v.ownBlock ∨ (v'.ownBlock = some (w.heap.size + 1))) → wpList Try.prog ops Q rest (a.put o.dst v') w') :
    wpList Try.prog ops Q (o :: rest) a (w.alloc (.cells #[.int .i64 y] T)) := by
  refine wp_append_I hgd s x ho base v l hs (Own.alloc hown _) (.slice (some ⟨w.heap.size, 0, none⟩) 1 1) [y] hx ?_ (by simpa using hsm) (by simp; omega) ?_
  · show Rd _ 1 _ 1 [.int .i64 y]
    exact Rd.one w (.int .i64 y) T
  · intro v' w' h1 h2 h3
    refine h v' w' h1 ⟨h2.os, h2.tape, h2.output, ?_, fun k hk hne => (h2.block k (by simp; omega) hne).trans (Below.heap_alloc _ _ _ hk)⟩ (by simpa using h3)
    have := h2.size
    simp at this; omega
/-- make([]int, n, c). -/
theorem wp_make_I (hg : o.guard = none) (l c : Operand) (hop : o.op = Op.makeSlice 45 l c)
    (n m : Nat) (hl : a.eval l = .int .i64 (n : Int)) (hc : a.eval c = .int .i64 (m : Int)) (hnm : n ≤ m) (hn : m ≤ 1099511627776)
    (hK : ∀ w', OBlk w' w.heap.size 3 (ivs (List.replicate m 0)) → Below w.heap.size w w' → w'.heap.size = w.heap.size + 1 → wpList Try.prog ops Q rest (a.put o.dst (.slice (some ⟨w.heap.size, 0, none⟩) n m)) w') :
    wpList Try.prog ops Q (o :: rest) a w := by
  obtain ⟨i, hi, hz0, hz1, hz2⟩ := info_parts int_info
  refine wpList_plain hg fun K hK' => ?_
  have hr := run_make (P := Try.prog) w 45 3 i _ Try.underlying45 hi hz0 .i64 .i64 n m (by omega) (by omega) (by rw [hz2]; omega) (by omega)
  unfold Oper.wp
  simp [execOp, hop, hl, hc, hr, Result.andThen]
  refine hK' _ _ (hK _ ?_ ((Below.refl _ _).alloc (Nat.le_refl _) _) (by simp))
  have e := toList_madeCells_one (.int .i64 0) m
  have := OBlk.new w 3 (madeCells #[.int .i64 0] m)
  rw [e] at this
  simpa [Value.cells, hz1, ivs] using this
end laws
section
variable {w0 w w' : World} {L : List Ent}
theorem Sep.ints {b : Nat} {v : Value} {l : List Int} (h : Sep w0 w L) (hb : Below w.heap.size w w') (ho : OwI w' b v l) (hB : w.heap.size ≤ b) : Sep w0 w' (intsE v l :: L) :=
  h.new hb (Own.low ho (Nat.zero_le _)) (fun g hg => ⟨Nat.le_trans hB (Own.lt ho g hg).1, (Own.lt ho g hg).2⟩)
end
end Go.Proofs.Ytgnhakgfgdelpaa

-- Lists of integers as pieces: new ones, cells set, appended.
namespace Go.Proofs.Ytgnhakgfgdelpaa
open Go.RowKit
theorem ivs_take (l : List Int) (n : Nat) : ivs (l.take n) = (ivs l).take n := by simp [ivs]
theorem ivs_set (l : List Int) (j : Nat) (x : Int) : ivs (l.set j x) = (ivs l).set j (.int .i64 x) := by simp [ivs, List.map_set]
theorem OBlk.owI {w : World} {g base n : Nat} {m : List Int} (h : OBlk w g 3 (ivs m)) (hb : base ≤ g) (hm : m.length ≤ maxLen) (hn : n ≤ m.length) : OwI w base (.slice (some ⟨g, 0, none⟩) n m.length) (m.take n) := by
  have e : (m.take n).length = n := by simp; omega
  refine ⟨by simp [ivs_length], .inr ⟨g, m.length, ivs m, by rw [e], hb, h, by rw [e]; exact hn, hm, by simp [ivs_length], ?_⟩⟩
  rw [ivs_take, e, Nat.mul_one]
theorem Own.some_ {w : World} {b n sz : Nat} {T : TypeId} {v : Value} {xs : List Value} (h : Own w b T sz v n xs) (h0 : 0 < n) : ∃ g c, v = .slice (some ⟨g, 0, none⟩) n c := by
  rcases h.form with ⟨_, rfl⟩ | ⟨g, c, rfl, _⟩
  · omega
  · exact ⟨_, _, rfl⟩
theorem OwI.cell {w : World} {base g n cap j : Nat} {l : List Int} (h : OwI w base (.slice (some ⟨g, 0, none⟩) n cap) l) (hj : j < l.length) : w.cell? ⟨g, j, none⟩ = some (.int .i64 l[j]) := by
  have hn : n = l.length := by obtain ⟨A, c, hv⟩ := Own.slice h; injection hv
  subst hn
  exact Own.cells h j _ (by simp [ivs, hj])
theorem OwI.frozen {w : World} {base g n cap j : Nat} {l : List Int} (h : OwI w base (.slice (some ⟨g, 0, none⟩) n cap) l) (hj : j < l.length) : w.frozen? ⟨g, j, none⟩ = false := by
  have hn : n = l.length := by obtain ⟨A, c, hv⟩ := Own.slice h; injection hv
  subst hn
  exact Own.frozen h (by simpa [ivs] using hj)
theorem OwI.set {w : World} {base g n cap : Nat} {l : List Int} (h : OwI w base (.slice (some ⟨g, 0, none⟩) n cap) l) (j : Nat) (x : Int) : OwI (w.setCell ⟨g, j, none⟩ (.int .i64 x)) base (.slice (some ⟨g, 0, none⟩) n cap) (l.set j x) := by
  have hn : n = l.length := by obtain ⟨A, c, hv⟩ := Own.slice h; injection hv
  subst hn
  unfold OwI
  rw [List.length_set, ivs_set]
  exact Own.set h j _
section
variable {w0 w w' : World} {L : List Ent}
theorem Sep.setInt {g n cap : Nat} {l : List Int} (h : Sep w0 w (intsE (.slice (some ⟨g, 0, none⟩) n cap) l :: L)) (j : Nat) (x : Int) : Sep w0 (w.setCell ⟨g, j, none⟩ (.int .i64 x)) (intsE (.slice (some ⟨g, 0, none⟩) n cap) (l.set j x) :: L) :=
  h.upd (Turn.of_grown (grownBy_setCell w ⟨g, j, none⟩ _) (fun _ e => e)) (OwI.set h.head j x) (fun b hb => ⟨.inl hb, by have h' := h.lt b hb; simpa using h'⟩)
theorem Sep.nilI (h : Sep w0 w L) : Sep w0 w (intsE (.slice none 0 0) [] :: L) :=
  h.cons (Own.nil w 0 _ _) (fun g hg => by cases hg) (fun _ _ g hg => by cases hg)
theorem Sep.appI {v v' : Value} {l m : List Int} (h : Sep w0 w (intsE v l :: L)) (ho : OwI w' 0 v' m) (hg : w.grownBy w' v.ownBlock) (hk : v'.ownBlock = v.ownBlock ∨ ∃ k, v'.ownBlock = some k ∧ w.heap.size ≤ k) : Sep w0 w' (intsE v' m :: L) :=
  h.upd (Turn.of_grown hg (fun _ e => e)) ho (fun g hg' => ⟨by
    rcases hk with e | ⟨k, e, hk⟩
    · exact .inl (e.symm.trans hg' : v.ownBlock = some g)
    · right
      have := e.symm.trans hg'
      injection this with this
      omega, (Own.lt ho g hg').2⟩)
end
end Go.Proofs.Ytgnhakgfgdelpaa

-- The check sum in plain numbers: bit by bit; four bits at a time by a table; that it is linear and loses nothing.
namespace Go.Proofs.Ytgnhakgfgdelpaa

def crcBit (r : Nat) : Nat := if r % 2 = 1 then (r / 2) ^^^ 2197175160 else r / 2
def crcN : Nat → Nat → Nat
  | 0, r => r
  | k + 1, r => crcN k (crcBit r)
def crcByte (r : Nat) (x : UInt8) : Nat := crcN 8 (r ^^^ x.toNat)
def crcF (r : Nat) (l : List UInt8) : Nat := l.foldl crcByte r
def sumF (l : List UInt8) : Nat := crcF 4294967295 l ^^^ 4294967295

def halfTab : List Nat := [0x00000000, 0x105ec76f, 0x20bd8ede, 0x30e349b1, 0x417b1dbc, 0x5125dad3, 0x61c69362, 0x7198540d, 0x82f63b78, 0x92a8fc17, 0xa24bb5a6, 0xb21572c9, 0xc38d26c4, 0xd3d3e1ab, 0xe330a81a, 0xf36e6f75]
def halfF (r : Nat) : Nat := halfTab.getD (r % 16) 0

theorem xor_div2 (a b : Nat) : (a ^^^ b) / 2 = a / 2 ^^^ b / 2 := by
  apply Nat.eq_of_testBit_eq; intro i; simp [Nat.testBit_div_two, Nat.testBit_xor]
theorem xor_mod2 (a b : Nat) : (a ^^^ b) % 2 = (a + b) % 2 := by
  have h := Nat.testBit_xor a b 0
  simp only [Nat.testBit_zero] at h
  have ha : a % 2 = 0 ∨ a % 2 = 1 := by omega
  have hb : b % 2 = 0 ∨ b % 2 = 1 := by omega
  have hc : (a ^^^ b) % 2 = 0 ∨ (a ^^^ b) % 2 = 1 := by omega
  rcases ha with ha | ha <;> rcases hb with hb | hb <;> rcases hc with hc | hc <;> simp [ha, hb, hc] at h <;> omega
theorem crcBit_eq (r : Nat) : crcBit r = r / 2 ^^^ (if r % 2 = 1 then 2197175160 else 0) := by
  unfold crcBit; split <;> simp
theorem crcBit_xor (a b : Nat) : crcBit (a ^^^ b) = crcBit a ^^^ crcBit b := by
  rw [crcBit_eq, crcBit_eq, crcBit_eq, xor_div2, xor_mod2]
  have ha : a % 2 = 0 ∨ a % 2 = 1 := by omega
  have hb : b % 2 = 0 ∨ b % 2 = 1 := by omega
  rcases ha with ha | ha <;> rcases hb with hb | hb
  · rw [if_neg (by omega), if_neg (by omega), if_neg (by omega)]; simp
  · rw [if_pos (by omega), if_neg (by omega), if_pos (by omega)]; simp [Nat.xor_assoc]
  · rw [if_pos (by omega), if_pos (by omega), if_neg (by omega)]
    simp only [Nat.xor_zero]
    rw [Nat.xor_assoc, Nat.xor_assoc, Nat.xor_comm (b / 2)]
  · rw [if_neg (by omega), if_pos (by omega), if_pos (by omega)]
    simp only [Nat.xor_zero]
    rw [Nat.xor_assoc, Nat.xor_comm 2197175160, Nat.xor_assoc, Nat.xor_self, Nat.xor_zero]
theorem crcN_xor (k a b : Nat) : crcN k (a ^^^ b) = crcN k a ^^^ crcN k b := by
  induction k generalizing a b with
  | zero => rfl
  | succ k ih => simp only [crcN, crcBit_xor, ih]
theorem crcN_add (j k r : Nat) : crcN (j + k) r = crcN k (crcN j r) := by
  induction j generalizing r with
  | zero => simp [crcN]
  | succ j ih => rw [Nat.succ_add]; simp only [crcN]; exact ih _
theorem crcN_shl (k q : Nat) : crcN k (2 ^ k * q) = q := by
  induction k generalizing q with
  | zero => simp [crcN]
  | succ k ih =>
    simp only [crcN]
    have e : crcBit (2 ^ (k + 1) * q) = 2 ^ k * q := by
      rw [Nat.pow_succ, Nat.mul_right_comm]
      unfold crcBit
      rw [if_neg (by omega)]; omega
    rw [e, ih]
theorem crcBit_lt (r : Nat) (h : r < 4294967296) : crcBit r < 4294967296 := by
  rw [crcBit_eq]
  refine Nat.xor_lt_two_pow (n := 32) (by omega) ?_
  split <;> omega
theorem crcN_lt (k r : Nat) (h : r < 4294967296) : crcN k r < 4294967296 := by
  induction k generalizing r with
  | zero => exact h
  | succ k ih => exact ih _ (crcBit_lt r h)
theorem xor_split (r : Nat) : r = (2 ^ 4 * (r / 16)) ^^^ (r % 16) := by
  have := nat_join 4 (2 ^ 4 * (r / 16)) (r % 16) (by omega) (by omega)
  have h2 : (2 ^ 4 * (r / 16)) ^^^ (r % 16) = (2 ^ 4 * (r / 16)) ||| (r % 16) := by
    apply Nat.eq_of_testBit_eq
    intro i
    rw [Nat.testBit_xor, Nat.testBit_or]
    by_cases hi : i < 4
    · rw [Nat.testBit_two_pow_mul]; simp [show ¬ (4 ≤ i) by omega]
    · rw [show r % 16 = r % 2 ^ 4 from rfl, Nat.testBit_mod_two_pow]; simp [hi]
  rw [h2, this]; omega
theorem half_eq (r : Nat) : halfF r ^^^ r / 16 = crcN 4 r := by
  conv => rhs; rw [xor_split r]
  rw [crcN_xor, crcN_shl, Nat.xor_comm]
  congr 1
  have h : r % 16 < 16 := by omega
  unfold halfF
  generalize r % 16 = k at h
  have : ∀ k, k < 16 → halfTab.getD k 0 = crcN 4 k := by decide +kernel
  exact this k h
theorem halfF_lt (r : Nat) : halfF r < 4294967296 := by
  have h : r % 16 < 16 := by omega
  unfold halfF
  generalize r % 16 = k at h
  have : ∀ k, k < 16 → halfTab.getD k 0 < 4294967296 := by decide +kernel
  exact this k h
/-- A byte, as the code does it. -/
theorem crcByte_eq (r : Nat) (x : UInt8) : crcByte r x = halfF (halfF (r ^^^ x.toNat) ^^^ (r ^^^ x.toNat) / 16) ^^^ (halfF (r ^^^ x.toNat) ^^^ (r ^^^ x.toNat) / 16) / 16 := by
  rw [half_eq, half_eq, ← crcN_add]; rfl
theorem crcByte_lt (r : Nat) (x : UInt8) (h : r < 4294967296) : crcByte r x < 4294967296 :=
  crcN_lt 8 _ (Nat.xor_lt_two_pow (n := 32) h (by have := x.toNat_lt; omega))
theorem crcF_lt (r : Nat) (l : List UInt8) (h : r < 4294967296) : crcF r l < 4294967296 := by
  induction l generalizing r with
  | nil => exact h
  | cons x l ih => exact ih _ (crcByte_lt r x h)
theorem sumF_lt (l : List UInt8) : sumF l < 4294967296 := Nat.xor_lt_two_pow (n := 32) (crcF_lt _ l (by omega)) (by omega)
theorem crcF_append (r : Nat) (l m : List UInt8) : crcF r (l ++ m) = crcF (crcF r l) m := by simp [crcF]
theorem crcF_snoc (r : Nat) (l : List UInt8) (x : UInt8) : crcF r (l ++ [x]) = crcByte (crcF r l) x := by simp [crcF]
/-! ### Nothing is lost -/
theorem crcBit_zero {c : Nat} (hc : c < 4294967296) (h : crcBit c = 0) : c = 0 := by
  unfold crcBit at h
  split at h
  · have : c / 2 = 2197175160 := by
      have := congrArg (· ^^^ 2197175160) h
      simpa [Nat.xor_assoc] using this
    omega
  · omega
theorem xor_eq_zero' {a b : Nat} (h : a ^^^ b = 0) : a = b := by
  have := congrArg (· ^^^ b) h
  simpa [Nat.xor_assoc] using this
theorem crcN_zero (k : Nat) {c : Nat} (hc : c < 4294967296) (h : crcN k c = 0) : c = 0 := by
  induction k generalizing c with
  | zero => exact h
  | succ k ih => exact crcBit_zero hc (ih (crcBit_lt c hc) h)
theorem crcN_inj (k : Nat) {a b : Nat} (ha : a < 4294967296) (hb : b < 4294967296) (h : crcN k a = crcN k b) : a = b := by
  have h0 : crcN k (a ^^^ b) = 0 := by rw [crcN_xor, h, Nat.xor_self]
  exact xor_eq_zero' (crcN_zero k (Nat.xor_lt_two_pow (n := 32) ha hb) h0)
theorem xor_cancel_right {a b c : Nat} (h : a ^^^ c = b ^^^ c) : a = b := by
  have := congrArg (· ^^^ c) h
  simpa [Nat.xor_assoc] using this
theorem crcF_inj (l : List UInt8) {a b : Nat} (ha : a < 4294967296) (hb : b < 4294967296) (h : crcF a l = crcF b l) : a = b := by
  induction l generalizing a b with
  | nil => exact h
  | cons x l ih =>
    have hx : x.toNat < 4294967296 := by have := x.toNat_lt; omega
    have := ih (crcByte_lt a x ha) (crcByte_lt b x hb) h
    exact xor_cancel_right (crcN_inj 8 (Nat.xor_lt_two_pow (n := 32) ha hx) (Nat.xor_lt_two_pow (n := 32) hb hx) this)
/-- A row of bytes, the first one lowest. -/
def word : List UInt8 → Nat
  | [] => 0
  | x :: l => x.toNat ^^^ (256 * word l)
theorem crcF_word (l : List UInt8) (r : Nat) : crcF r l = crcN (8 * l.length) (r ^^^ word l) := by
  induction l generalizing r with
  | nil => simp [crcF, word, crcN]
  | cons x l ih =>
    have e : crcF r (x :: l) = crcF (crcByte r x) l := rfl
    rw [e, ih, List.length_cons, Nat.mul_add, Nat.mul_one, Nat.add_comm, crcN_add]
    congr 1
    unfold crcByte
    rw [word, ← Nat.xor_assoc, crcN_xor 8 (r ^^^ x.toNat)]
    congr 1
    exact (crcN_shl 8 (word l)).symm
end Go.Proofs.Ytgnhakgfgdelpaa

-- Ordered, ReadOrdered, order, common, behind: plain laws, no program.
namespace Go.Proofs.Ytgnhakgfgdelpaa
/-! ### Ordered -/
def escF (l : List UInt8) : List UInt8 := l.flatMap fun x => if x = 0 then [0, 255] else [x]
def ordF (l : List UInt8) : List UInt8 := escF l ++ [0, 1]
theorem escF_nil : escF [] = [] := rfl
theorem escF_zero (l : List UInt8) : escF (0 :: l) = 0 :: 255 :: escF l := by simp [escF]
theorem escF_one {x : UInt8} (h : x ≠ 0) (l : List UInt8) : escF (x :: l) = x :: escF l := by simp [escF, h]
theorem escF_append (l m : List UInt8) : escF (l ++ m) = escF l ++ escF m := by simp [escF]
theorem escF_len (l : List UInt8) : l.length ≤ (escF l).length ∧ (escF l).length ≤ 2 * l.length := by
  induction l with
  | nil => simp [escF]
  | cons x l ih =>
    by_cases h : x = 0
    · subst h; rw [escF_zero]; simp; omega
    · rw [escF_one h]; simp; omega
theorem escF_count (l : List UInt8) : (escF l).length = l.length + l.count 0 := by
  induction l with
  | nil => simp [escF]
  | cons x l ih =>
    by_cases h : x = 0
    · subst h; rw [escF_zero]; simp; omega
    · rw [escF_one h]; simp [ih, h]; omega
/-- Reading: what was read so far, the bytes taken. -/
def roA : List UInt8 → Nat → List UInt8 → List UInt8 × Nat × Int
  | _, _, [] => ([], 0, 10)
  | _, _, [_] => ([], 0, 10)
  | acc, k, x :: y :: r =>
    if x = 0 then
      if y = 1 then (acc, k + 2, 0)
      else if y = 255 then roA (acc ++ [0]) (k + 2) r
      else ([], 0, 11)
    else roA (acc ++ [x]) (k + 1) (y :: r)
theorem roA_x (acc : List UInt8) (k : Nat) (x : UInt8) (r : List UInt8) (h : x ≠ 0) : roA acc k (x :: r) = roA (acc ++ [x]) (k + 1) r := by
  cases r with
  | nil => simp [roA]
  | cons y r => simp [roA, h]
/-- A stretch without zeros. -/
theorem roA_seg (s : List UInt8) (hs : ∀ x ∈ s, x ≠ 0) : ∀ (acc : List UInt8) (k : Nat) (r : List UInt8), roA acc k (s ++ r) = roA (acc ++ s) (k + s.length) r := by
  induction s with
  | nil => intro acc k r; simp
  | cons x s ih =>
    intro acc k r
    rw [List.cons_append, roA_x _ _ _ _ (hs x (by simp)), ih (fun y hy => hs y (by simp [hy]))]
    simp [Nat.add_assoc, Nat.add_comm 1]
theorem roA_none (s : List UInt8) (hs : ∀ x ∈ s, x ≠ 0) (acc : List UInt8) (k : Nat) : roA acc k s = ([], 0, 10) := by
  have := roA_seg s hs acc k []
  rw [List.append_nil] at this
  rw [this]; rfl
/-- What was written is read. -/
theorem roA_ordF : ∀ (l acc rest : List UInt8) (k : Nat), roA acc k (ordF l ++ rest) = (acc ++ l, k + (ordF l).length, 0)
  | [], acc, rest, k => by simp [ordF, escF_nil, roA]
  | x :: l, acc, rest, k => by
    have ih := roA_ordF l
    by_cases h : x = 0
    · subst h
      have e : ordF (0 :: l) ++ rest = 0 :: 255 :: (ordF l ++ rest) := by simp [ordF, escF_zero]
      have e2 : (ordF (0 :: l)).length = (ordF l).length + 2 := by simp [ordF, escF_zero]
      rw [e, e2]
      have : roA acc k (0 :: 255 :: (ordF l ++ rest)) = roA (acc ++ [0]) (k + 2) (ordF l ++ rest) := by
        rw [roA]; simp
      rw [this, ih]
      simp; omega
    · have e : ordF (x :: l) ++ rest = x :: (ordF l ++ rest) := by simp [ordF, escF_one h]
      have e2 : (ordF (x :: l)).length = (ordF l).length + 1 := by simp [ordF, escF_one h]
      rw [e, e2, roA_x _ _ _ _ h, ih]
      simp; omega
theorem ordF_drop (l : List UInt8) : (ordF l).dropLast = escF l ++ [0] := by
  unfold ordF
  rw [show escF l ++ [0, 1] = (escF l ++ [0]) ++ [1] by simp, List.dropLast_concat]
/-- A byte fewer is too short. -/
theorem roA_short : ∀ (l acc : List UInt8) (k : Nat), roA acc k (escF l ++ [0]) = ([], 0, 10)
  | [], acc, k => rfl
  | x :: l, acc, k => by
    have ih := roA_short l
    by_cases h : x = 0
    · subst h
      have e : escF (0 :: l) ++ [0] = 0 :: 255 :: (escF l ++ [0]) := by simp [escF_zero]
      have : roA acc k (0 :: 255 :: (escF l ++ [0])) = roA (acc ++ [0]) (k + 2) (escF l ++ [0]) := by rw [roA]; simp
      rw [e, this, ih]
    · have e : escF (x :: l) ++ [0] = x :: (escF l ++ [0]) := by simp [escF_one h]
      rw [e, roA_x _ _ _ _ h, ih]
/-! ### Order -/
def ordC : List UInt8 → List UInt8 → Int
  | [], [] => 0
  | [], _ :: _ => -1
  | _ :: _, [] => 1
  | x :: a, y :: b => if x < y then -1 else if y < x then 1 else ordC a b
theorem ordC_range : ∀ (a b : List UInt8), ordC a b = -1 ∨ ordC a b = 0 ∨ ordC a b = 1
  | [], [] => by simp [ordC]
  | [], _ :: _ => by simp [ordC]
  | _ :: _, [] => by simp [ordC]
  | x :: a, y :: b => by
    have := ordC_range a b
    unfold ordC
    split
    · simp
    · split
      · simp
      · exact this
theorem ordC_self : ∀ (a : List UInt8), ordC a a = 0
  | [] => rfl
  | x :: a => by
    have h : ¬ x < x := by rw [UInt8.lt_iff_toNat_lt]; omega
    simp [ordC, h, ordC_self a]
theorem ordC_eq : ∀ (a b : List UInt8), ordC a b = 0 → a = b
  | [], [], _ => rfl
  | [], _ :: _, h => by simp [ordC] at h
  | _ :: _, [], h => by simp [ordC] at h
  | x :: a, y :: b, h => by
    unfold ordC at h
    split at h
    · simp at h
    · rename_i h1
      split at h
      · simp at h
      · rename_i h2
        rw [UInt8.lt_iff_toNat_lt] at h1 h2
        have e : x = y := UInt8.toNat_inj.mp (by omega)
        rw [e, ordC_eq a b h]
theorem ordC_same (x : UInt8) (a b : List UInt8) : ordC (x :: a) (x :: b) = ordC a b := by
  have h : ¬ x < x := by rw [UInt8.lt_iff_toNat_lt]; omega
  simp [ordC, h]
theorem ordC_prefix (s a b : List UInt8) : ordC (s ++ a) (s ++ b) = ordC a b := by
  induction s with
  | nil => rfl
  | cons x s ih => rw [List.cons_append, List.cons_append, ordC_same, ih]
theorem ordC_lt {x y : UInt8} (h : x < y) (a b : List UInt8) : ordC (x :: a) (y :: b) = -1 := by simp [ordC, h]
theorem ordC_gt {x y : UInt8} (h : y < x) (a b : List UInt8) : ordC (x :: a) (y :: b) = 1 := by
  have : ¬ x < y := by rw [UInt8.lt_iff_toNat_lt] at *; omega
  simp [ordC, this, h]
theorem zero_lt_of {x : UInt8} (h : x ≠ 0) : (0 : UInt8) < x := by
  rw [UInt8.lt_iff_toNat_lt]
  have : x.toNat ≠ 0 := fun e => h (UInt8.toNat_inj.mp e)
  simp; omega
theorem ordF_cons_zero (l : List UInt8) : ordF (0 :: l) = 0 :: 255 :: ordF l := by simp [ordF, escF_zero]
theorem ordF_cons_one {x : UInt8} (h : x ≠ 0) (l : List UInt8) : ordF (x :: l) = x :: ordF l := by simp [ordF, escF_one h]
/-- Written texts stand as they do, whatever stands behind. -/
theorem ordC_ordF : ∀ (a b c d : List UInt8), a ≠ b → ordC (ordF a ++ c) (ordF b ++ d) = ordC a b
  | [], [], _, _, h => absurd rfl h
  | [], y :: b, c, d, _ => by
    have e : ordF [] ++ c = 0 :: 1 :: c := rfl
    rw [e]
    by_cases hy : y = 0
    · subst hy
      rw [ordF_cons_zero, List.cons_append, List.cons_append, ordC_same, ordC_lt (by decide)]; rfl
    · rw [ordF_cons_one hy, List.cons_append, ordC_lt (zero_lt_of hy)]; rfl
  | x :: a, [], c, d, _ => by
    have e : ordF [] ++ d = 0 :: 1 :: d := rfl
    rw [e]
    by_cases hx : x = 0
    · subst hx
      rw [ordF_cons_zero, List.cons_append, List.cons_append, ordC_same, ordC_gt (by decide)]; rfl
    · rw [ordF_cons_one hx, List.cons_append, ordC_gt (zero_lt_of hx)]; rfl
  | x :: a, y :: b, c, d, h => by
    by_cases hxy : x = y
    · subst hxy
      have hab : a ≠ b := fun e => h (by rw [e])
      rw [ordC_same, ← ordC_ordF a b c d hab]
      by_cases hx : x = 0
      · subst hx
        rw [ordF_cons_zero, ordF_cons_zero, List.cons_append, List.cons_append, List.cons_append, List.cons_append, ordC_same, ordC_same]
      · rw [ordF_cons_one hx, ordF_cons_one hx, List.cons_append, List.cons_append, ordC_same]
    · by_cases hx : x = 0
      · subst hx
        have hy : y ≠ 0 := fun e => hxy e.symm
        rw [ordF_cons_zero, ordF_cons_one hy, List.cons_append, List.cons_append, List.cons_append, ordC_lt (zero_lt_of hy), ordC_lt (zero_lt_of hy)]
      · by_cases hy : y = 0
        · subst hy
          rw [ordF_cons_zero, ordF_cons_one hx, List.cons_append, List.cons_append, List.cons_append, ordC_gt (zero_lt_of hx), ordC_gt (zero_lt_of hx)]
        · rw [ordF_cons_one hx, ordF_cons_one hy, List.cons_append, List.cons_append]
          have hn : x.toNat ≠ y.toNat := fun e => hxy (UInt8.toNat_inj.mp e)
          rcases Nat.lt_or_gt_of_ne hn with h1 | h1
          · have h1 : x < y := UInt8.lt_iff_toNat_lt.mpr h1
            rw [ordC_lt h1, ordC_lt h1]
          · have h1 : y < x := UInt8.lt_iff_toNat_lt.mpr h1
            rw [ordC_gt h1, ordC_gt h1]
theorem ordC_ordF' (a b : List UInt8) : ordC (ordF a) (ordF b) = ordC a b := by
  by_cases h : a = b
  · subst h; rw [ordC_self, ordC_self]
  · have := ordC_ordF a b [] [] h
    simpa using this
/-- None begins another. -/
theorem ordF_not_prefix {a b : List UInt8} (h : a ≠ b) (z : List UInt8) : ordF b ≠ ordF a ++ z := by
  intro e
  have h1 := ordC_ordF a b z [] h
  rw [List.append_nil, e, ordC_self] at h1
  exact h (ordC_eq a b h1.symm)
/-! ### Between -/
def comF : List UInt8 → List UInt8 → Nat
  | x :: a, y :: b => if x = y then comF a b + 1 else 0
  | _, _ => 0
theorem comF_le : ∀ (a b : List UInt8), comF a b ≤ a.length ∧ comF a b ≤ b.length
  | [], _ => by simp [comF]
  | _ :: _, [] => by simp [comF]
  | x :: a, y :: b => by
    have := comF_le a b
    unfold comF
    split <;> simp <;> omega
theorem comF_take : ∀ (a b : List UInt8), a.take (comF a b) = b.take (comF a b)
  | [], _ => by simp [comF]
  | _ :: _, [] => by simp [comF]
  | x :: a, y :: b => by
    have := comF_take a b
    unfold comF
    split
    · rename_i h; subst h; simp [this]
    · simp
theorem comF_eq {a b : List UInt8} {j : Nat} (h : j < comF a b) : a[j]? = b[j]? := by
  have h1 : (a.take (comF a b))[j]? = (b.take (comF a b))[j]? := by rw [comF_take]
  rwa [List.getElem?_take_of_lt h, List.getElem?_take_of_lt h] at h1
theorem comF_stop : ∀ (a b : List UInt8) (h1 : comF a b < a.length) (h2 : comF a b < b.length), a[comF a b] ≠ b[comF a b]
  | [], _, h1, _ => by simp at h1
  | _ :: _, [], _, h2 => by simp at h2
  | x :: a, y :: b, h1, h2 => by
    by_cases h : x = y
    · subst h
      have e : comF (x :: a) (x :: b) = comF a b + 1 := by simp [comF]
      simp only [e] at h1 h2 ⊢
      have := comF_stop a b (by simpa using h1) (by simpa using h2)
      simpa using this
    · have e : comF (x :: a) (y :: b) = 0 := by simp [comF, h]
      simp only [e]
      simpa using h
theorem comF_of (a b : List UInt8) (k : Nat) (ha : k ≤ a.length) (hb : k ≤ b.length) (h : ∀ j, j < k → a[j]? = b[j]?) (hs : ∀ (h1 : k < a.length) (h2 : k < b.length), a[k] ≠ b[k]) : comF a b = k := by
  have hle := comF_le a b
  rcases Nat.lt_trichotomy (comF a b) k with hlt | he | hgt
  · have h1 := comF_stop a b (by omega) (by omega)
    have h2 := h _ hlt
    rw [List.getElem?_eq_getElem (by omega), List.getElem?_eq_getElem (by omega)] at h2
    exact absurd (Option.some.inj h2) h1
  · exact he
  · have h1 := hs (by omega) (by omega)
    have h2 := comF_eq hgt
    rw [List.getElem?_eq_getElem (by omega), List.getElem?_eq_getElem (by omega)] at h2
    exact absurd (Option.some.inj h2) h1
/-- The beginnings of b that lie behind a. -/
theorem between_take : ∀ (a b : List UInt8) (n : Nat), ordC a b < 0 → n ≤ b.length → (ordC a (b.take n) < 0 ↔ comF a b < n)
  | [], [], _, h, _ => by simp [ordC] at h
  | [], y :: b, n, _, _ => by
    cases n with
    | zero => simp [ordC, comF]
    | succ n => simp [ordC, comF]
  | x :: a, [], _, h, _ => by simp [ordC] at h
  | x :: a, y :: b, n, h, hn => by
    cases n with
    | zero => simp [ordC]
    | succ n =>
      rw [List.take_succ_cons]
      by_cases hxy : x = y
      · subst hxy
        rw [ordC_same] at h ⊢
        have := between_take a b n h (by simpa using hn)
        rw [this]
        simp [comF]
      · have hlt : x < y := by
          unfold ordC at h
          split at h
          · assumption
          · rename_i h1
            split at h
            · simp at h
            · rename_i h2
              rw [UInt8.lt_iff_toNat_lt] at h1 h2
              exact absurd (UInt8.toNat_inj.mp (by omega)) hxy
        rw [ordC_lt hlt]
        simp [comF, hxy]
theorem between_lt {a b : List UInt8} (h : ordC a b < 0) : comF a b < b.length := by
  have h1 := (between_take a b b.length h (Nat.le_refl _)).mp (by rw [List.take_length]; exact h)
  exact h1
theorem ordC_take_le : ∀ (b : List UInt8) (n : Nat), ordC (b.take n) b ≤ 0
  | [], n => by simp [ordC]
  | y :: b, 0 => by simp [ordC]
  | y :: b, n + 1 => by rw [List.take_succ_cons, ordC_same]; exact ordC_take_le b n
/-! ### Behind -/
/-- How many of the first k bytes stand up to the last one that is not 255. -/
def stripA (l : List UInt8) : Nat → Nat
  | 0 => 0
  | k + 1 => if l.getD k 0 = 255 then stripA l k else k + 1
def stripN (l : List UInt8) : Nat := stripA l l.length
theorem stripA_le (l : List UInt8) : ∀ k, stripA l k ≤ k
  | 0 => by simp [stripA]
  | k + 1 => by
    have := stripA_le l k
    unfold stripA; split <;> omega
theorem stripA_last (l : List UInt8) : ∀ k, 0 < stripA l k → l.getD (stripA l k - 1) 0 ≠ 255
  | 0, h => by simp [stripA] at h
  | k + 1, h => by
    unfold stripA at h ⊢
    split at h
    · rename_i h1; rw [if_pos h1]; exact stripA_last l k h
    · rename_i h1; rw [if_neg h1]; simpa using h1
theorem stripA_high (l : List UInt8) : ∀ k j, stripA l k ≤ j → j < k → l.getD j 0 = 255
  | 0, j, _, h => by omega
  | k + 1, j, h1, h2 => by
    unfold stripA at h1
    split at h1
    · rename_i h3
      by_cases e : j = k
      · subst e; exact h3
      · exact stripA_high l k j h1 (by omega)
    · omega
def behL (l : List UInt8) : List UInt8 := l.take (stripN l - 1) ++ [l.getD (stripN l - 1) 0 + 1]
theorem behL_length {l : List UInt8} (h : 0 < stripN l) : (behL l).length = stripN l := by
  have := stripA_le l l.length
  have h2 : stripN l ≤ l.length := this
  simp [behL]; omega
theorem u8_succ_lt {x : UInt8} (h : x ≠ 255) : x < x + 1 ∧ x + 1 ≠ 0 ∧ x + 1 - 1 = x := by
  have hx := x.toNat_lt
  have hn : x.toNat ≠ 255 := fun e => h (UInt8.toNat_inj.mp e)
  have h1 : (x + 1).toNat = x.toNat + 1 := by rw [UInt8.toNat_add]; simp; omega
  refine ⟨by rw [UInt8.lt_iff_toNat_lt]; omega, fun e => by rw [e] at h1; simp at h1, ?_⟩
  simp
theorem strip_split {l : List UInt8} (h : 0 < stripN l) : l = l.take (stripN l - 1) ++ l.getD (stripN l - 1) 0 :: l.drop (stripN l) := by
  have h2 : stripN l ≤ l.length := stripA_le l l.length
  have h3 : stripN l - 1 < l.length := by omega
  conv => lhs; rw [← List.take_append_drop (stripN l - 1) l]
  congr 1
  rw [List.drop_eq_getElem_cons h3]
  have : stripN l - 1 + 1 = stripN l := by omega
  rw [this]
  simp [List.getD, h3]
theorem behind_lt {l : List UInt8} (h : 0 < stripN l) (m : List UInt8) : ordC (l ++ m) (behL l) = -1 := by
  have e := strip_split h
  have hne := stripA_last l l.length h
  have key : ∀ (p r : List UInt8) (x : UInt8), x ≠ 255 → ordC ((p ++ x :: r) ++ m) (p ++ [x + 1]) = -1 := fun p r x hx => by
    rw [List.append_assoc, ordC_prefix, List.cons_append]
    exact ordC_lt (u8_succ_lt hx).1 _ _
  have := key (l.take (stripN l - 1)) (l.drop (stripN l)) _ hne
  change ordC (l.take (stripN l - 1) ++ l.getD (stripN l - 1) 0 :: l.drop (stripN l) ++ m) (behL l) = -1 at this
  rw [← e] at this
  exact this
end Go.Proofs.Ytgnhakgfgdelpaa

-- ink.Fixed, ink.half, ink.Sum; espalierref01.Fixed, step, SumOf: walks.
namespace Go.Proofs.Ytgnhakgfgdelpaa
open Go.RowKit

theorem ret_int {k : IntKind} {a b : Int} (h : a = b) : Ending.returned (.int k a) = .returned (.int k b) := by rw [h]

/-! ### Fixed -/
def fixedF (n : Nat) : Nat → List UInt8
  | 0 => []
  | k + 1 => fixedF (n / 256) k ++ [UInt8.ofNat n]
theorem fixedF_length (n k : Nat) : (fixedF n k).length = k := by
  induction k generalizing n with
  | zero => rfl
  | succ k ih => simp [fixedF, ih]
theorem wrap_byte (n : Nat) : IntKind.u8.wrap (n : Int) = ((UInt8.ofNat n).toNat : Int) := by rw [IntKind.wrap_u8]; simp
theorem u8_byte (n : Nat) : ((UInt8.ofNat n).toNat : Int) = (n : Int) % 256 := by simp
set_option maxHeartbeats 400000 in
theorem Fixed_bad (n : Nat) (wd : Int) (h : wd < 1 ∨ 8 < wd) (w : World) :
    Calls Try.prog 37 #[.int .u64 n, .int .i64 wd] w fun e w' => e = .returned (.slice none 0 0) ∧ w = w' := by
  by_cases h1 : wd < 1
  · go_enter Try.func37, Try.ntmps37
    go_wp2
    go_ret
    exact ⟨rfl, rfl⟩
  · have h2 : 8 < wd := by omega
    go_enter Try.func37, Try.ntmps37
    go_wp2
    go_ret
    exact ⟨rfl, rfl⟩

set_option maxHeartbeats 400000 in
theorem Fixed_any (n : Nat) (hn : n < 18446744073709551616) (wd : Nat) (h1 : 1 ≤ wd) (h8 : wd ≤ 8) (w : World) :
    Calls Try.prog 37 #[.int .u64 n, .int .i64 wd] w fun e w' => e = .returned (.slice (some ⟨w.heap.size, 0, none⟩) wd wd) ∧ OBlk w' w.heap.size 5 (bvs (fixedF n wd)) ∧ Below w.heap.size w w' ∧ w'.heap.size = w.heap.size + 1 := by
  go_enter Try.func37, Try.ntmps37
  go_wp2_with (first | (at_make; refine wp_make_B rfl (.tmp 13) (.tmp 13) rfl _ wd rfl rfl rfl (by omega) ?_; intro w1 hb1 hw1 hs1))
  go_loopw [0, 6] (fun m i wr => ∃ (k m' : Nat) (t : List UInt8), i = .int .i64 ((k : Int) - 1) ∧ m = .int .u64 m' ∧ k ≤ wd ∧ m' < 18446744073709551616 ∧ fixedF n wd = fixedF m' k ++ t ∧ OBlk wr w.heap.size 5 (bvs (List.replicate k 0 ++ t)) ∧ Below w.heap.size w wr ∧ wr.heap.size = w.heap.size + 1)
    (fun _ i _ => (intOf i + 1).toNat)
  case atStart => exact ⟨wd, n, [], rfl, rfl, Nat.le_refl _, hn, by simp, by simpa using hb1, hw1, hs1⟩
  case round =>
    obtain ⟨k, m', t, rfl, rfl, hk, hm', ht, hb, hw, hs⟩ := hrel
    rcases Nat.eq_zero_or_pos k with rfl | hpos
    · go_wp2
      go_ret
      simp only [fixedF, List.nil_append, List.replicate_zero] at ht hb
      rw [← ht] at hb
      exact ⟨rfl, hb, hw, hs⟩
    · obtain ⟨k', rfl⟩ : ∃ k', k = k' + 1 := ⟨k - 1, by omega⟩
      have e1 : ((k' + 1 : Nat) : Int) - 1 = (k' : Int) := by omega
      rw [e1]
      have hc : wr.cell? ⟨w.heap.size, k', none⟩ = some (.int .u8 0) := by
        refine hb.cell' ?_
        rw [bvs_append, bvs_replicate, List.getElem?_append_left (by simp)]
        simp
      have hf : wr.frozen? ⟨w.heap.size, k', none⟩ = false := hb.frozen (by simp [bvs_length]; omega)
      have b1 : (0 : Int) ≤ (k' : Int) := by omega
      have b2 : (k' : Int) < (wd : Int) := by omega
      go_wp2
      go_roundw
      case rel =>
        refine ⟨k', m' / 256, UInt8.ofNat m' :: t, rfl, by go_num, by omega, by omega, by rw [ht]; simp [fixedF], ?_, hw.setCell (Nat.le_refl _) _, by simpa using hs⟩
        have := hb.set k' (.int .u8 ((m' : Int) % 256))
        rw [← u8_byte, ← bvs_set] at this
        rw [← u8_byte]
        have e : (List.replicate (k' + 1) (0 : UInt8) ++ t).set k' (UInt8.ofNat m') = List.replicate k' 0 ++ UInt8.ofNat m' :: t := by
          rw [List.replicate_succ', List.append_assoc, List.set_append_right _ _ (by simp)]
          simp
        rw [← e]; exact this
      case measure => simp [intOf]

theorem Fixed_4 (n : Nat) (hn : n < 18446744073709551616) (w : World) :
    Calls Try.prog 37 #[.int .u64 n, .int .i64 4] w fun e w' => e = .returned (.slice (some ⟨w.heap.size, 0, none⟩) 4 4) ∧ OBlk w' w.heap.size 5 (bvs (fixedF n 4)) ∧ Below w.heap.size w w' ∧ w'.heap.size = w.heap.size + 1 :=
  Fixed_any n hn 4 (by omega) (by omega) w
end Go.Proofs.Ytgnhakgfgdelpaa

-- ink.ReadFixed: the walk.
namespace Go.Proofs.Ytgnhakgfgdelpaa
open Go.RowKit

/-- What bytes say as a number, the highest first. -/
def numF (l : List UInt8) : Nat := l.foldl (fun n x => n * 256 + x.toNat) 0
theorem numF_snoc (l : List UInt8) (x : UInt8) : numF (l ++ [x]) = numF l * 256 + x.toNat := by simp [numF]
theorem numF_lt_aux (l : List UInt8) (n : Nat) : l.foldl (fun n x => n * 256 + x.toNat) n < (n + 1) * 256 ^ l.length := by
  induction l generalizing n with
  | nil => simp
  | cons x l ih =>
    have hx := x.toNat_lt
    have := ih (n * 256 + x.toNat)
    simp only [List.foldl_cons, List.length_cons]
    refine Nat.lt_of_lt_of_le this ?_
    rw [Nat.pow_succ, Nat.mul_comm (256 ^ l.length), ← Nat.mul_assoc]
    exact Nat.mul_le_mul_right _ (by omega)
theorem numF_lt (l : List UInt8) : numF l < 256 ^ l.length := by
  have := numF_lt_aux l 0
  simpa [numF] using this
theorem or_byte (n x : Nat) (hn : n < 72057594037927936) (hx : x < 256) : bits .or .u64 ((n : Int) * 256) (x : Int) = ((n * 256 + x : Nat) : Int) := by
  have := u64_or_nat (n * 256) x (by omega) (by omega)
  rw [nat_join 8 (n * 256) x (by omega) (by omega)] at this
  exact this
theorem numF_lt7 (l : List UInt8) (h : l.length ≤ 7) : numF l < 72057594037927936 := by
  have := numF_lt l
  have h2 : 256 ^ l.length ≤ 256 ^ 7 := Nat.pow_le_pow_right (by omega) h
  have h3 : 256 ^ 7 = 72057594037927936 := by decide
  omega
set_option maxHeartbeats 400000 in
theorem ReadFixed_any (v : Value) (l : List UInt8) (at_ wd : Nat) (h1 : 1 ≤ wd) (h8 : wd ≤ 8) (ha : at_ + wd ≤ l.length) (w : World) (hv : RdB w v l) :
    Calls Try.prog 41 #[v, .int .i64 at_, .int .i64 wd] w fun e w' => e = .returned (.tuple #[.int .u64 (numF ((l.drop at_).take wd) : Nat), .int .i64 0]) ∧ w = w' := by
  obtain ⟨A, c, rfl, hm⟩ := hv.form
  have hc : l.length ≤ c := by
    obtain ⟨_, _, hv', h, _⟩ := hv
    injection hv' with _ _ hc
    subst hc; exact h
  have hcut := hv.cut (lo := at_) (hi := at_ + wd) (by omega) ha
  rw [show at_ + wd - at_ = wd by omega] at hcut
  have hlen : ((l.take (at_ + wd)).drop at_).length = wd := by simp; omega
  have heq : (l.take (at_ + wd)).drop at_ = (l.drop at_).take wd := by rw [List.drop_take]; congr 1; omega
  rw [heq] at hcut hlen
  obtain ⟨ad, rfl, hx⟩ := hv.at_ (j := at_) (by omega)
  clear hx heq hv
  rw [if_neg (by omega)] at hcut
  generalize (l.drop at_).take wd = m at *
  have g1 : (1 : Int) ≤ (wd : Int) := by omega
  have g2 : (wd : Int) ≤ 8 := by omega
  have g3 : (0 : Int) ≤ (at_ : Int) := by omega
  have g4 : (at_ : Int) + (wd : Int) ≤ (l.length : Int) := by omega
  have g5 : (l.length : Int) ≤ (c : Int) := by omega
  have g6 : (l.length : Int) ≤ 9223372036854775807 := by omega
  have HL := Lib.hid hlen
  clear hlen
  go_enter Try.func41, Try.ntmps41
  go_wp2
  go_loop [8, 42] (fun n i => ∃ j : Nat, i = .int .i64 (j : Int) ∧ j ≤ wd ∧ n = .int .u64 (numF (m.take j) : Nat)) (fun _ i => wd - (intOf i).toNat)
  case atStart => exact ⟨0, rfl, Nat.zero_le _, rfl⟩
  case round =>
    obtain ⟨j, rfl, hj, rfl⟩ := hrel
    by_cases hlt : j < wd
    · have hjm : j < m.length := by rw [HL.out]; exact hlt
      obtain ⟨ad', hA, hcell⟩ := hcut.at_ hjm
      simp only [Option.map_some, Option.some.injEq] at hA
      subst hA
      have hb := numF_lt7 (m.take j) (by simp; omega)
      have hs : numF (m.take (j + 1)) = numF (m.take j) * 256 + m[j].toNat := by
        rw [List.take_succ_eq_append_getElem hjm, numF_snoc]
      have HS := Lib.hid hs
      clear hs
      have hxb : m[j].toNat < 256 := m[j].toNat_lt
      generalize m[j].toNat = x at *
      generalize numF (m.take j) = n at *
      have hor := or_byte n x hb hxb
      rw [← HS.out] at hor
      generalize hn' : numF (m.take (j + 1)) = n' at *
      have HN := Lib.hid hn'
      clear hn'
      go_wp2
      go_round
      case rel => exact ⟨j + 1, by go_num, by omega, by rw [HN.out]⟩
      case measure => simp [intOf]; omega
    · obtain rfl : j = wd := by omega
      rw [List.take_of_length_le (by rw [HL.out]; exact Nat.le_refl _)]
      go_wp2
      go_ret2
      exact ⟨rfl, rfl⟩
end Go.Proofs.Ytgnhakgfgdelpaa
