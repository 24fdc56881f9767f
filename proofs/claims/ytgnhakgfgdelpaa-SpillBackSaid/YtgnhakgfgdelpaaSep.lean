/- Separate pieces of memory: one fact for all of them. -/
import Derived.Test.YtgnhakgfgdelpaaFoot
namespace Go.Proofs.Ytgnhakgfgdelpaa
open Go.RowKit
/-- A piece of memory: its blocks, and what holds of them. -/
structure Ent where
  F : Nat → Prop
  p : World → Prop
  loc : ∀ {w w' : World}, (∀ g, F g → w'.heap[g]? = w.heap[g]?) → p w → p w'
structure Same (w0 w : World) : Prop where
  os : w.os = w0.os
  tape : w.tape = w0.tape
  output : w.output = w0.output
  size : w0.heap.size ≤ w.heap.size
theorem Same.refl (w : World) : Same w w := ⟨rfl, rfl, rfl, Nat.le_refl _⟩
theorem Same.trans {a b c : World} (h : Same a b) (k : Same b c) : Same a c := ⟨k.os.trans h.os, k.tape.trans h.tape, k.output.trans h.output, Nat.le_trans h.size k.size⟩
theorem Same.of_below {B : Nat} {w w' : World} (h : Below B w w') : Same w w' := ⟨h.os, h.tape, h.output, h.size⟩
theorem Same.of_turn {F : Nat → Prop} {w w' : World} (h : Turn F w w') : Same w w' := ⟨h.os, h.tape, h.output, h.size⟩
/-- Pieces that lie apart, all of them in the world w, which came of w0. -/
structure Sep (w0 w : World) (L : List Ent) : Prop where
  same : Same w0 w
  each : ∀ E ∈ L, E.p w ∧ ∀ g, E.F g → g < w.heap.size
  apart : L.Pairwise fun a b => ∀ g, a.F g → ¬ b.F g
section
variable {w0 w w' : World} {L L' : List Ent} {E E' A B C D : Ent}
theorem Sep.perm (h : Sep w0 w L) (hp : L.Perm L') : Sep w0 w L' :=
  ⟨h.same, fun E hE => h.each E (hp.mem_iff.2 hE), (hp.pairwise_iff (fun {a b} hab g h1 h2 => hab g h2 h1)).1 h.apart⟩
theorem Sep.sw1 (h : Sep w0 w (A :: E :: L)) : Sep w0 w (E :: A :: L) := h.perm (List.perm_middle (l₁ := [A]))
theorem Sep.sw2 (h : Sep w0 w (A :: B :: E :: L)) : Sep w0 w (E :: A :: B :: L) := h.perm (List.perm_middle (l₁ := [A, B]))
theorem Sep.sw3 (h : Sep w0 w (A :: B :: C :: E :: L)) : Sep w0 w (E :: A :: B :: C :: L) := h.perm (List.perm_middle (l₁ := [A, B, C]))
theorem Sep.sw4 (h : Sep w0 w (A :: B :: C :: D :: E :: L)) : Sep w0 w (E :: A :: B :: C :: D :: L) := h.perm (List.perm_middle (l₁ := [A, B, C, D]))
/-- The piece behind the first n comes to the head. -/
theorem Sep.sw (L1 : List Ent) (h : Sep w0 w (L1 ++ E :: L)) : Sep w0 w (E :: (L1 ++ L)) := h.perm List.perm_middle
/-- The piece behind the first n behind the head comes next to the head. -/
theorem Sep.sn (L1 : List Ent) (h : Sep w0 w (A :: (L1 ++ E :: L))) : Sep w0 w (A :: E :: (L1 ++ L)) := h.perm (List.Perm.cons _ List.perm_middle)
/-- The first piece goes behind L1. -/
theorem Sep.back (L1 : List Ent) (h : Sep w0 w (E :: (L1 ++ L))) : Sep w0 w (L1 ++ E :: L) := h.perm List.perm_middle.symm
theorem Sep.head (h : Sep w0 w (E :: L)) : E.p w := (h.each E (List.mem_cons_self ..)).1
theorem Sep.lt (h : Sep w0 w (E :: L)) : ∀ g, E.F g → g < w.heap.size := (h.each E (List.mem_cons_self ..)).2
theorem Sep.of_mem (h : Sep w0 w L) (hE : E ∈ L) : E.p w := (h.each E hE).1
theorem Sep.tail (h : Sep w0 w (E :: L)) : Sep w0 w L := ⟨h.same, fun X hX => h.each X (List.mem_cons_of_mem _ hX), (List.pairwise_cons.1 h.apart).2⟩
theorem Sep.far (h : Sep w0 w (E :: L)) (hA : A ∈ L) : ∀ g, E.F g → ¬ A.F g := (List.pairwise_cons.1 h.apart).1 A hA
theorem Sep.cons (h : Sep w0 w L) (hp : E.p w) (hl : ∀ g, E.F g → g < w.heap.size) (ha : ∀ A ∈ L, ∀ g, E.F g → ¬ A.F g) : Sep w0 w (E :: L) :=
  ⟨h.same, fun X hX => by rcases List.mem_cons.1 hX with rfl | hX; exact ⟨hp, hl⟩; exact h.each X hX, List.pairwise_cons.2 ⟨ha, h.apart⟩⟩
/-- Nothing that was there is written. -/
theorem Sep.below (h : Sep w0 w L) (hb : Below w.heap.size w w') : Sep w0 w' L :=
  ⟨h.same.trans (Same.of_below hb), fun X hX => ⟨X.loc (fun g hg => hb.block g ((h.each X hX).2 g hg)) (h.each X hX).1, fun g hg => Nat.lt_of_lt_of_le ((h.each X hX).2 g hg) hb.size⟩, h.apart⟩
/-- .. and a new piece. -/
theorem Sep.new (h : Sep w0 w L) (hb : Below w.heap.size w w') (hp : E.p w') (hF : ∀ g, E.F g → w.heap.size ≤ g ∧ g < w'.heap.size) : Sep w0 w' (E :: L) :=
  (h.below hb).cons hp (fun g hg => (hF g hg).2) (fun X hX g hg h2 => by have h1 := (h.each X hX).2 g h2; have h3 := (hF g hg).1; omega)
/-- The first piece is written. -/
theorem Sep.upd (h : Sep w0 w (E :: L)) (ht : Turn E.F w w') (hp : E'.p w') (hF : ∀ g, E'.F g → (E.F g ∨ w.heap.size ≤ g) ∧ g < w'.heap.size) : Sep w0 w' (E' :: L) := by
  have hl : Sep w0 w' L := ⟨h.same.trans (Same.of_turn ht), fun X hX => ⟨X.loc (fun g hg => ht.block g ((h.tail.each X hX).2 g hg) (fun e => h.far hX g e hg)) (h.tail.each X hX).1, fun g hg => Nat.lt_of_lt_of_le ((h.tail.each X hX).2 g hg) ht.size⟩, h.tail.apart⟩
  refine hl.cons hp (fun g hg => (hF g hg).2) (fun X hX g hg h2 => ?_)
  rcases (hF g hg).1 with h3 | h3
  · exact h.far hX g h3 h2
  · have h1 := (h.tail.each X hX).2 g h2
    omega
/-- The first piece is written, and is of no more use. -/
theorem Sep.kill (h : Sep w0 w (E :: L)) (ht : Turn E.F w w') : Sep w0 w' L :=
  ⟨h.same.trans (Same.of_turn ht), fun X hX => ⟨X.loc (fun g hg => ht.block g ((h.tail.each X hX).2 g hg) (fun e => h.far hX g e hg)) (h.tail.each X hX).1, fun g hg => Nat.lt_of_lt_of_le ((h.tail.each X hX).2 g hg) ht.size⟩, h.tail.apart⟩
/-- The first piece is told otherwise. -/
theorem Sep.weak (h : Sep w0 w (E :: L)) (hp : E.p w → E'.p w) (hF : ∀ g, E'.F g → E.F g) : Sep w0 w (E' :: L) :=
  h.tail.cons (hp h.head) (fun g hg => h.lt g (hF g hg)) (fun _ hX g hg => h.far hX g (hF g hg))
/-- Two pieces as one. -/
def Ent.star (A B : Ent) : Ent := ⟨fun g => A.F g ∨ B.F g, fun w => A.p w ∧ B.p w ∧ ∀ g, A.F g → ¬ B.F g,
  fun h ⟨h1, h2, h3⟩ => ⟨A.loc (fun g hg => h g (.inl hg)) h1, B.loc (fun g hg => h g (.inr hg)) h2, h3⟩⟩
theorem Sep.join (h : Sep w0 w (A :: B :: L)) : Sep w0 w (A.star B :: L) := by
  refine h.tail.tail.cons ⟨h.head, h.tail.head, h.far (List.mem_cons_self ..)⟩ (fun g hg => hg.elim (h.lt g) (h.tail.lt g)) (fun X hX g hg => ?_)
  rcases hg with hg | hg
  · exact h.far (List.mem_cons_of_mem _ hX) g hg
  · exact h.tail.far hX g hg
theorem Sep.split (h : Sep w0 w (A.star B :: L)) : Sep w0 w (A :: B :: L) := by
  refine (h.tail.cons (E := B) h.head.2.1 (fun g hg => h.lt g (.inr hg)) (fun X hX g hg => h.far hX g (.inr hg))).cons h.head.1 (fun g hg => h.lt g (.inl hg)) (fun X hX g hg => ?_)
  rcases List.mem_cons.1 hX with rfl | hX
  · exact h.head.2.2 g hg
  · exact h.far hX g (.inl hg)
/-- The first two pieces are written. -/
theorem Sep.upd2 (h : Sep w0 w (A :: B :: L)) (ht : Turn (fun g => A.F g ∨ B.F g) w w') (hc : C.p w') (hd : D.p w') (hC : ∀ g, C.F g → (A.F g ∨ B.F g ∨ w.heap.size ≤ g) ∧ g < w'.heap.size) (hD : ∀ g, D.F g → (A.F g ∨ B.F g ∨ w.heap.size ≤ g) ∧ g < w'.heap.size)
    (hCD : ∀ g, C.F g → ¬ D.F g) : Sep w0 w' (C :: D :: L) := by
  refine Sep.split (h.join.upd (E' := C.star D) ht ⟨hc, hd, hCD⟩ (fun g hg => ?_))
  rcases hg with hg | hg
  · exact ⟨by rcases (hC g hg).1 with h | h | h; exact .inl (.inl h); exact .inl (.inr h); exact .inr h, (hC g hg).2⟩
  · exact ⟨by rcases (hD g hg).1 with h | h | h; exact .inl (.inl h); exact .inl (.inr h); exact .inr h, (hD g hg).2⟩
theorem Sep.drewN (h : Sep w0 w L) (n : Nat) : Sep w0 (w.drewN n) L := h.below (w' := w.drewN n) ⟨rfl, rfl, rfl, Nat.le_refl _, fun _ _ => rfl⟩
theorem Sep.drew (h : Sep w0 w L) : Sep w0 w.drew L := h.below (w' := w.drew) ⟨rfl, rfl, rfl, Nat.le_refl _, fun _ _ => rfl⟩
/-! ### kinds of pieces -/
/-- All that was there in w0. -/
def oldE (w0 : World) : Ent := ⟨fun g => g < w0.heap.size, fun w => ∀ g, g < w0.heap.size → w.heap[g]? = w0.heap[g]?, fun h k g hg => (h g hg).trans (k g hg)⟩
theorem Sep.start (w : World) : Sep w w [oldE w] := ⟨Same.refl w, fun E hE => by obtain rfl := List.mem_singleton.1 hE; exact ⟨fun _ _ => rfl, fun _ h => h⟩, List.pairwise_singleton _ _⟩
theorem Sep.belowOld {v : World} (h : Sep w0 w L) (hm : oldE w0 ∈ L) : Below w0.heap.size w0 w := ⟨h.same.os, h.same.tape, h.same.output, h.same.size, h.of_mem hm⟩
theorem Sep.old_cell {v : World} (h : Sep w0 w L) (hm : oldE v ∈ L) : ∀ p : Addr, p.block < v.heap.size → w.cell? p = v.cell? p := fun p hp => World.cell?_of_block (h.of_mem hm p.block hp)
theorem Sep.rd {v : World} {x : Value} {l : List UInt8} (h : Sep w0 w L) (hm : oldE v ∈ L) (hr : RdB v x l) : RdB w x l := hr.keep (h.old_cell hm)
/-- A block. -/
def blkE (g : Nat) (T : TypeId) (cs : List Value) : Ent := ⟨fun b => b = g, fun w => OBlk w g T cs, fun h k => k.of_heap (h g rfl)⟩
/-- Bytes of the call's own, or nil. -/
def bytesE (v : Value) (l : List UInt8) : Ent := ⟨fun g => v.ownBlock = some g, fun w => OwB w 0 v l, fun h k => Own.heap k h⟩
def ownE (T : TypeId) (size : Nat) (v : Value) (n : Nat) (xs : List Value) : Ent := ⟨fun g => v.ownBlock = some g, fun w => Own w 0 T size v n xs, fun h k => Own.heap k h⟩
theorem Sep.alloc (h : Sep w0 w L) (T : TypeId) (cs : List Value) : Sep w0 (w.alloc (.cells cs.toArray T)) (blkE w.heap.size T cs :: L) :=
  h.new ((Below.refl _ _).alloc (Nat.le_refl _) _) (OBlk.new' w T cs) (fun g hg => by have hg' : g = w.heap.size := hg; rw [World.size_alloc]; omega)
theorem Sep.setCell {g : Nat} {T : TypeId} {cs : List Value} (h : Sep w0 w (blkE g T cs :: L)) (j : Nat) (u : Value) : Sep w0 (w.setCell ⟨g, j, none⟩ u) (blkE g T (cs.set j u) :: L) :=
  h.upd (Turn.of_grown (grownBy_setCell w ⟨g, j, none⟩ u) (fun k e => (Option.some.inj e).symm)) (OBlk.set (h.head : OBlk w g T cs) j u) (fun b hb => ⟨.inl hb, by have h' := h.lt b hb; simpa using h'⟩)
theorem Sep.bytes {b : Nat} {v : Value} {l : List UInt8} (h : Sep w0 w L) (hb : Below w.heap.size w w') (ho : OwB w' b v l) (hB : w.heap.size ≤ b) : Sep w0 w' (bytesE v l :: L) :=
  h.new hb (OwB.low ho (Nat.zero_le _)) (fun g hg => ⟨Nat.le_trans hB (Own.lt ho g hg).1, (Own.lt ho g hg).2⟩)
/-- A list that is read, in whichever piece. -/
def RdIn (L : List Ent) (v : Value) (l : List UInt8) : Prop := ∃ E ∈ L, ∀ w, E.p w → RdB w v l
theorem RdIn.cons {v : Value} {l : List UInt8} (h : RdIn L v l) : RdIn (E :: L) v l := by obtain ⟨X, hX, h⟩ := h; exact ⟨X, List.mem_cons_of_mem _ hX, h⟩
theorem Sep.rdIn {v : Value} {l : List UInt8} (h : Sep w0 w L) (hr : RdIn L v l) : RdB w v l := by obtain ⟨X, hX, hr⟩ := hr; exact hr w (h.of_mem hX)
/-- Many pieces as one. -/
def allE (D : List Ent) : Ent := ⟨fun g => ∃ E ∈ D, E.F g, fun w => (∀ E ∈ D, E.p w) ∧ D.Pairwise (fun (a b : Ent) => ∀ g : Nat, a.F g → ¬ b.F g),
  fun h ⟨h1, h2⟩ => ⟨fun E hE => E.loc (fun g hg => h g ⟨E, hE, hg⟩) (h1 E hE), h2⟩⟩
theorem Sep.pack {D : List Ent} (h : Sep w0 w (D ++ L)) : Sep w0 w (allE D :: L) := by
  have h1 := List.pairwise_append.1 h.apart
  refine Sep.cons ⟨h.same, fun X hX => h.each X (List.mem_append_right _ hX), h1.2.1⟩ ⟨fun E hE => (h.each E (List.mem_append_left _ hE)).1, h1.1⟩ (fun g hg => ?_) (fun X hX g hg => ?_)
  · obtain ⟨E, hE, hg⟩ := hg
    exact (h.each E (List.mem_append_left _ hE)).2 g hg
  · obtain ⟨E, hE, hg⟩ := hg
    exact h1.2.2 E hE X hX g hg
theorem Sep.unpack {D : List Ent} (h : Sep w0 w (allE D :: L)) : Sep w0 w (D ++ L) := by
  have hp := h.head
  refine ⟨h.same, fun X hX => ?_, List.pairwise_append.2 ⟨hp.2, h.tail.apart, fun E hE X hX g hg => h.far hX g ⟨E, hE, hg⟩⟩⟩
  rcases List.mem_append.1 hX with hX | hX
  · exact ⟨hp.1 X hX, fun g hg => h.lt g ⟨X, hX, hg⟩⟩
  · exact h.tail.each X hX
end
end Go.Proofs.Ytgnhakgfgdelpaa
