/- Texts joined: copy over the head of bytes that the call owns.; Cells of pages, where they lie.; node.Node; x[lo; Blocks outside of a set stand; Separate pieces of memory; node.of, made, New, which, Open; node.which, Open -/
import Derived.Test.YtfcnkpofcekmgaaGreatNW2
import Derived.Laws.Slices
import Derived.Maps.RangeWalk
import Derived.Maps.OwnSet
import Derived.Deep.RegionHeld3
import Derived.Deep.CutBlock
-- copy over the head of bytes that the call owns.
namespace Go.Proofs.YtfcnkpofcekmgaaGreat
open Go.RowKit
theorem OwB.some' {w : World} {b n : Nat} {u : Value} {l : List UInt8} (h : OwB w b u l) (hn : l.length = n) (h0 : 0 < n) : ∃ g c, u = .slice (some ⟨g, 0, none⟩) n c := by
  subst hn
  rcases h.form with ⟨_, rfl⟩ | ⟨g, c, rfl, _⟩
  · simp at h0
  · exact ⟨g, c, rfl⟩
section laws
variable {w : World} {ops : Array Oper} {rest : List Oper} {o : Oper} {a : Act} {Q : Exit → Act → World → Prop}
end laws
end Go.Proofs.YtfcnkpofcekmgaaGreat

-- Cells of pages, where they lie.
namespace Go.Proofs.YtfcnkpofcekmgaaGreat
open Go.RowKit
structure CV where
  kv : Value
  vv : Value
  c : PC
instance : Inhabited CV := ⟨⟨.slice none 0 0, .slice none 0 0, default⟩⟩
def CV.cells (x : CV) : List Value := [x.kv, .int .i64 x.c.kind, x.vv, .int .i64 x.c.page, .int .i64 x.c.count]
def cellV (x : CV) : Value := .agg #[x.kv, .int .i64 x.c.kind, x.vv, .int .i64 x.c.page, .int .i64 x.c.count]
def i64r (n : Int) : Prop := -9223372036854775808 ≤ n ∧ n ≤ 9223372036854775807
structure CV.ok (W : World) (x : CV) : Prop where
  k : RdB W x.kv x.c.key
  v : RdB W x.vv x.c.val
  r1 : i64r x.c.kind
  r2 : i64r x.c.page
  r3 : i64r x.c.count
def flatC (l : List CV) : List Value := l.flatMap CV.cells
theorem flatC_length (l : List CV) : (flatC l).length = l.length * 5 := by
  induction l with
  | nil => rfl
  | cons x r ih =>
    have : flatC (x :: r) = x.cells ++ flatC r := rfl
    rw [this, List.length_append, ih, List.length_cons]
    show 5 + _ = _
    omega
theorem flatC_append (a b : List CV) : flatC (a ++ b) = flatC a ++ flatC b := by simp [flatC]
theorem flatC_at : ∀ (l : List CV) (i r : Nat) (hi : i < l.length), r < 5 → (flatC l)[i * 5 + r]? = l[i].cells[r]?
  | x :: s, 0, r, _, hr => by
    have : flatC (x :: s) = x.cells ++ flatC s := rfl
    rw [this, List.getElem?_append_left (by show _ < 5; omega)]
    simp
  | x :: s, i + 1, r, hi, hr => by
    have : flatC (x :: s) = x.cells ++ flatC s := rfl
    rw [this, List.getElem?_append_right (by show 5 ≤ _; omega)]
    have := flatC_at s i r (by simpa using hi) hr
    rw [show (i + 1) * 5 + r - x.cells.length = i * 5 + r by show _ - 5 = _; omega, this]
    rfl
structure RdCs (W : World) (v : Value) (l : List CV) : Prop where
  form : Rd W 5 v l.length (flatC l)
  ok : ∀ x ∈ l, x.ok W
def pcs (l : List CV) : List PC := l.map CV.c
theorem pcs_length (l : List CV) : (pcs l).length = l.length := by simp [pcs]
theorem CV.ok.below {w w' : World} {x : CV} (h : x.ok w) (hb : Below w.heap.size w w') : x.ok w' := { h with k := h.k.below hb (Nat.le_refl _), v := h.v.below hb (Nat.le_refl _) }
theorem RdCs.below {w w' : World} {v : Value} {l : List CV} (h : RdCs w v l) (hb : Below w.heap.size w w') : RdCs w' v l :=
  ⟨h.form.below hb (Nat.le_refl _), fun x hx => (h.ok x hx).below hb⟩
theorem RdCs.slice {w : World} {v : Value} {l : List CV} (h : RdCs w v l) : ∃ A c, v = .slice A l.length c ∧ l.length ≤ c ∧ c ≤ 9223372036854775807 := by
  obtain ⟨_, A, c, hv, h1, h2, _⟩ := h.form
  exact ⟨A, c, hv, h1, h2⟩
theorem RdCs.at_ {w : World} {A : Option Addr} {m c i : Nat} {l : List CV} (h : RdCs w (.slice A m c) l) (hi : i < l.length) :
    ∃ ad, A = some ad ∧ w.cell? (ad.add (i * 5)) = some l[i].kv ∧ w.cell? ⟨(ad.add (i * 5)).block, (ad.add (i * 5)).off + 1, none⟩ = some (.int .i64 l[i].c.kind) ∧ w.cell? ⟨(ad.add (i * 5)).block, (ad.add (i * 5)).off + 2, none⟩ = some l[i].vv ∧
      w.cell? ⟨(ad.add (i * 5)).block, (ad.add (i * 5)).off + 3, none⟩ = some (.int .i64 l[i].c.page) ∧ w.cell? ⟨(ad.add (i * 5)).block, (ad.add (i * 5)).off + 4, none⟩ = some (.int .i64 l[i].c.count) := by
  obtain ⟨_, A', c', hv, _, _, h3⟩ := h.form
  injection hv with hA
  subst hA
  have key : ∀ r u, r < 5 → l[i].cells[r]? = some u → ∃ ad, A = some ad ∧ w.cell? (ad.add (i * 5 + r)) = some u := fun r u hr hu => h3 (i * 5 + r) u (by rw [flatC_at l i r hi hr]; exact hu)
  obtain ⟨ad, rfl, e0⟩ := key 0 _ (by omega) rfl
  obtain ⟨_, he, e1⟩ := key 1 _ (by omega) rfl
  cases he
  obtain ⟨_, he, e2⟩ := key 2 _ (by omega) rfl
  cases he
  obtain ⟨_, he, e3⟩ := key 3 _ (by omega) rfl
  cases he
  obtain ⟨_, he, e4⟩ := key 4 _ (by omega) rfl
  cases he
  refine ⟨ad, rfl, e0, ?_, ?_, ?_, ?_⟩
  · have := e1; rw [← add_of_add] at this; exact this
  · have := e2; rw [← add_of_add] at this; exact this
  · have := e3; rw [← add_of_add] at this; exact this
  · have := e4; rw [← add_of_add] at this; exact this
/-- A cell's own block: five cells. -/
theorem cells5 {w : World} {g : Nat} {T : TypeId} {a0 a1 a2 a3 a4 : Value} (h : OBlk w g T [a0, a1, a2, a3, a4]) :
    w.cell? ⟨g, 0, none⟩ = some a0 ∧ w.cell? ⟨g, 1, none⟩ = some a1 ∧ w.cell? ⟨g, 2, none⟩ = some a2 ∧ w.cell? ⟨g, 3, none⟩ = some a3 ∧ w.cell? ⟨g, 4, none⟩ = some a4 :=
  ⟨h.cell 0, h.cell 1, h.cell 2, h.cell 3, h.cell 4⟩
/-- Owned cells. -/
structure OwCs (w : World) (base : Nat) (v : Value) (l : List CV) : Prop where
  own : Own w base 43 5 v l.length (flatC l)
  each : ∀ x ∈ l, OwB w base x.kv x.c.key ∧ OwB w base x.vv x.c.val
  rng : ∀ x ∈ l, i64r x.c.kind ∧ i64r x.c.page ∧ i64r x.c.count
  apart : ((l.flatMap fun x => [x.kv.ownBlock, x.vv.ownBlock]).filterMap id).Pairwise (· < ·)
theorem below_drewN {B : Nat} {w w' : World} (h : Below B w w') : ∀ n, Below B w (w'.drewN n)
  | 0 => h
  | n + 1 => (below_drewN h n).drew
theorem CV.form {x : CV} {w : World} (h : x.ok w) : ∃ A a B b key ck val pg ct, x = ⟨.slice A key.length a, .slice B val.length b, ⟨key, ck, val, pg, ct⟩⟩ ∧ key.length ≤ 9223372036854775807 ∧ val.length ≤ 9223372036854775807 := by
  obtain ⟨kv, vv, key, ck, val, pg, ct⟩ := x
  obtain ⟨A, ca, hkv, hka⟩ := h.k.form
  obtain ⟨B, cb, hvv, hvb⟩ := h.v.form
  simp only at hkv hvv hka hvb
  subst hkv hvv
  exact ⟨A, ca, B, cb, key, ck, val, pg, ct, rfl, hka, hvb⟩
theorem pcs_at {l : List CV} {i : Nat} (hi : i < l.length) : (pcs l)[i]'(by rw [pcs_length]; exact hi) = l[i].c := by simp [pcs]
theorem Rd.five (w : World) (a b c d e : Value) (T : TypeId) : Rd (w.alloc (.cells #[a, b, c, d, e] T)) 5 (.slice (some ⟨w.heap.size, 0, none⟩) 1 1) 1 [a, b, c, d, e] :=
  ⟨by simp, _, _, rfl, Nat.le_refl _, by simp [maxLen], fun j u hj => ⟨_, rfl, by rw [add_row, (OBlk.new w T #[a, b, c, d, e]).cell]; simpa using hj⟩⟩
theorem cell_info : (Tryz.prog.info? 43).map (fun i => (i.zero, i.size, i.bytes)) = some (some (.agg #[.slice none 0 0, .int .i64 0, .slice none 0 0, .int .i64 0, .int .i64 0]), 5, 72) := by kernel_rfl
end Go.Proofs.YtfcnkpofcekmgaaGreat

-- node.Node: its methods, behind an interface.
namespace Go.Proofs.YtfcnkpofcekmgaaGreat
open Go.RowKit
abbrev ndV1 (p : Nat) : Value := .iface 106 (.pointer (some ⟨p, 0, none⟩))
theorem im1_len (p : Value) (k : Nat) (w : World) : (method (k + 1) 106 p "Len").run Tryz.prog w = .ok (203, p) w := by kernel_rfl
theorem im1_used (p : Value) (k : Nat) (w : World) : (method (k + 1) 106 p "Used").run Tryz.prog w = .ok (206, p) w := by kernel_rfl
theorem im1_bytes (p : Value) (k : Nat) (w : World) : (method (k + 1) 106 p "Bytes").run Tryz.prog w = .ok (198, p) w := by kernel_rfl
theorem im1_find (p : Value) (k : Nat) (w : World) : (method (k + 1) 106 p "Find").run Tryz.prog w = .ok (200, p) w := by kernel_rfl
theorem im1_insert (p : Value) (k : Nat) (w : World) : (method (k + 1) 106 p "Insert").run Tryz.prog w = .ok (201, p) w := by kernel_rfl
theorem im1_nil (a : Addr) (k : Nat) (w : World) : (nilAhead (k + 1) 106 (.pointer (some a)) "Insert").run Tryz.prog w = .ok (some false) w := by kernel_rfl
abbrev ndV2 (p : Nat) : Value := .iface 111 (.pointer (some ⟨p, 0, none⟩))
theorem im2_len (p : Value) (k : Nat) (w : World) : (method (k + 1) 111 p "Len").run Tryz.prog w = .ok (221, p) w := by kernel_rfl
theorem im2_insert (p : Value) (k : Nat) (w : World) : (method (k + 1) 111 p "Insert").run Tryz.prog w = .ok (219, p) w := by kernel_rfl
theorem im2_nil (a : Addr) (k : Nat) (w : World) : (nilAhead (k + 1) 111 (.pointer (some a)) "Insert").run Tryz.prog w = .ok (some false) w := by kernel_rfl
end Go.Proofs.YtfcnkpofcekmgaaGreat

-- x[lo:], x[:hi], x[lo:hi] of bytes that are read: as run equations and readings.
namespace Go.Proofs.YtfcnkpofcekmgaaGreat
open Go.RowKit
theorem u8_elem : Tryz.prog.underlying 41 = some (.slice (Tryz.prog.elem 41)) := by kernel_rfl
theorem u8_sizeOf (w : World) : (sizeOf (Tryz.prog.elem 41)).run Tryz.prog w = .ok 1 w := by
  have he : Tryz.prog.elem 41 = 5 := by kernel_rfl
  rw [he]
  obtain ⟨i, hi, hz0, hz1, hz2⟩ := info_parts u8_info
  simp [sizeOf, typeInfo, hi, hz1]
theorem RdB.cap {w : World} {A : Option Addr} {n c : Nat} {l : List UInt8} (h : RdB w (.slice A n c) l) : n = l.length ∧ l.length ≤ c ∧ c ≤ 9223372036854775807 := by
  obtain ⟨A', c', hv, h1, h2, _⟩ := h
  injection hv with _ hn hc
  subst hc
  simp only [maxLen] at h2
  exact ⟨hn, h1, h2⟩
theorem RdB.run_l {w : World} {A : Option Addr} {n c : Nat} {l : List UInt8} (h : RdB w (.slice A n c) l) (lo : Nat) (h1 : lo ≤ l.length) :
    ∃ A' c', (∀ w', (Instr.slice 41 (.slice A n c) (some (.int .i64 (lo : Int))) none none).run Tryz.prog w' = .ok (.slice A' (l.length - lo) c') w') ∧ RdB w (.slice A' (l.length - lo) c') (l.drop lo) := by
  obtain ⟨rfl, hc, _⟩ := h.cap
  have hr := h.cut h1 (Nat.le_refl _)
  rw [List.take_length] at hr
  refine ⟨_, _, fun w' => ?_, hr⟩
  have := run_slice_l (P := Tryz.prog) w' 41 A l.length c u8_elem .i64 lo (by omega) (by omega)
  rw [this, u8_sizeOf]
  simp [Result.andThen, sliced]
theorem RdB.run_h {w : World} {A : Option Addr} {n c : Nat} {l : List UInt8} (h : RdB w (.slice A n c) l) (hi : Nat) (h2 : hi ≤ l.length) :
    ∃ A' c', (∀ w', (Instr.slice 41 (.slice A n c) none (some (.int .i64 (hi : Int))) none).run Tryz.prog w' = .ok (.slice A' hi c') w') ∧ RdB w (.slice A' hi c') (l.take hi) := by
  obtain ⟨_, hc, _⟩ := h.cap
  have hr := h.cut (Nat.zero_le hi) h2
  rw [List.drop_zero, Nat.sub_zero] at hr
  refine ⟨_, _, fun w' => ?_, hr⟩
  have := run_slice_h (P := Tryz.prog) w' 41 A n c u8_elem .i64 hi (by omega) (by omega)
  rw [this, u8_sizeOf]
  simp [Result.andThen, sliced]
end Go.Proofs.YtfcnkpofcekmgaaGreat

-- Blocks outside of a set stand: words for what a call may write.
namespace Go.Proofs.YtfcnkpofcekmgaaGreat
open Go.RowKit
/-- Blocks outside of F stand. -/
structure Turn (F : Nat → Prop) (w w' : World) : Prop where
  os : w'.os = w.os
  tape : w'.tape = w.tape
  output : w'.output = w.output
  size : w.heap.size ≤ w'.heap.size
  block : ∀ k, k < w.heap.size → ¬ F k → w'.heap[k]? = w.heap[k]?
/-- .. and what is in F now was there, or is new. -/
structure Step (F : Nat → Prop) (w : World) (F' : Nat → Prop) (w' : World) : Prop where
  turn : Turn F w w'
  grow : ∀ k, F' k → F k ∨ w.heap.size ≤ k
section
variable {F F' F'' G : Nat → Prop} {w w' w'' : World}
theorem Turn.refl (F : Nat → Prop) (w : World) : Turn F w w := ⟨rfl, rfl, rfl, Nat.le_refl _, fun _ _ _ => rfl⟩
theorem Turn.trans (h : Turn F w w') (k : Turn F' w' w'') (hs : ∀ b, F' b → F b ∨ w.heap.size ≤ b) : Turn F w w'' :=
  ⟨k.os.trans h.os, k.tape.trans h.tape, k.output.trans h.output, Nat.le_trans h.size k.size, fun b hb hn =>
    (k.block b (Nat.lt_of_lt_of_le hb h.size) (fun h' => (hs b h').elim hn (fun h1 => by omega))).trans (h.block b hb hn)⟩
theorem Turn.mono (h : Turn F w w') (hs : ∀ b, F b → G b) : Turn G w w' := ⟨h.os, h.tape, h.output, h.size, fun b hb hn => h.block b hb (fun e => hn (hs b e))⟩
theorem Turn.of_grown {row : Option Nat} (h : w.grownBy w' row) (hr : ∀ k, row = some k → F k) : Turn F w w' :=
  ⟨h.os, h.tape, h.output, h.size, fun b hb hn => h.block b hb (fun e => hn (hr b e.symm))⟩
theorem Turn.of_below (h : Below w.heap.size w w') : Turn F w w' := ⟨h.os, h.tape, h.output, h.size, fun b hb _ => h.block b hb⟩
theorem Turn.below {B : Nat} (h : Turn F w w') (hB : B ≤ w.heap.size) (hF : ∀ b, F b → B ≤ b) : Below B w w' :=
  ⟨h.os, h.tape, h.output, h.size, fun b hb => h.block b (by omega) (fun e => by have := hF b e; omega)⟩
theorem Turn.drew (h : Turn F w w') : Turn F w w'.drew := ⟨h.os, h.tape, h.output, h.size, h.block⟩
theorem Turn.drewN (h : Turn F w w') (n : Nat) : Turn F w (w'.drewN n) := ⟨h.os, h.tape, h.output, h.size, h.block⟩
theorem Turn.grown {row : Option Nat} (h : Turn F w w') (k : w'.grownBy w'' row) (hr : ∀ b, row = some b → F b ∨ w.heap.size ≤ b) : Turn F w w'' :=
  h.trans (F' := fun b => row = some b) (Turn.of_grown k fun _ e => e) hr
theorem Turn.new (h : Turn F w w') (k : Below w.heap.size w' w'') : Turn F w w'' :=
  ⟨k.os.trans h.os, k.tape.trans h.tape, k.output.trans h.output, Nat.le_trans h.size k.size, fun b hb hn => (k.block b hb).trans (h.block b hb hn)⟩
theorem Turn.alloc (h : Turn F w w') (o : Obj) : Turn F w (w'.alloc o) := h.new ((Below.refl _ _).alloc h.size o)
theorem Turn.setCell (h : Turn F w w') (p : Addr) (u : Value) (hp : F p.block ∨ w.heap.size ≤ p.block) : Turn F w (w'.setCell p u) :=
  h.grown (grownBy_setCell w' p u) (fun b e => by cases e; exact hp)
theorem Step.refl (F : Nat → Prop) (w : World) : Step F w F w := ⟨Turn.refl _ _, fun _ h => .inl h⟩
theorem Step.trans (h : Step F w F' w') (k : Step F' w' F'' w'') : Step F w F'' w'' :=
  ⟨h.turn.trans k.turn h.grow, fun b hb => (k.grow b hb).elim (h.grow b) (fun h1 => .inr (Nat.le_trans h.turn.size h1))⟩
/-- What the call owns and what no device has. -/
def Off (F : Nat → Prop) (v : Value) : Prop := ∀ g, v.ownBlock = some g → ¬ F g
theorem OwB.turn {b : Nat} {v : Value} {l : List UInt8} (h : OwB w b v l) (ht : Turn F w w') (ho : Off F v) : OwB w' b v l :=
  Own.heap h fun g hg => ht.block g (h.lt g hg).2 (ho g hg)
theorem OwB.off {b : Nat} {v : Value} {l : List UInt8} (h : OwB w b v l) (hs : Step F w F' w') (ho : Off F v) : Off F' v := fun g hg hf => by
  rcases hs.grow g hf with h1 | h1
  · exact ho g hg h1
  · have := (h.lt g hg).2
    omega
theorem OBlk.turn {g : Nat} {T : TypeId} {cs : List Value} (h : OBlk w g T cs) (ht : Turn F w w') (hg : ¬ F g) : OBlk w' g T cs := h.of_heap (ht.block g h.lt hg)
end
end Go.Proofs.YtfcnkpofcekmgaaGreat

-- Separate pieces of memory: one fact for all of them.
namespace Go.Proofs.YtfcnkpofcekmgaaGreat
open Go.RowKit
/-- A piece of memory: its blocks, and what holds of them. -/
structure Ent where
  F : Nat → Prop
  p : World → Prop
  loc : ∀ {w w' : World}, (∀ g, F g → w'.heap[g]? = w.heap[g]?) → p w → p w'
structure Same (w0 w : World) : Prop where
  os : w.os = w0.os
  tape : w.tape = w0.tape
  output : w.output = w0.output
  size : w0.heap.size ≤ w.heap.size
theorem Same.refl (w : World) : Same w w := ⟨rfl, rfl, rfl, Nat.le_refl _⟩
theorem Same.trans {a b c : World} (h : Same a b) (k : Same b c) : Same a c := ⟨k.os.trans h.os, k.tape.trans h.tape, k.output.trans h.output, Nat.le_trans h.size k.size⟩
theorem Same.of_below {B : Nat} {w w' : World} (h : Below B w w') : Same w w' := ⟨h.os, h.tape, h.output, h.size⟩
theorem Same.of_turn {F : Nat → Prop} {w w' : World} (h : Turn F w w') : Same w w' := ⟨h.os, h.tape, h.output, h.size⟩
/-- Pieces that lie apart, all of them in the world w, which came of w0. -/
structure Sep (w0 w : World) (L : List Ent) : Prop where
  same : Same w0 w
  each : ∀ E ∈ L, E.p w ∧ ∀ g, E.F g → g < w.heap.size
  apart : L.Pairwise fun a b => ∀ g, a.F g → ¬ b.F g
section
variable {w0 w w' : World} {L L' : List Ent} {E E' A B C D : Ent}
theorem Sep.perm (h : Sep w0 w L) (hp : L.Perm L') : Sep w0 w L' :=
  ⟨h.same, fun E hE => h.each E (hp.mem_iff.2 hE), (hp.pairwise_iff (fun {_a _b} hab g h1 h2 => hab g h2 h1)).1 h.apart⟩
theorem Sep.sw1 (h : Sep w0 w (A :: E :: L)) : Sep w0 w (E :: A :: L) := h.perm (List.perm_middle (l₁ := [A]))
theorem Sep.sw2 (h : Sep w0 w (A :: B :: E :: L)) : Sep w0 w (E :: A :: B :: L) := h.perm (List.perm_middle (l₁ := [A, B]))
theorem Sep.sw3 (h : Sep w0 w (A :: B :: C :: E :: L)) : Sep w0 w (E :: A :: B :: C :: L) := h.perm (List.perm_middle (l₁ := [A, B, C]))
theorem Sep.sw4 (h : Sep w0 w (A :: B :: C :: D :: E :: L)) : Sep w0 w (E :: A :: B :: C :: D :: L) := h.perm (List.perm_middle (l₁ := [A, B, C, D]))
/-- The piece behind the first n comes to the head. -/
theorem Sep.sw (L1 : List Ent) (h : Sep w0 w (L1 ++ E :: L)) : Sep w0 w (E :: (L1 ++ L)) := h.perm List.perm_middle
theorem Sep.head (h : Sep w0 w (E :: L)) : E.p w := (h.each E (List.mem_cons_self ..)).1
theorem Sep.lt (h : Sep w0 w (E :: L)) : ∀ g, E.F g → g < w.heap.size := (h.each E (List.mem_cons_self ..)).2
theorem Sep.of_mem (h : Sep w0 w L) (hE : E ∈ L) : E.p w := (h.each E hE).1
theorem Sep.tail (h : Sep w0 w (E :: L)) : Sep w0 w L := ⟨h.same, fun X hX => h.each X (List.mem_cons_of_mem _ hX), (List.pairwise_cons.1 h.apart).2⟩
theorem Sep.far (h : Sep w0 w (E :: L)) (hA : A ∈ L) : ∀ g, E.F g → ¬ A.F g := (List.pairwise_cons.1 h.apart).1 A hA
theorem Sep.cons (h : Sep w0 w L) (hp : E.p w) (hl : ∀ g, E.F g → g < w.heap.size) (ha : ∀ A ∈ L, ∀ g, E.F g → ¬ A.F g) : Sep w0 w (E :: L) :=
  ⟨h.same, fun X hX => by rcases List.mem_cons.1 hX with rfl | hX; exact ⟨hp, hl⟩; exact h.each X hX, List.pairwise_cons.2 ⟨ha, h.apart⟩⟩
/-- Nothing that was there is written. -/
theorem Sep.below (h : Sep w0 w L) (hb : Below w.heap.size w w') : Sep w0 w' L :=
  ⟨h.same.trans (Same.of_below hb), fun X hX => ⟨X.loc (fun g hg => hb.block g ((h.each X hX).2 g hg)) (h.each X hX).1, fun g hg => Nat.lt_of_lt_of_le ((h.each X hX).2 g hg) hb.size⟩, h.apart⟩
/-- .. and a new piece. -/
theorem Sep.new (h : Sep w0 w L) (hb : Below w.heap.size w w') (hp : E.p w') (hF : ∀ g, E.F g → w.heap.size ≤ g ∧ g < w'.heap.size) : Sep w0 w' (E :: L) :=
  (h.below hb).cons hp (fun g hg => (hF g hg).2) (fun X hX g hg h2 => by have h1 := (h.each X hX).2 g h2; have h3 := (hF g hg).1; omega)
/-- The first piece is written. -/
theorem Sep.upd (h : Sep w0 w (E :: L)) (ht : Turn E.F w w') (hp : E'.p w') (hF : ∀ g, E'.F g → (E.F g ∨ w.heap.size ≤ g) ∧ g < w'.heap.size) : Sep w0 w' (E' :: L) := by
  have hl : Sep w0 w' L := ⟨h.same.trans (Same.of_turn ht), fun X hX => ⟨X.loc (fun g hg => ht.block g ((h.tail.each X hX).2 g hg) (fun e => h.far hX g e hg)) (h.tail.each X hX).1, fun g hg => Nat.lt_of_lt_of_le ((h.tail.each X hX).2 g hg) ht.size⟩, h.tail.apart⟩
  refine hl.cons hp (fun g hg => (hF g hg).2) (fun X hX g hg h2 => ?_)
  rcases (hF g hg).1 with h3 | h3
  · exact h.far hX g h3 h2
  · have h1 := (h.tail.each X hX).2 g h2
    omega
/-- The first piece is written, and is of no more use. -/
theorem Sep.kill (h : Sep w0 w (E :: L)) (ht : Turn E.F w w') : Sep w0 w' L :=
  ⟨h.same.trans (Same.of_turn ht), fun X hX => ⟨X.loc (fun g hg => ht.block g ((h.tail.each X hX).2 g hg) (fun e => h.far hX g e hg)) (h.tail.each X hX).1, fun g hg => Nat.lt_of_lt_of_le ((h.tail.each X hX).2 g hg) ht.size⟩, h.tail.apart⟩
/-- The first piece is told otherwise. -/
theorem Sep.weak (h : Sep w0 w (E :: L)) (hp : E.p w → E'.p w) (hF : ∀ g, E'.F g → E.F g) : Sep w0 w (E' :: L) :=
  h.tail.cons (hp h.head) (fun g hg => h.lt g (hF g hg)) (fun _ hX g hg => h.far hX g (hF g hg))
/-- Two pieces as one. -/
def Ent.star (A B : Ent) : Ent := ⟨fun g => A.F g ∨ B.F g, fun w => A.p w ∧ B.p w ∧ ∀ g, A.F g → ¬ B.F g,
  fun h ⟨h1, h2, h3⟩ => ⟨A.loc (fun g hg => h g (.inl hg)) h1, B.loc (fun g hg => h g (.inr hg)) h2, h3⟩⟩
theorem Sep.split (h : Sep w0 w (A.star B :: L)) : Sep w0 w (A :: B :: L) := by
  refine (h.tail.cons (E := B) h.head.2.1 (fun g hg => h.lt g (.inr hg)) (fun X hX g hg => h.far hX g (.inr hg))).cons h.head.1 (fun g hg => h.lt g (.inl hg)) (fun X hX g hg => ?_)
  rcases List.mem_cons.1 hX with rfl | hX
  · exact h.head.2.2 g hg
  · exact h.far hX g (.inl hg)
theorem Sep.drewN (h : Sep w0 w L) (n : Nat) : Sep w0 (w.drewN n) L := h.below (w' := w.drewN n) ⟨rfl, rfl, rfl, Nat.le_refl _, fun _ _ => rfl⟩
theorem Sep.drew (h : Sep w0 w L) : Sep w0 w.drew L := h.below (w' := w.drew) ⟨rfl, rfl, rfl, Nat.le_refl _, fun _ _ => rfl⟩
/-! ### kinds of pieces -/
/-- All that was there in w0. -/
def oldE (w0 : World) : Ent := ⟨fun g => g < w0.heap.size, fun w => ∀ g, g < w0.heap.size → w.heap[g]? = w0.heap[g]?, fun h k g hg => (h g hg).trans (k g hg)⟩
theorem Sep.start (w : World) : Sep w w [oldE w] := ⟨Same.refl w, fun E hE => by obtain rfl := List.mem_singleton.1 hE; exact ⟨fun _ _ => rfl, fun _ h => h⟩, List.pairwise_singleton _ _⟩
theorem Sep.belowOld {_v : World} (h : Sep w0 w L) (hm : oldE w0 ∈ L) : Below w0.heap.size w0 w := ⟨h.same.os, h.same.tape, h.same.output, h.same.size, h.of_mem hm⟩
theorem Sep.old_cell {v : World} (h : Sep w0 w L) (hm : oldE v ∈ L) : ∀ p : Addr, p.block < v.heap.size → w.cell? p = v.cell? p := fun p hp => World.cell?_of_block (h.of_mem hm p.block hp)
theorem Sep.rd {v : World} {x : Value} {l : List UInt8} (h : Sep w0 w L) (hm : oldE v ∈ L) (hr : RdB v x l) : RdB w x l := hr.keep (h.old_cell hm)
/-- A block. -/
def blkE (g : Nat) (T : TypeId) (cs : List Value) : Ent := ⟨fun b => b = g, fun w => OBlk w g T cs, fun h k => k.of_heap (h g rfl)⟩
/-- Bytes of the call's own, or nil. -/
def bytesE (v : Value) (l : List UInt8) : Ent := ⟨fun g => v.ownBlock = some g, fun w => OwB w 0 v l, fun h k => Own.heap k h⟩
def ownE (T : TypeId) (size : Nat) (v : Value) (n : Nat) (xs : List Value) : Ent := ⟨fun g => v.ownBlock = some g, fun w => Own w 0 T size v n xs, fun h k => Own.heap k h⟩
theorem Sep.alloc (h : Sep w0 w L) (T : TypeId) (cs : List Value) : Sep w0 (w.alloc (.cells cs.toArray T)) (blkE w.heap.size T cs :: L) :=
  h.new ((Below.refl _ _).alloc (Nat.le_refl _) _) (OBlk.new' w T cs) (fun g hg => by have hg' : g = w.heap.size := hg; rw [World.size_alloc]; omega)
theorem Sep.setCell {g : Nat} {T : TypeId} {cs : List Value} (h : Sep w0 w (blkE g T cs :: L)) (j : Nat) (u : Value) : Sep w0 (w.setCell ⟨g, j, none⟩ u) (blkE g T (cs.set j u) :: L) :=
  h.upd (Turn.of_grown (grownBy_setCell w ⟨g, j, none⟩ u) (fun k e => (Option.some.inj e).symm)) (OBlk.set (h.head : OBlk w g T cs) j u) (fun b hb => ⟨.inl hb, by have h' := h.lt b hb; simpa using h'⟩)
theorem Sep.bytes {b : Nat} {v : Value} {l : List UInt8} (h : Sep w0 w L) (hb : Below w.heap.size w w') (ho : OwB w' b v l) (hB : w.heap.size ≤ b) : Sep w0 w' (bytesE v l :: L) :=
  h.new hb (OwB.low ho (Nat.zero_le _)) (fun g hg => ⟨Nat.le_trans hB (Own.lt ho g hg).1, (Own.lt ho g hg).2⟩)
/-- A list that is read, in whichever piece. -/
def RdIn (L : List Ent) (v : Value) (l : List UInt8) : Prop := ∃ E ∈ L, ∀ w, E.p w → RdB w v l
theorem RdIn.cons {v : Value} {l : List UInt8} (h : RdIn L v l) : RdIn (E :: L) v l := by obtain ⟨X, hX, h⟩ := h; exact ⟨X, List.mem_cons_of_mem _ hX, h⟩
theorem Sep.rdIn {v : Value} {l : List UInt8} (h : Sep w0 w L) (hr : RdIn L v l) : RdB w v l := by obtain ⟨X, hX, hr⟩ := hr; exact hr w (h.of_mem hX)
/-- Many pieces as one. -/
def allE (D : List Ent) : Ent := ⟨fun g => ∃ E ∈ D, E.F g, fun w => (∀ E ∈ D, E.p w) ∧ D.Pairwise (fun (a b : Ent) => ∀ g : Nat, a.F g → ¬ b.F g),
  fun h ⟨h1, h2⟩ => ⟨fun E hE => E.loc (fun g hg => h g ⟨E, hE, hg⟩) (h1 E hE), h2⟩⟩
theorem Sep.pack {D : List Ent} (h : Sep w0 w (D ++ L)) : Sep w0 w (allE D :: L) := by
  have h1 := List.pairwise_append.1 h.apart
  refine Sep.cons ⟨h.same, fun X hX => h.each X (List.mem_append_right _ hX), h1.2.1⟩ ⟨fun E hE => (h.each E (List.mem_append_left _ hE)).1, h1.1⟩ (fun g hg => ?_) (fun X hX g hg => ?_)
  · obtain ⟨E, hE, hg⟩ := hg
    exact (h.each E (List.mem_append_left _ hE)).2 g hg
  · obtain ⟨E, hE, hg⟩ := hg
    exact h1.2.2 E hE X hX g hg
theorem Sep.unpack {D : List Ent} (h : Sep w0 w (allE D :: L)) : Sep w0 w (D ++ L) := by
  have hp := h.head
  refine ⟨h.same, fun X hX => ?_, List.pairwise_append.2 ⟨hp.2, h.tail.apart, fun E hE X hX g hg => h.far hX g ⟨E, hE, hg⟩⟩⟩
  rcases List.mem_append.1 hX with hX | hX
  · exact ⟨hp.1 X hX, fun g hg => h.lt g ⟨X, hX, hg⟩⟩
  · exact h.tail.each X hX
end
end Go.Proofs.YtfcnkpofcekmgaaGreat

-- node.of, made, New, which, Open: walks.
namespace Go.Proofs.YtfcnkpofcekmgaaGreat
open Go.RowKit
abbrev engL1 : List Value := [.func (.func 68) #[] #[], .func (.func 71) #[] #[], .func (.func 73) #[] #[], .func (.func 74) #[] #[], .func (.func 75) #[] #[]]
abbrev engL2 : List Value := [.func (.func 76) #[] #[], .func (.func 79) #[] #[], .func (.func 81) #[] #[], .func (.func 82) #[] #[], .func (.func 83) #[] #[]]
abbrev engL0 : List Value := [.nilFunc, .nilFunc, .nilFunc, .nilFunc, .nilFunc]
theorem st_func (a : Addr) (m : Mode) (fn : Fn) (first cap : Array Value) (w : World) : (store a (.func fn first cap) m).run Tryz.prog w = stored Tryz.prog w a (.func fn first cap) m := run_store Tryz.prog w a _ m rfl
theorem st_nilFunc (a : Addr) (m : Mode) (w : World) : (store a .nilFunc m).run Tryz.prog w = stored Tryz.prog w a .nilFunc m := run_store Tryz.prog w a _ m rfl
theorem OBlk.cells5' {w : World} {g : Nat} {T : TypeId} {a0 a1 a2 a3 a4 : Value} (h : OBlk w g T [a0, a1, a2, a3, a4]) :
    w.cell? ⟨g, 0, none⟩ = some a0 ∧ w.cell? ⟨g, 1, none⟩ = some a1 ∧ w.cell? ⟨g, 2, none⟩ = some a2 ∧ w.cell? ⟨g, 3, none⟩ = some a3 ∧ w.cell? ⟨g, 4, none⟩ = some a4 := ⟨h.cell 0, h.cell 1, h.cell 2, h.cell 3, h.cell 4⟩
theorem OBlk.froz5' {w : World} {g : Nat} {T : TypeId} {a0 a1 a2 a3 a4 : Value} (h : OBlk w g T [a0, a1, a2, a3, a4]) :
    w.frozen? ⟨g, 0, none⟩ = false ∧ w.frozen? ⟨g, 1, none⟩ = false ∧ w.frozen? ⟨g, 2, none⟩ = false ∧ w.frozen? ⟨g, 3, none⟩ = false ∧ w.frozen? ⟨g, 4, none⟩ = false :=
  ⟨h.frozen (j := 0) (by simp), h.frozen (j := 1) (by simp), h.frozen (j := 2) (by simp), h.frozen (j := 3) (by simp), h.frozen (j := 4) (by simp)⟩
theorem Sep.set5' {w0 w : World} {g : Nat} {T : TypeId} {b0 b1 b2 b3 b4 : Value} {L : List Ent} (h : Sep w0 w (blkE g T [b0, b1, b2, b3, b4] :: L)) (a0 a1 a2 a3 a4 : Value) :
    Sep w0 (((((w.setCell ⟨g, 0, none⟩ a0).setCell ⟨g, 1, none⟩ a1).setCell ⟨g, 2, none⟩ a2).setCell ⟨g, 3, none⟩ a3).setCell ⟨g, 4, none⟩ a4) (blkE g T [a0, a1, a2, a3, a4] :: L) :=
  ((((h.setCell 0 a0).setCell 1 a1).setCell 2 a2).setCell 3 a3).setCell 4 a4
set_option maxRecDepth 20000 in
set_option maxHeartbeats 1000000 in
theorem of_1 (w : World) : Calls Tryz.prog 38 #[.int .i64 1] w fun e w' => e = .returned (.tuple #[.agg #[.func (.func 68) #[] #[], .func (.func 71) #[] #[], .func (.func 73) #[] #[], .func (.func 74) #[] #[], .func (.func 75) #[] #[]], .bool true]) ∧ Below w.heap.size w w' := by
  have hS := (Sep.start w).alloc 81 engL0
  have hsf := st_func
  have hsn := st_nilFunc
  unfold engL0 at *
  go_enter Tryz.func38, Tryz.ntmps38
  go_upto_region 1 with (fail)
  generalize hW1 : w.alloc (.cells #[.nilFunc, .nilFunc, .nilFunc, .nilFunc, .nilFunc] 81) = w1 at *
  generalize w.heap.size = g at *
  clear hW1
  have HS := Lib.hid (hS.set5' (.func (.func 68) #[] #[]) (.func (.func 71) #[] #[]) (.func (.func 73) #[] #[]) (.func (.func 74) #[] #[]) (.func (.func 75) #[] #[]))
  have hO : OBlk w1 g 81 [.nilFunc, .nilFunc, .nilFunc, .nilFunc, .nilFunc] := hS.head
  obtain ⟨y0, y1, y2, y3, y4⟩ := hO.cells5'
  obtain ⟨f0, f1, f2, f3, f4⟩ := hO.froz5'
  clear hS hO
  go_wp2_with fail
  have hO2 : OBlk _ g 81 [.func (.func 68) #[] #[], .func (.func 71) #[] #[], .func (.func 73) #[] #[], .func (.func 74) #[] #[], .func (.func 75) #[] #[]] := HS.out.head
  obtain ⟨e0, e1, e2, e3, e4⟩ := hO2.cells5'
  refine bodyPost_ret (v := .tuple #[.agg #[.func (.func 68) #[] #[], .func (.func 71) #[] #[], .func (.func 73) #[] #[], .func (.func 74) #[] #[], .func (.func 75) #[] #[]], .bool true]) ?_ rfl ?_
  · simp [results, Tryz.results38, go_sem, e0, e1, e2, e3, e4]
  · exact ⟨rfl, HS.out.belowOld (_v := w) (by simp)⟩
set_option maxRecDepth 20000 in
set_option maxHeartbeats 1000000 in
theorem of_2 (w : World) : Calls Tryz.prog 38 #[.int .i64 2] w fun e w' => e = .returned (.tuple #[.agg #[.func (.func 76) #[] #[], .func (.func 79) #[] #[], .func (.func 81) #[] #[], .func (.func 82) #[] #[], .func (.func 83) #[] #[]], .bool true]) ∧ Below w.heap.size w w' := by
  have hS := (Sep.start w).alloc 81 engL0
  have hsf := st_func
  have hsn := st_nilFunc
  unfold engL0 at *
  go_enter Tryz.func38, Tryz.ntmps38
  go_upto_region 1 with (fail)
  generalize hW1 : w.alloc (.cells #[.nilFunc, .nilFunc, .nilFunc, .nilFunc, .nilFunc] 81) = w1 at *
  generalize w.heap.size = g at *
  clear hW1
  have HS := Lib.hid (hS.set5' (.func (.func 76) #[] #[]) (.func (.func 79) #[] #[]) (.func (.func 81) #[] #[]) (.func (.func 82) #[] #[]) (.func (.func 83) #[] #[]))
  have hO : OBlk w1 g 81 [.nilFunc, .nilFunc, .nilFunc, .nilFunc, .nilFunc] := hS.head
  obtain ⟨y0, y1, y2, y3, y4⟩ := hO.cells5'
  obtain ⟨f0, f1, f2, f3, f4⟩ := hO.froz5'
  clear hS hO
  go_wp2_with fail
  have hO2 : OBlk _ g 81 [.func (.func 76) #[] #[], .func (.func 79) #[] #[], .func (.func 81) #[] #[], .func (.func 82) #[] #[], .func (.func 83) #[] #[]] := HS.out.head
  obtain ⟨e0, e1, e2, e3, e4⟩ := hO2.cells5'
  refine bodyPost_ret (v := .tuple #[.agg #[.func (.func 76) #[] #[], .func (.func 79) #[] #[], .func (.func 81) #[] #[], .func (.func 82) #[] #[], .func (.func 83) #[] #[]], .bool true]) ?_ rfl ?_
  · simp [results, Tryz.results38, go_sem, e0, e1, e2, e3, e4]
  · exact ⟨rfl, HS.out.belowOld (_v := w) (by simp)⟩
set_option maxRecDepth 20000 in
set_option maxHeartbeats 1000000 in
theorem of_no (n : Int) (h1 : n ≠ 1) (h2 : n ≠ 2) (w : World) : Calls Tryz.prog 38 #[.int .i64 n] w fun e w' => e = .returned (.tuple #[.agg #[.nilFunc, .nilFunc, .nilFunc, .nilFunc, .nilFunc], .bool false]) ∧ Below w.heap.size w w' := by
  have n1 : (n == 1) = false := beq_eq_false_iff_ne.2 h1
  have n2 : (n == 2) = false := beq_eq_false_iff_ne.2 h2
  clear h1 h2
  have hS := (Sep.start w).alloc 81 engL0
  have hsf := st_func
  have hsn := st_nilFunc
  unfold engL0 at *
  go_enter Tryz.func38, Tryz.ntmps38
  go_upto_region 1 with (fail)
  generalize hW1 : w.alloc (.cells #[.nilFunc, .nilFunc, .nilFunc, .nilFunc, .nilFunc] 81) = w1 at *
  generalize w.heap.size = g at *
  clear hW1
  have HS := Lib.hid (hS.set5' (.nilFunc) (.nilFunc) (.nilFunc) (.nilFunc) (.nilFunc))
  have hO : OBlk w1 g 81 [.nilFunc, .nilFunc, .nilFunc, .nilFunc, .nilFunc] := hS.head
  obtain ⟨y0, y1, y2, y3, y4⟩ := hO.cells5'
  obtain ⟨f0, f1, f2, f3, f4⟩ := hO.froz5'
  clear hS hO
  go_wp2_with fail
  have hO2 : OBlk _ g 81 [.nilFunc, .nilFunc, .nilFunc, .nilFunc, .nilFunc] := HS.out.head
  obtain ⟨e0, e1, e2, e3, e4⟩ := hO2.cells5'
  refine bodyPost_ret (v := .tuple #[.agg #[.nilFunc, .nilFunc, .nilFunc, .nilFunc, .nilFunc], .bool false]) ?_ rfl ?_
  · simp [results, Tryz.results38, go_sem, e0, e1, e2, e3, e4]
  · exact ⟨rfl, HS.out.belowOld (_v := w) (by simp)⟩
set_option maxRecDepth 20000 in
set_option maxHeartbeats 1000000 in
theorem made1_ok (p : Nat) (w : World) : Calls Tryz.prog 69 #[.pointer (some ⟨p, 0, none⟩), .int .i64 0] w fun e w' => e = .returned (.tuple #[ndV1 p, .int .i64 0]) ∧ w = w' := by
  go_enter Tryz.func69, Tryz.ntmps69
  go_wp2_with fail
  go_ret2
  exact ⟨rfl, rfl⟩
set_option maxRecDepth 20000 in
set_option maxHeartbeats 1000000 in
theorem made1_no (v : Value) (z : Int) (hz : z ≠ 0) (w : World) : Calls Tryz.prog 69 #[v, .int .i64 z] w fun e w' => e = .returned (.tuple #[.nilIface, .int .i64 z]) ∧ w = w' := by
  have hq : (z != 0) = true := by simp only [bne, beq_eq_false_iff_ne.2 hz]; rfl
  clear hz
  go_enter Tryz.func69, Tryz.ntmps69
  go_wp2_with fail
  go_ret2
  exact ⟨rfl, rfl⟩
/-- What an engine's New tells. -/
def NewQ1 (R : Nat → World → Prop) (B : Int → World → Prop) (e : Ending) (w' : World) : Prop := (∃ p, e = .returned (.tuple #[.pointer (some ⟨p, 0, none⟩), .int .i64 0]) ∧ R p w') ∨ (∃ z, z ≠ 0 ∧ e = .returned (.tuple #[.pointer none, .int .i64 z]) ∧ B z w')
def NdNewQ1 (R : Nat → World → Prop) (B : Int → World → Prop) (e : Ending) (w' : World) : Prop := (∃ p, e = .returned (.tuple #[ndV1 p, .int .i64 0]) ∧ R p w') ∨ (∃ z, z ≠ 0 ∧ e = .returned (.tuple #[.nilIface, .int .i64 z]) ∧ B z w')
set_option maxRecDepth 20000 in
set_option maxHeartbeats 1000000 in
theorem ofNew1 (kind P : Int) (w : World) (R : Nat → World → Prop) (B : Int → World → Prop) (h : Calls Tryz.prog 70 #[.int .i64 kind, .int .i64 P] w (NewQ1 R B)) : Calls Tryz.prog 68 #[.int .i64 kind, .int .i64 P] w (NdNewQ1 R B) := by
  go_enter Tryz.func68, Tryz.ntmps68
  go_wp2_with fail
  refine h.mono ?_
  unfold NewQ1
  rintro e w' (⟨p, rfl, hR⟩ | ⟨z, hz, rfl, hB⟩)
  · go_wp2_with (first
      | (go_at_call 69; (with_reducible refine (made1_ok p _).mono ?_); rintro e w2 ⟨rfl, rfl⟩)
      | fail)
    go_ret2
    exact .inl ⟨p, rfl, hR⟩
  · go_wp2_with (first
      | (go_at_call 69; (with_reducible refine (made1_no _ z hz _).mono ?_); rintro e w2 ⟨rfl, rfl⟩)
      | fail)
    go_ret2
    exact .inr ⟨z, hz, rfl, hB⟩
/-- What an engine's Open tells. -/
def OpenQ1 (R : Nat → World → Prop) (B : Int → World → Prop) (e : Ending) (w' : World) : Prop := (∃ p, e = .returned (.tuple #[.pointer (some ⟨p, 0, none⟩), .int .i64 0]) ∧ R p w') ∨ (∃ z, z ≠ 0 ∧ e = .returned (.tuple #[.pointer none, .int .i64 z]) ∧ B z w')
def NdOpenQ1 (R : Nat → World → Prop) (B : Int → World → Prop) (e : Ending) (w' : World) : Prop := (∃ p, e = .returned (.tuple #[ndV1 p, .int .i64 0]) ∧ R p w') ∨ (∃ z, z ≠ 0 ∧ e = .returned (.tuple #[.nilIface, .int .i64 z]) ∧ B z w')
set_option maxRecDepth 20000 in
set_option maxHeartbeats 1000000 in
theorem ofOpen1 (vb : Value) (w : World) (R : Nat → World → Prop) (B : Int → World → Prop) (h : Calls Tryz.prog 72 #[vb] w (OpenQ1 R B)) : Calls Tryz.prog 71 #[vb] w (NdOpenQ1 R B) := by
  go_enter Tryz.func71, Tryz.ntmps71
  go_wp2_with fail
  refine h.mono ?_
  unfold OpenQ1
  rintro e w' (⟨p, rfl, hR⟩ | ⟨z, hz, rfl, hB⟩)
  · go_wp2_with (first
      | (go_at_call 69; (with_reducible refine (made1_ok p _).mono ?_); rintro e w2 ⟨rfl, rfl⟩)
      | fail)
    go_ret2
    exact .inl ⟨p, rfl, hR⟩
  · go_wp2_with (first
      | (go_at_call 69; (with_reducible refine (made1_no _ z hz _).mono ?_); rintro e w2 ⟨rfl, rfl⟩)
      | fail)
    go_ret2
    exact .inr ⟨z, hz, rfl, hB⟩
set_option maxRecDepth 20000 in
set_option maxHeartbeats 1000000 in
theorem NdNew_1 (kind P : Int) (w : World) (R : Nat → World → Prop) (B : Int → World → Prop) (h : ∀ W, Below w.heap.size w W → Calls Tryz.prog 70 #[.int .i64 kind, .int .i64 P] W (NewQ1 R B)) : Calls Tryz.prog 8 #[.int .i64 1, .int .i64 kind, .int .i64 P] w (NdNewQ1 R B) := by
  have hsf := st_func
  have hf := fun W hW => ofNew1 kind P W R B (h W hW)
  clear h
  go_enter Tryz.func8, Tryz.ntmps8
  go_upto_region 2 with (first
    | (go_at_call 38; (with_reducible refine (of_1 _).mono ?_); rintro e w1 ⟨rfl, hw1⟩)
    | fail)
  have hS := ((Sep.start w).below hw1).alloc 81 engL1
  unfold engL1 at *
  generalize hW2 : w1.alloc (.cells #[.func (.func 68) #[] #[], .func (.func 71) #[] #[], .func (.func 73) #[] #[], .func (.func 74) #[] #[], .func (.func 75) #[] #[]] 81) = w2 at *
  generalize w1.heap.size = g at *
  clear hW2
  obtain ⟨y0, -, -, -, -⟩ := (show OBlk w2 g 81 [.func (.func 68) #[] #[], .func (.func 71) #[] #[], .func (.func 73) #[] #[], .func (.func 74) #[] #[], .func (.func 75) #[] #[]] from hS.head).cells5'
  have hf2 := hf _ (hS.belowOld (_v := w) (by simp))
  clear hS hf
  go_wp2_with fail
  refine hf2.mono ?_
  unfold NdNewQ1
  rintro e w3 (⟨p, rfl, hR⟩ | ⟨z, hz, rfl, hB⟩)
  · go_wp2_with fail
    go_ret2
    exact .inl ⟨p, rfl, hR⟩
  · go_wp2_with fail
    go_ret2
    exact .inr ⟨z, hz, rfl, hB⟩
set_option maxRecDepth 20000 in
set_option maxHeartbeats 1000000 in
theorem made2_ok (p : Nat) (w : World) : Calls Tryz.prog 77 #[.pointer (some ⟨p, 0, none⟩), .int .i64 0] w fun e w' => e = .returned (.tuple #[ndV2 p, .int .i64 0]) ∧ w = w' := by
  go_enter Tryz.func77, Tryz.ntmps77
  go_wp2_with fail
  go_ret2
  exact ⟨rfl, rfl⟩
set_option maxRecDepth 20000 in
set_option maxHeartbeats 1000000 in
theorem made2_no (v : Value) (z : Int) (hz : z ≠ 0) (w : World) : Calls Tryz.prog 77 #[v, .int .i64 z] w fun e w' => e = .returned (.tuple #[.nilIface, .int .i64 z]) ∧ w = w' := by
  have hq : (z != 0) = true := by simp only [bne, beq_eq_false_iff_ne.2 hz]; rfl
  clear hz
  go_enter Tryz.func77, Tryz.ntmps77
  go_wp2_with fail
  go_ret2
  exact ⟨rfl, rfl⟩
/-- What an engine's New tells. -/
def NewQ2 (R : Nat → World → Prop) (B : Int → World → Prop) (e : Ending) (w' : World) : Prop := (∃ p, e = .returned (.tuple #[.pointer (some ⟨p, 0, none⟩), .int .i64 0]) ∧ R p w') ∨ (∃ z, z ≠ 0 ∧ e = .returned (.tuple #[.pointer none, .int .i64 z]) ∧ B z w')
def NdNewQ2 (R : Nat → World → Prop) (B : Int → World → Prop) (e : Ending) (w' : World) : Prop := (∃ p, e = .returned (.tuple #[ndV2 p, .int .i64 0]) ∧ R p w') ∨ (∃ z, z ≠ 0 ∧ e = .returned (.tuple #[.nilIface, .int .i64 z]) ∧ B z w')
set_option maxRecDepth 20000 in
set_option maxHeartbeats 1000000 in
theorem ofNew2 (kind P : Int) (w : World) (R : Nat → World → Prop) (B : Int → World → Prop) (h : Calls Tryz.prog 78 #[.int .i64 kind, .int .i64 P] w (NewQ2 R B)) : Calls Tryz.prog 76 #[.int .i64 kind, .int .i64 P] w (NdNewQ2 R B) := by
  go_enter Tryz.func76, Tryz.ntmps76
  go_wp2_with fail
  refine h.mono ?_
  unfold NewQ2
  rintro e w' (⟨p, rfl, hR⟩ | ⟨z, hz, rfl, hB⟩)
  · go_wp2_with (first
      | (go_at_call 77; (with_reducible refine (made2_ok p _).mono ?_); rintro e w2 ⟨rfl, rfl⟩)
      | fail)
    go_ret2
    exact .inl ⟨p, rfl, hR⟩
  · go_wp2_with (first
      | (go_at_call 77; (with_reducible refine (made2_no _ z hz _).mono ?_); rintro e w2 ⟨rfl, rfl⟩)
      | fail)
    go_ret2
    exact .inr ⟨z, hz, rfl, hB⟩
set_option maxRecDepth 20000 in
set_option maxHeartbeats 1000000 in
theorem NdNew_2 (kind P : Int) (w : World) (R : Nat → World → Prop) (B : Int → World → Prop) (h : ∀ W, Below w.heap.size w W → Calls Tryz.prog 78 #[.int .i64 kind, .int .i64 P] W (NewQ2 R B)) : Calls Tryz.prog 8 #[.int .i64 2, .int .i64 kind, .int .i64 P] w (NdNewQ2 R B) := by
  have hsf := st_func
  have hf := fun W hW => ofNew2 kind P W R B (h W hW)
  clear h
  go_enter Tryz.func8, Tryz.ntmps8
  go_upto_region 2 with (first
    | (go_at_call 38; (with_reducible refine (of_2 _).mono ?_); rintro e w1 ⟨rfl, hw1⟩)
    | fail)
  have hS := ((Sep.start w).below hw1).alloc 81 engL2
  unfold engL2 at *
  generalize hW2 : w1.alloc (.cells #[.func (.func 76) #[] #[], .func (.func 79) #[] #[], .func (.func 81) #[] #[], .func (.func 82) #[] #[], .func (.func 83) #[] #[]] 81) = w2 at *
  generalize w1.heap.size = g at *
  clear hW2
  obtain ⟨y0, -, -, -, -⟩ := (show OBlk w2 g 81 [.func (.func 76) #[] #[], .func (.func 79) #[] #[], .func (.func 81) #[] #[], .func (.func 82) #[] #[], .func (.func 83) #[] #[]] from hS.head).cells5'
  have hf2 := hf _ (hS.belowOld (_v := w) (by simp))
  clear hS hf
  go_wp2_with fail
  refine hf2.mono ?_
  unfold NdNewQ2
  rintro e w3 (⟨p, rfl, hR⟩ | ⟨z, hz, rfl, hB⟩)
  · go_wp2_with fail
    go_ret2
    exact .inl ⟨p, rfl, hR⟩
  · go_wp2_with fail
    go_ret2
    exact .inr ⟨z, hz, rfl, hB⟩
set_option maxRecDepth 20000 in
set_option maxHeartbeats 1000000 in
theorem NdNew_no (n kind P : Int) (h1 : n ≠ 1) (h2 : n ≠ 2) (w : World) : Calls Tryz.prog 8 #[.int .i64 n, .int .i64 kind, .int .i64 P] w fun e w' => e = .returned (.tuple #[.nilIface, .int .i64 80]) ∧ Below w.heap.size w w' := by
  have hf := of_no n h1 h2 w
  have hsn := st_nilFunc
  clear h1 h2
  go_enter Tryz.func8, Tryz.ntmps8
  go_wp2_with (first
    | (go_at_call 38; (with_reducible refine hf.mono ?_); rintro e w1 ⟨rfl, hw1⟩)
    | fail)
  go_ret2
  exact ⟨rfl, hw1.alloc hw1.size _⟩
end Go.Proofs.YtfcnkpofcekmgaaGreat

-- node.which, Open: walks.
namespace Go.Proofs.YtfcnkpofcekmgaaGreat
open Go.RowKit
/-- The engine's byte. -/
def egB (b : List UInt8) : Nat := (b.getD 1 0).toNat
theorem egB_at {w : World} {A : Option Addr} {n c : Nat} {b : List UInt8} (hv : RdB w (.slice A n c) b) (h2 : 2 ≤ b.length) : ∃ ad, A = some ad ∧ w.cell? ⟨ad.block, ad.off + 1, none⟩ = some (.int .u8 (egB b : Int)) ∧ egB b < 256 := by
  obtain ⟨ad, rfl, h⟩ := hv.at_ (j := 1) (by omega)
  refine ⟨ad, rfl, ?_, (b.getD 1 0).toNat_lt⟩
  have e : b.getD 1 0 = b[1] := by rw [List.getD, List.getElem?_eq_getElem (by omega)]; rfl
  unfold egB
  rw [e]; exact h
set_option maxRecDepth 20000 in
set_option maxHeartbeats 1000000 in
theorem which_1 (v : Value) (b : List UInt8) (w : World) (hv : RdB w v b) (h2 : 2 ≤ b.length) (he : egB b = 1) : Calls Tryz.prog 43 #[v] w fun e w' => e = .returned (.tuple #[.agg #[.func (.func 68) #[] #[], .func (.func 71) #[] #[], .func (.func 73) #[] #[], .func (.func 74) #[] #[], .func (.func 75) #[] #[]], .bool true]) ∧ Below w.heap.size w w' := by
  obtain ⟨A, c, rfl, hm⟩ := hv.form
  have i1 : ¬ (b.length : Int) < 2 := by omega
  have i2 : (1 : Int) < (b.length : Int) := by omega
  have i3 : 1 < b.length := by omega
  obtain ⟨ad, rfl, hc, hlt⟩ := egB_at hv h2
  have e1 : IntKind.i64.wrap (egB b : Int) = (egB b : Int) := by rw [IntKind.wrap_i64]; omega
  rw [he] at hc e1
  have hof := of_1
  have hcb := World.block_lt_of_cell? w _ hc
  clear h2
  have hS := (Sep.start w).alloc 81 engL0
  have hsf := st_func
  have hsn := st_nilFunc
  unfold engL0 at *
  have hc1 := (hS.old_cell (v := w) (by simp) _ hcb).trans hc
  go_enter Tryz.func43, Tryz.ntmps43
  go_upto_region 1 with (fail)
  generalize hW1 : w.alloc (.cells #[.nilFunc, .nilFunc, .nilFunc, .nilFunc, .nilFunc] 81) = w1 at *
  generalize w.heap.size = g at *
  clear hW1
  have hof := hof w1
  go_wp2_with fail
  refine hof.mono ?_
  rintro e w2 ⟨rfl, hw2⟩
  have hS := hS.below hw2
  have HS := Lib.hid (hS.set5' (.func (.func 68) #[] #[]) (.func (.func 71) #[] #[]) (.func (.func 73) #[] #[]) (.func (.func 74) #[] #[]) (.func (.func 75) #[] #[]))
  have hO : OBlk w2 g 81 [.nilFunc, .nilFunc, .nilFunc, .nilFunc, .nilFunc] := hS.head
  obtain ⟨y0, y1, y2, y3, y4⟩ := hO.cells5'
  obtain ⟨f0, f1, f2, f3, f4⟩ := hO.froz5'
  clear hS hO
  go_wp2_with fail
  have hO2 : OBlk _ g 81 [.func (.func 68) #[] #[], .func (.func 71) #[] #[], .func (.func 73) #[] #[], .func (.func 74) #[] #[], .func (.func 75) #[] #[]] := HS.out.head
  obtain ⟨e0, e1, e2, e3, e4⟩ := hO2.cells5'
  refine bodyPost_ret (v := .tuple #[.agg #[.func (.func 68) #[] #[], .func (.func 71) #[] #[], .func (.func 73) #[] #[], .func (.func 74) #[] #[], .func (.func 75) #[] #[]], .bool true]) ?_ rfl ?_
  · simp [results, Tryz.results43, go_sem, e0, e1, e2, e3, e4]
  · exact ⟨rfl, HS.out.belowOld (_v := w) (by simp)⟩
set_option maxRecDepth 20000 in
set_option maxHeartbeats 1000000 in
theorem NdOpen_1 (v : Value) (b : List UInt8) (w : World) (hv : RdB w v b) (h2 : 2 ≤ b.length) (he : egB b = 1) (R : Nat → World → Prop) (B : Int → World → Prop) (h : ∀ W, Below w.heap.size w W → Calls Tryz.prog 72 #[v] W (OpenQ1 R B)) : Calls Tryz.prog 12 #[v] w (NdOpenQ1 R B) := by
  have hf := fun W hW => ofOpen1 v W R B (h W hW)
  have hwh := which_1 v b w hv h2 he
  have hsf := st_func
  obtain ⟨A, c, rfl, hm⟩ := hv.form
  clear h
  go_enter Tryz.func12, Tryz.ntmps12
  go_upto_region 2 with (first
    | (go_at_call 43; (with_reducible refine hwh.mono ?_); rintro e w1 ⟨rfl, hw1⟩)
    | fail)
  have hS := ((Sep.start w).below hw1).alloc 81 engL1
  unfold engL1 at *
  generalize hW2 : w1.alloc (.cells #[.func (.func 68) #[] #[], .func (.func 71) #[] #[], .func (.func 73) #[] #[], .func (.func 74) #[] #[], .func (.func 75) #[] #[]] 81) = w2 at *
  generalize w1.heap.size = g at *
  clear hW2
  obtain ⟨-, y1, -, -, -⟩ := (show OBlk w2 g 81 [.func (.func 68) #[] #[], .func (.func 71) #[] #[], .func (.func 73) #[] #[], .func (.func 74) #[] #[], .func (.func 75) #[] #[]] from hS.head).cells5'
  have hf2 := hf _ (hS.belowOld (_v := w) (by simp))
  clear hS hf
  go_wp2_with fail
  refine hf2.mono ?_
  unfold NdOpenQ1
  rintro e w3 (⟨p, rfl, hR⟩ | ⟨z, hz, rfl, hB⟩)
  · go_wp2_with fail
    go_ret2
    exact .inl ⟨p, rfl, hR⟩
  · go_wp2_with fail
    go_ret2
    exact .inr ⟨z, hz, rfl, hB⟩
end Go.Proofs.YtfcnkpofcekmgaaGreat
