/- Texts joined: Step laws for regions that draw; espalierref03.Lent, AsLent; espalierref03.AsLent; Pieces of memory; Pieces of memory; espalierref06.LentCell, AsLentCell; espalierref06.AsLentCell; Cells made, cells stored; espalierref06.Lent; espalierref06.AsLent; Pieces of memory -/
import Derived.Test.YtfcnkpofcekmgaaGreatNR2
import Derived.Test.YtfcnkpofcekmgaaGreatNR3
import Derived.Test.YtfcnkpofcekmgaaGreatNR6
import Derived.Test.YtfcnkpofcekmgaaGreatNR8
import Derived.Test.YtfcnkpofcekmgaaGreatNR24
import Derived.Deep.QuietTactic
import Derived.BigQuiet
import Derived.Deep.DeepCutAuto
import Derived.Deep.RegionHeld3
-- Step laws for regions that draw: string(bytes).
namespace Go.Proofs.YtfcnkpofcekmgaaGreat
open Go.RowKit
section laws
variable {w : World} {ops : Array Oper} {o : Oper} {a : Act} {Q : Exit → Act → World → Prop}
/-- append(l, m...) of bytes in a region, where it is wanted. -/
theorem step_append_B_w {K : Act → World → Prop} {E : Prop} (s x : Operand)
    (ho : o.op = .call { callee := .builtin .append, args := #[s, x], argTypes := #[41, 41] }) (hw : Region.wanted o (yielded ops a.tmps) = true)
    (base : Nat) (v : Value) (l : List UInt8) (hs : a.eval s = v) (hown : OwB w base v l)
    (vx : Value) (m : List UInt8) (hx : a.eval x = vx) (hr : RdB w vx m) (hsm : l.length + m.length ≤ 140737488355328) (hbase : base ≤ w.heap.size)
    (h : ∀ v' w', OwB w' base v' (l ++ m) → w.grownBy w' v.ownBlock → (v'.ownBlock = v.ownBlock ∨ v'.ownBlock = some w.heap.size) → K (a.put o.dst v') w') :
    if Region.wanted o (yielded ops a.tmps) = true then Oper.wp Tryz.prog o a w K Q else E := by
  rw [if_pos hw]
  obtain ⟨i, hi, hz0, hz1, hz2⟩ := info_parts u8_info
  obtain ⟨v', w', hr, h2, h3, h4⟩ := run_append_Own (P := Tryz.prog) w base _ 41 o.type 5 i _ 1 1 Tryz.underlying41 hi hz0 hz1 hz2 rfl v l.length (bvs l) hown vx m.length (bvs m) (Rd.src w Tryz.underlying41 (by omega) hr.rd (bvs_one m)) (by omega) hsm hbase
  unfold Oper.wp execOp
  simp only [ho, resolve, invoke, builtin, Sem.run_bind, Sem.run_pure, Result.andThen_ok, List.map_toArray, List.map_cons, List.map_nil, hs, hx, hr]
  refine h v' w' ?_ h3 h4
  unfold OwB
  rw [List.length_append, bvs_append]
  exact h2
end laws
theorem step_append_B {w : World} {ops : Array Oper} {o : Oper} {a : Act} {Q : Exit → Act → World → Prop} {K : Act → World → Prop} {E : Prop} (hgd : o.guard = none) (s x : Operand)
    (ho : o.op = .call { callee := .builtin .append, args := #[s, x], argTypes := #[41, 41] })
    (base : Nat) (v : Value) (l : List UInt8) (hs : a.eval s = v) (hown : OwB w base v l)
    (vx : Value) (m : List UInt8) (hx : a.eval x = vx) (hr : RdB w vx m) (hsm : l.length + m.length ≤ 140737488355328) (hbase : base ≤ w.heap.size)
    (h : ∀ v' w', OwB w' base v' (l ++ m) → w.grownBy w' v.ownBlock → (v'.ownBlock = v.ownBlock ∨ v'.ownBlock = some w.heap.size) → K (a.put o.dst v') w') :
    if Region.wanted o (yielded ops a.tmps) = true then Oper.wp Tryz.prog o a w K Q else E :=
  step_append_B_w s x ho (by simp [Region.wanted, hgd]) base v l hs hown vx m hx hr hsm hbase h
end Go.Proofs.YtfcnkpofcekmgaaGreat

-- espalierref03.Lent, AsLent: walks.
namespace Go.Proofs.YtfcnkpofcekmgaaGreat
open Go.RowKit
def mk9 (j : Nat) : List UInt8 := (List.range j).map fun (i : Nat) => UInt8.ofNat (200 + i)
def marks9 : List UInt8 := mk9 9
end Go.Proofs.YtfcnkpofcekmgaaGreat

-- espalierref03.AsLent: the walk.
namespace Go.Proofs.YtfcnkpofcekmgaaGreat
open Go.RowKit
end Go.Proofs.YtfcnkpofcekmgaaGreat

-- Pieces of memory: bytes that were lent.
namespace Go.Proofs.YtfcnkpofcekmgaaGreat
open Go.RowKit
theorem lentC_rd0 {w : World} {b0 g m : Nat} {bl : List UInt8} (h : OwB w b0 (.slice (some ⟨g, 0, none⟩) (m + 9) (m + 9)) (bl ++ marks9)) (hl : bl.length = m) : RdB w (.slice (some ⟨g, 0, none⟩) m (m + 9)) bl := by
  have h1 := OwB.take h (m := m) (by omega)
  rw [List.take_left' hl] at h1
  exact h1.rd
theorem lentC_rd {w : World} {b0 g : Nat} {bl : List UInt8} (h : OwB w b0 (.slice (some ⟨g, 0, none⟩) (bl.length + 9) (bl.length + 9)) (bl ++ marks9)) : RdB w (.slice (some ⟨g, 0, none⟩) bl.length (bl.length + 9)) bl := lentC_rd0 h rfl
end Go.Proofs.YtfcnkpofcekmgaaGreat

-- Pieces of memory: cells that are read.
namespace Go.Proofs.YtfcnkpofcekmgaaGreat
open Go.RowKit
end Go.Proofs.YtfcnkpofcekmgaaGreat

-- espalierref06.LentCell, AsLentCell: walks.
namespace Go.Proofs.YtfcnkpofcekmgaaGreat
open Go.RowKit
/-- A cell that was lent: its bytes lie in blocks of their own. -/
def lentCV (gk gv : Nat) (c : PC) : CV := ⟨.slice (some ⟨gk, 0, none⟩) c.key.length (c.key.length + 9), .slice (some ⟨gv, 0, none⟩) c.val.length (c.val.length + 9), c⟩
structure LentAt (W : World) (base gk gv : Nat) (c : PC) : Prop where
  k : OwB W base (.slice (some ⟨gk, 0, none⟩) (c.key.length + 9) (c.key.length + 9)) (c.key ++ marks9)
  v : OwB W base (.slice (some ⟨gv, 0, none⟩) (c.val.length + 9) (c.val.length + 9)) (c.val ++ marks9)
  lt : gk < gv
theorem LentAt.grown {w w' : World} {base gk gv : Nat} {c : PC} {row : Option Nat} (h : LentAt w base gk gv c) (hg : w.grownBy w' row) (h1 : some gk ≠ row) (h2 : some gv ≠ row) : LentAt w' base gk gv c :=
  ⟨h.k.grown hg (fun g e => by injection e with e; subst e; exact h1), h.v.grown hg (fun g e => by injection e with e; subst e; exact h2), h.lt⟩
theorem LentAt.below {w w' : World} {base gk gv : Nat} {c : PC} (h : LentAt w base gk gv c) (hb : Below w.heap.size w w') : LentAt w' base gk gv c :=
  ⟨h.k.below2 hb, h.v.below2 hb, h.lt⟩
end Go.Proofs.YtfcnkpofcekmgaaGreat

-- espalierref06.AsLentCell: the walk.
namespace Go.Proofs.YtfcnkpofcekmgaaGreat
open Go.RowKit
end Go.Proofs.YtfcnkpofcekmgaaGreat

-- Cells made, cells stored: see Cs.


-- espalierref06.Lent: the walk.
namespace Go.Proofs.YtfcnkpofcekmgaaGreat
open Go.RowKit
def lentL (ps : List (Nat × Nat)) (cs : List PC) : List CV := List.zipWith (fun p c => lentCV p.1 p.2 c) ps cs
theorem lentL_length {ps : List (Nat × Nat)} {cs : List PC} (h : ps.length = cs.length) : (lentL ps cs).length = cs.length := by unfold lentL; rw [List.length_zipWith, h, Nat.min_self]
structure LentsAt (W : World) (base : Nat) (ps : List (Nat × Nat)) (cs : List PC) : Prop where
  len : ps.length = cs.length
  each : ∀ i (h : i < ps.length) (h' : i < cs.length), LentAt W base ps[i].1 ps[i].2 cs[i]
  rise : ps.Pairwise (fun p q => p.2 < q.1)
theorem LentsAt.nil (W : World) (base : Nat) : LentsAt W base [] [] := ⟨rfl, fun i h => by simp at h, List.Pairwise.nil⟩
theorem LentsAt.grown {w w' : World} {base : Nat} {ps : List (Nat × Nat)} {cs : List PC} {row : Option Nat} (h : LentsAt w base ps cs) (hg : w.grownBy w' row) (hr : ∀ k, row = some k → k < base) : LentsAt w' base ps cs :=
  ⟨h.len, fun i h1 h2 => by
    have e := h.each i h1 h2
    have b1 : base ≤ ps[i].1 := (Own.lt e.k ps[i].1 rfl).1
    have b2 : base ≤ ps[i].2 := (Own.lt e.v ps[i].2 rfl).1
    exact e.grown hg (fun h' => by have := hr ps[i].1 h'.symm; omega) (fun h' => by have := hr ps[i].2 h'.symm; omega), h.rise⟩
theorem LentsAt.below {w w' : World} {base : Nat} {ps : List (Nat × Nat)} {cs : List PC} (h : LentsAt w base ps cs) (hb : Below w.heap.size w w') : LentsAt w' base ps cs :=
  ⟨h.len, fun i h1 h2 => (h.each i h1 h2).below hb, h.rise⟩
theorem LentAt.low {w : World} {base b gk gv : Nat} {c : PC} (h : LentAt w base gk gv c) (hb : b ≤ base) : LentAt w b gk gv c := ⟨h.k.low hb, h.v.low hb, h.lt⟩
theorem LentsAt.snoc {w w' : World} {base gk gv : Nat} {ps : List (Nat × Nat)} {cs : List PC} {c : PC} (h : LentsAt w base ps cs) (hb : Below w.heap.size w w') (hl : LentAt w' w.heap.size gk gv c) (hs : base ≤ w.heap.size) :
    LentsAt w' base (ps ++ [(gk, gv)]) (cs ++ [c]) := by
  have h' := h.below hb
  refine ⟨by simp [h.len], fun i h1 h2 => ?_, ?_⟩
  · by_cases hi : i < ps.length
    · have e := h'.each i hi (by rw [← h.len]; exact hi)
      rw [List.getElem_append_left hi, List.getElem_append_left (by rw [← h.len]; exact hi)]
      exact e
    · have hi' : i = ps.length := by simp at h1; omega
      subst hi'
      rw [List.getElem_append_right (Nat.le_refl _), List.getElem_append_right (by rw [h.len]; exact Nat.le_refl _)]
      simp only [List.getElem_singleton]
      exact hl.low hs
  · rw [List.pairwise_append]
    refine ⟨h.rise, by simp, fun a ha b hb' => ?_⟩
    obtain rfl := List.mem_singleton.1 hb'
    obtain ⟨i, hi, rfl⟩ := List.getElem_of_mem ha
    have e := h.each i hi (by rw [← h.len]; exact hi)
    have b3 : ps[i].2 < w.heap.size := (Own.lt e.v ps[i].2 rfl).2
    have b4 : w.heap.size ≤ gk := (Own.lt hl.k gk rfl).1
    show ps[i].2 < gk
    omega
end Go.Proofs.YtfcnkpofcekmgaaGreat

-- espalierref06.AsLent: the walk.
namespace Go.Proofs.YtfcnkpofcekmgaaGreat
open Go.RowKit
structure LaterAt (W : World) (base k : Nat) (ps : List (Nat × Nat)) (cs : List PC) : Prop where
  each : ∀ i (h : i < ps.length) (h' : i < cs.length), k ≤ i → LentAt W base ps[i].1 ps[i].2 cs[i]
theorem LentAt.drewN {w : World} {base gk gv : Nat} {c : PC} (h : LentAt w base gk gv c) : ∀ n, LentAt (w.drewN n) base gk gv c
  | 0 => h
  | n + 1 => ⟨(LentAt.drewN h n).k.drew, (LentAt.drewN h n).v.drew, h.lt⟩
theorem LentAt.turn {F : Nat → Prop} {w w' : World} {base gk gv : Nat} {c : PC} (h : LentAt w base gk gv c) (ht : Turn F w w') (h1 : ¬ F gk) (h2 : ¬ F gv) : LentAt w' base gk gv c :=
  ⟨h.k.turn ht (fun g e => by injection e with e; exact e ▸ h1), h.v.turn ht (fun g e => by injection e with e; exact e ▸ h2), h.lt⟩
end Go.Proofs.YtfcnkpofcekmgaaGreat

-- Pieces of memory: a book, cells that were lent.
namespace Go.Proofs.YtfcnkpofcekmgaaGreat
open Go.RowKit
/-! ### cells that were lent -/
structure LentsIn (w : World) (G hi : Nat) (ps : List (Nat × Nat)) (cs : List PC) : Prop where
  blk : OBlk w G 43 (flatC (lentL ps cs ++ List.replicate 3 (markCV (-7))))
  each : LentsAt w (G + 1) ps cs
  ps_lt : ∀ p ∈ ps, p.2 < hi
  lt : G < hi
/-- A lent list reads as the list that it was made of. -/
theorem LentsIn.rd {w : World} {G hi : Nat} {ps : List (Nat × Nat)} {cs : List PC} {n : Nat} (h : LentsIn w G hi ps cs) (hn : cs.length = n) (hm : n + 3 ≤ 140737488355328) (hr : ∀ c ∈ cs, i64r c.kind ∧ i64r c.page ∧ i64r c.count) : RdCs w (.slice (some ⟨G, 0, none⟩) n (n + 3)) (lentL ps cs) := by
  have hll := lentL_length h.each.len
  refine ⟨⟨by rw [flatC_length], _, n + 3, by rw [hll, hn], by omega, by simp only [maxLen]; omega, fun j u hj => ⟨_, rfl, ?_⟩⟩, fun x hx => ?_⟩
  · rw [add_row, h.blk.cell, flatC_append, Nat.zero_add, List.getElem?_append_left (List.getElem?_eq_some_iff.1 hj).1]
    exact hj
  · obtain ⟨i, hi', rfl⟩ := List.getElem_of_mem hx
    rw [hll] at hi'
    have hip : i < ps.length := by rw [h.each.len]; exact hi'
    have e := h.each.each i hip hi'
    have ex : (lentL ps cs)[i]'(by omega) = lentCV ps[i].1 ps[i].2 cs[i] := by simp only [lentL, List.getElem_zipWith]
    rw [ex]
    obtain ⟨r1, r2, r3⟩ := hr cs[i] (List.getElem_mem hi')
    exact ⟨lentC_rd e.k, lentC_rd e.v, r1, r2, r3⟩
end Go.Proofs.YtfcnkpofcekmgaaGreat
