/- Decode and Choose in terms of metas; the state of the law MetaDecodes. -/
import Derived.Test.YtdnfbjmapdgnnaaLawEncA
import Derived.Test.YtdnfbjmapdgnnaaLawKept
import Derived.Test.YtdnfbjmapdgnnaaMem3
import Derived.Test.YtdnfbjmapdgnnaaRefMetaDec2
import Derived.Test.YtdnfbjmapdgnnaaRefMetaCho
namespace Go.Proofs.Ytdnfbjmapdgnnaa
open Go.RowKit
def zeroM : MetaN := ⟨0, 0, 0, 0, 0, 0, 0, 0⟩
def readM (l : List UInt8) : MetaN := ⟨engI l, fldI l 0, fldI l 1, fldI l 2, fldI l 3, fldI l 4, fldI l 5, fldI l 6⟩
def decM (l : List UInt8) : MetaN := bif isMeta l then readM l else zeroM
def decC (l : List UInt8) : Int := bif isMeta l then 0 else 50
def choM (a b : List UInt8) : MetaN := bif pickB a b then readM b else bif oneB a then readM a else zeroM
theorem decM_cells (l : List UInt8) : (bif isMeta l then metaV l else zeroV).toArray = #[.int .i64 (decM l).engine, .int .i64 (decM l).page, .int .i64 (decM l).txn, .int .i64 (decM l).root, .int .i64 (decM l).count, .int .i64 (decM l).free, .int .i64 (decM l).listed, .int .i64 (decM l).high] := by
  unfold decM; cases isMeta l <;> rfl
theorem choM_cells (a b : List UInt8) : (choV a b).toArray = #[.int .i64 (choM a b).engine, .int .i64 (choM a b).page, .int .i64 (choM a b).txn, .int .i64 (choM a b).root, .int .i64 (choM a b).count, .int .i64 (choM a b).free, .int .i64 (choM a b).listed, .int .i64 (choM a b).high] := by
  unfold choM choV; cases pickB a b <;> cases oneB a <;> rfl
def DecM (l : List UInt8) (w : World) (e : Ending) (w' : World) : Prop :=
  e = .returned (.tuple #[.agg #[.int .i64 (decM l).engine, .int .i64 (decM l).page, .int .i64 (decM l).txn, .int .i64 (decM l).root, .int .i64 (decM l).count, .int .i64 (decM l).free, .int .i64 (decM l).listed, .int .i64 (decM l).high], .int .i64 (decC l)]) ∧ Below w.heap.size w w'
def ChoM (a b : List UInt8) (w : World) (e : Ending) (w' : World) : Prop :=
  e = .returned (.tuple #[.agg #[.int .i64 (choM a b).engine, .int .i64 (choM a b).page, .int .i64 (choM a b).txn, .int .i64 (choM a b).root, .int .i64 (choM a b).count, .int .i64 (choM a b).free, .int .i64 (choM a b).listed, .int .i64 (choM a b).high], .int .i64 (choW a b), .int .i64 (choE a b)]) ∧ Below w.heap.size w w'
theorem DecPost.m {l : List UInt8} {w w' : World} {e : Ending} (h : DecPost l w e w') : DecM l w e w' := by
  obtain ⟨rfl, hb⟩ := h
  rw [decM_cells]
  exact ⟨rfl, hb⟩
theorem ChoPost.m {a b : List UInt8} {w w' : World} {e : Ending} (h : ChoPost a b w e w') : ChoM a b w e w' := by
  obtain ⟨rfl, hb⟩ := h
  rw [choM_cells]
  exact ⟨rfl, hb⟩
theorem DecodeM (v : Value) (l : List UInt8) (w : World) (hv : RdB w v l) : Calls Try.prog 16 #[v] w (DecM l w) := (Decode_any v l w hv).mono fun _ _ h => h.m
theorem RDecodeM (v : Value) (l : List UInt8) (w : World) (hv : RdB w v l) : Calls Try.prog 18 #[v] w (DecM l w) := (RDecode_any v l w hv).mono fun _ _ h => h.m
theorem ChooseM (va vb : Value) (a b : List UInt8) (w : World) (ha : RdB w va a) (hb : RdB w vb b) : Calls Try.prog 17 #[va, vb] w (ChoM a b w) := (Choose_any va vb a b w ha hb).mono fun _ _ h => h.m
theorem RChooseM (va vb : Value) (a b : List UInt8) (w : World) (ha : RdB w va a) (hb : RdB w vb b) : Calls Try.prog 19 #[va, vb] w (ChoM a b w) := (RChoose_any va vb a b w ha hb).mono fun _ _ h => h.m
/-- What stands: the two pages that were lent hold x and y. -/
structure DecI (w : World) (gx cx nx gy cy ny : Nat) (x y : List UInt8) (wi : World) : Prop where
  hx : x.length = nx
  hy : y.length = ny
  ox : OwB wi w.heap.size (.slice (some ⟨gx, 0, none⟩) (nx + 8) cx) (x ++ spareL)
  oy : OwB wi w.heap.size (.slice (some ⟨gy, 0, none⟩) (ny + 8) cy) (y ++ spareL)
  ne : gx ≠ gy
  hb : Below w.heap.size w wi
section
variable {w wi w' : World} {x y : List UInt8} {gx cx nx gy cy ny base : Nat}
theorem OwB.head (h : OwB wi base (.slice (some ⟨gx, 0, none⟩) (nx + 8) cx) (x ++ spareL)) (hx : x.length = nx) : RdB wi (.slice (some ⟨gx, 0, none⟩) nx cx) x := by
  subst hx
  have := (h.take (m := x.length) (by omega)).rd
  rw [List.take_left] at this
  exact this
theorem DecI.rx (h : DecI w gx cx nx gy cy ny x y wi) : RdB wi (.slice (some ⟨gx, 0, none⟩) nx cx) x := h.ox.head h.hx
theorem DecI.ry (h : DecI w gx cx nx gy cy ny x y wi) : RdB wi (.slice (some ⟨gy, 0, none⟩) ny cy) y := h.oy.head h.hy
theorem DecI.arg (h : DecI w gx cx nx gy cy ny x y wi) {v : Value} {a : List UInt8} (ha : RdB w v a) : RdB wi v a := ha.below h.hb (Nat.le_refl _)
theorem DecI.bx (h : DecI w gx cx nx gy cy ny x y wi) : w.heap.size ≤ gx ∧ gx < wi.heap.size := h.ox.lt gx rfl
theorem DecI.by' (h : DecI w gx cx nx gy cy ny x y wi) : w.heap.size ≤ gy ∧ gy < wi.heap.size := h.oy.lt gy rfl
theorem DecI.below (h : DecI w gx cx nx gy cy ny x y wi) (hb : Below wi.heap.size wi w') : DecI w gx cx nx gy cy ny x y w' :=
  ⟨h.hx, h.hy, h.ox.below' hb (Nat.le_refl _), h.oy.below' hb (Nat.le_refl _), h.ne, h.hb.trans (hb.mono h.hb.size)⟩
theorem DecI.alloc (h : DecI w gx cx nx gy cy ny x y wi) (o : Obj) : DecI w gx cx nx gy cy ny x y (wi.alloc o) := h.below ((Below.refl _ _).alloc (Nat.le_refl _) o)
theorem DecI.grown {g : Nat} (h : DecI w gx cx nx gy cy ny x y wi) (hg : wi.grownBy w' (some g)) (h0 : w.heap.size ≤ g) (h1 : gx ≠ g) (h2 : gy ≠ g) : DecI w gx cx nx gy cy ny x y w' :=
  ⟨h.hx, h.hy, h.ox.grown hg (fun k hk he => h1 ((Option.some.inj hk).trans (Option.some.inj he))), h.oy.grown hg (fun k hk he => h2 ((Option.some.inj hk).trans (Option.some.inj he))), h.ne, h.hb.grown hg h.hb.size (fun k hk => (Option.some.inj hk) ▸ h0)⟩
theorem DecI.setx {x' : List UInt8} (h : DecI w gx cx nx gy cy ny x y wi) (hg : wi.grownBy w' (some gx)) (ho : OwB w' w.heap.size (.slice (some ⟨gx, 0, none⟩) (nx + 8) cx) (x' ++ spareL)) (hl : x'.length = nx) : DecI w gx cx nx gy cy ny x' y w' :=
  ⟨hl, h.hy, ho, h.oy.grown hg (fun k hk he => h.ne ((Option.some.inj hk).trans (Option.some.inj he)).symm), h.ne, h.hb.grown hg h.hb.size (fun k hk => (Option.some.inj hk) ▸ h.bx.1)⟩
theorem DecI.sety {y' : List UInt8} (h : DecI w gx cx nx gy cy ny x y wi) (hg : wi.grownBy w' (some gy)) (ho : OwB w' w.heap.size (.slice (some ⟨gy, 0, none⟩) (ny + 8) cy) (y' ++ spareL)) (hl : y'.length = ny) : DecI w gx cx nx gy cy ny x y' w' :=
  ⟨h.hx, hl, h.ox.grown hg (fun k hk he => h.ne ((Option.some.inj hk).trans (Option.some.inj he))), ho, h.ne, h.hb.grown hg h.hb.size (fun k hk => (Option.some.inj hk) ▸ h.by'.1)⟩
theorem DecI.new {w1 w2 w3 : World} (h1 : Below w.heap.size w w1) (ox : OwB w2 w1.heap.size (.slice (some ⟨gx, 0, none⟩) (x.length + 8) cx) (x ++ spareL)) (h2 : Below w1.heap.size w1 w2)
    (oy : OwB w3 w2.heap.size (.slice (some ⟨gy, 0, none⟩) (y.length + 8) cy) (y ++ spareL)) (h3 : Below w2.heap.size w2 w3) : DecI w gx cx x.length gy cy y.length x y w3 := by
  have b2 := h1.trans (h2.mono h1.size)
  refine ⟨rfl, rfl, (ox.low h1.size).below' h3 (Nat.le_refl _), oy.low b2.size, ?_, b2.trans (h3.mono b2.size)⟩
  have := (ox.lt gx rfl).2
  have := (oy.lt gy rfl).1
  omega
end
/-- A meta that was laid. -/
def MAt (g : Nat) (m : MetaN) (w : World) : Prop := OBlk w g 24 m.cells.toList
theorem MAt.new (m : MetaN) (w : World) : MAt w.heap.size m (w.alloc (.cells #[.int .i64 m.engine, .int .i64 m.page, .int .i64 m.txn, .int .i64 m.root, .int .i64 m.count, .int .i64 m.free, .int .i64 m.listed, .int .i64 m.high] 24)) := OBlk.new' w _ m.cells.toList
theorem MAt.below {g : Nat} {m : MetaN} {w w' : World} (h : MAt g m w) (hb : Below w.heap.size w w') : MAt g m w' := OBlk.below h hb (OBlk.lt h)
theorem MAt.alloc {g : Nat} {m : MetaN} {w : World} (h : MAt g m w) (o : Obj) : MAt g m (w.alloc o) := OBlk.alloc h o
theorem MAt.lt {g : Nat} {m : MetaN} {w : World} (h : MAt g m w) : g < w.heap.size := OBlk.lt h
theorem MAt.grown {g k : Nat} {m : MetaN} {w w' : World} (h : MAt g m w) (hg : w.grownBy w' (some k)) (hne : g ≠ k) : MAt g m w' := OBlk.grown h hg (fun e => hne (by injection e))
theorem MAt.ne_bytes {g k n c b : Nat} {m : MetaN} {w : World} {l : List UInt8} (h : MAt g m w) (ho : OwB w b (.slice (some ⟨k, 0, none⟩) n c) l) : k ≠ g := fun e => ho.ne_blk h (by decide) (by rw [e]; rfl)
theorem MAt.frozen {g : Nat} {m : MetaN} {w : World} (h : MAt g m w) :
    w.frozen? ⟨g, 0, none⟩ = false ∧ w.frozen? ⟨g, 1, none⟩ = false ∧ w.frozen? ⟨g, 2, none⟩ = false ∧ w.frozen? ⟨g, 3, none⟩ = false ∧ w.frozen? ⟨g, 4, none⟩ = false ∧ w.frozen? ⟨g, 5, none⟩ = false ∧ w.frozen? ⟨g, 6, none⟩ = false ∧ w.frozen? ⟨g, 7, none⟩ = false :=
  have f := fun j (hj : j < 8) => OBlk.frozen h (j := j) hj
  ⟨f 0 (by omega), f 1 (by omega), f 2 (by omega), f 3 (by omega), f 4 (by omega), f 5 (by omega), f 6 (by omega), f 7 (by omega)⟩
/-- A meta is written over. -/
theorem MAt.put {g : Nat} {m : MetaN} {w : World} (h : MAt g m w) (m' : MetaN) :
    ∃ w', w' = ((((((((w.setCell ⟨g, 0, none⟩ (.int .i64 m'.engine)).setCell ⟨g, 1, none⟩ (.int .i64 m'.page)).setCell ⟨g, 2, none⟩ (.int .i64 m'.txn)).setCell ⟨g, 3, none⟩ (.int .i64 m'.root)).setCell ⟨g, 4, none⟩ (.int .i64 m'.count)).setCell ⟨g, 5, none⟩ (.int .i64 m'.free)).setCell ⟨g, 6, none⟩ (.int .i64 m'.listed)).setCell ⟨g, 7, none⟩ (.int .i64 m'.high)) ∧
      MAt g m' w' ∧ w.grownBy w' (some g) := by
  refine ⟨_, rfl, set8 h _ _ _ _ _ _ _ _, ?_⟩
  exact grownBy_setCells [.int .i64 m'.engine, .int .i64 m'.page, .int .i64 m'.txn, .int .i64 m'.root, .int .i64 m'.count, .int .i64 m'.free, .int .i64 m'.listed, .int .i64 m'.high] 0 w g
theorem MAt.cells {g : Nat} {m : MetaN} {w : World} (h : MAt g m w) :
    w.cell? ⟨g, 0, none⟩ = some (.int .i64 m.engine) ∧ w.cell? ⟨g, 1, none⟩ = some (.int .i64 m.page) ∧ w.cell? ⟨g, 2, none⟩ = some (.int .i64 m.txn) ∧ w.cell? ⟨g, 3, none⟩ = some (.int .i64 m.root) ∧
    w.cell? ⟨g, 4, none⟩ = some (.int .i64 m.count) ∧ w.cell? ⟨g, 5, none⟩ = some (.int .i64 m.free) ∧ w.cell? ⟨g, 6, none⟩ = some (.int .i64 m.listed) ∧ w.cell? ⟨g, 7, none⟩ = some (.int .i64 m.high) := cells8 h
end Go.Proofs.Ytdnfbjmapdgnnaa
