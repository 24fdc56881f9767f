/- Texts joined: node.Node in words of pieces; espalierlaw08; espalierlaw08.twin -/
import Derived.Test.YtfcnkpofcekmgaaGreatNT8
import Derived.Test.YtfcnkpofcekmgaaGreatNT9
import Derived.Test.YtfcnkpofcekmgaaGreatNT14
import Derived.Test.YtfcnkpofcekmgaaGreatNT17
-- node.Node in words of pieces: a plain page, a packed page, alike.
namespace Go.Proofs.YtfcnkpofcekmgaaGreat
open Go.RowKit
/-- A plain page. -/
def NdP1 (w0 w : World) (L : List Ent) (p P : Nat) (kind : Int) (s : KP) : Prop :=
  ∃ u l, pcs l = s.l ∧ RngC l ∧ Sep w0 w (pgE p kind P (sizeF (pcs l) : Nat) u l :: L)
abbrev NdP2 := PgK
abbrev NdI1 (kind : Int) (P : Nat) (s : KP) : Prop := Wk kind P s.l
abbrev NdI2 (kind : Int) (P : Nat) (s : KP) : Prop := KInv kind P s
def plS (l : List PC) : KP := ⟨l, [], 0⟩
def insZ1 (kind : Int) (P : Nat) (s : KP) (i : Int) (gone : Nat) (c : PC) : Int := insZ kind P s.l i gone c
def insS1 (kind : Int) (P : Nat) (s : KP) (i : Int) (gone : Nat) (c : PC) : KP := plS (insL kind P s.l i gone c)
def remZ1 (_ : Int) (_ : Nat) (s : KP) (i : Int) : Int := remZ s.l i
def remS1 (_ : Int) (_ : Nat) (s : KP) (i : Int) : KP := plS (remL s.l i)
def usd1 (_ : Int) (s : KP) : Nat := sizeF s.l
def insZ2 (kind : Int) (P : Nat) (s : KP) (i : Int) (gone : Nat) (c : PC) : Int := insKZ kind P s.l i gone c
def insS2 (kind : Int) (P : Nat) (s : KP) (i : Int) (gone : Nat) (c : PC) : KP := insKS kind P s i gone c
def remZ2 (kind : Int) (P : Nat) (s : KP) (i : Int) : Int := remKZ kind P s.l i
def remS2 (kind : Int) (P : Nat) (s : KP) (i : Int) : KP := remKS kind P s i
def usd2 (kind : Int) (s : KP) : Nat := usedP kind s
theorem NdI1.ins {kind : Int} {P : Nat} {s : KP} (h : NdI1 kind P s) (i : Int) {gone : Nat} (_ : gone ≤ 1) (c : PC) : NdI1 kind P (insS1 kind P s i gone c) := Wk.ins h i gone c
theorem NdI1.rem {kind : Int} {P : Nat} {s : KP} (h : NdI1 kind P s) (i : Int) : NdI1 kind P (remS1 kind P s i) := Wk.del h i
theorem NdI2.ins {kind : Int} {P : Nat} {s : KP} (h : NdI2 kind P s) (i : Int) {gone : Nat} (hg : gone ≤ 1) (c : PC) : NdI2 kind P (insS2 kind P s i gone c) := KInv.ins h i hg c
theorem NdI2.rem {kind : Int} {P : Nat} {s : KP} (h : NdI2 kind P s) (i : Int) : NdI2 kind P (remS2 kind P s i) := KInv.rem h i
theorem NdI1.len {kind : Int} {P : Nat} {s : KP} (h : NdI1 kind P s) (hP : P ≤ 65536) : s.l.length ≤ 32768 := Wk.len h hP
theorem NdI2.len {kind : Int} {P : Nat} {s : KP} (h : NdI2 kind P s) (hP : P ≤ 65536) : s.l.length ≤ 32768 := by have := KInv.len h hP; omega
theorem NdI1.rise {kind : Int} {P : Nat} {s : KP} (h : NdI1 kind P s) : Rising s.l := Wk.rise h
theorem NdI2.rise {kind : Int} {P : Nat} {s : KP} (h : NdI2 kind P s) : Rising s.l := KInv.rise h
theorem NdI1.ok {kind : Int} {P : Nat} {s : KP} (h : NdI1 kind P s) : ∀ c ∈ s.l, OkC P c := fun c hc => may_ok (Wk.may h c hc)
theorem NdI2.ok {kind : Int} {P : Nat} {s : KP} (h : NdI2 kind P s) : ∀ c ∈ s.l, OkC P c := fun c hc => may_ok (KInv.may h c hc)
section
variable {w0 w w' : World} {L L' : List Ent} {p P : Nat} {kind : Int} {s : KP}
theorem NdP1.below (h : NdP1 w0 w L p P kind s) (hb : Below w.heap.size w w') : NdP1 w0 w' L p P kind s := by
  obtain ⟨u, l, h1, h2, h3⟩ := h; exact ⟨u, l, h1, h2, h3.below hb⟩
theorem NdP2.below (h : NdP2 w0 w L p P kind s) (hb : Below w.heap.size w w') : NdP2 w0 w' L p P kind s := PgK.below h hb
/-- One fact about all pieces. -/
theorem NdP1.sep (h : NdP1 w0 w L p P kind s) : ∃ E, Sep w0 w (E :: L) ∧ ∀ (W : World) (M : List Ent), Sep w0 W (E :: M) → NdP1 w0 W M p P kind s := by
  obtain ⟨u, l, h1, h2, h3⟩ := h; exact ⟨_, h3, fun _ _ h => ⟨u, l, h1, h2, h⟩⟩
theorem NdP2.sep (h : NdP2 w0 w L p P kind s) : ∃ E, Sep w0 w (E :: L) ∧ ∀ (W : World) (M : List Ent), Sep w0 W (E :: M) → NdP2 w0 W M p P kind s := by
  obtain ⟨u, pv, l, h1, h2, h3⟩ := h; exact ⟨_, h3, fun _ _ h => ⟨u, pv, l, h1, h2, h⟩⟩
theorem NdIns1 (hS : NdP1 w0 w L p P kind s) (hk : NdI1 kind P s) (_ : kind = 2 ∨ kind = 3) (hP : P ≤ 65536) (x : CV) (hx : XIn L x) (i : Int) (hi : i64r i) :
    Calls Tryz.prog 201 #[.pointer (some ⟨p, 0, none⟩), .int .i64 i, cellV x] w fun e w' => e = .returned (.int .i64 (insZ1 kind P s i 0 x.c)) ∧ NdP1 w0 w' L p P kind (insS1 kind P s i 0 x.c) := by
  obtain ⟨u, l, h1, h2, h3⟩ := hS
  unfold NdI1 at hk
  rw [← h1] at hk
  refine (PInsert_sep h3 h2 hk hP x hx i hi).mono ?_
  rintro e w' ⟨u', l', rfl, hl, hr, hS'⟩
  exact ⟨by unfold insZ1; rw [h1], u', l', by rw [hl, h1]; rfl, hr, hS'⟩
theorem NdIns2 (hS : NdP2 w0 w L p P kind s) (hk : NdI2 kind P s) (hkd : kind = 2 ∨ kind = 3) (hP : P ≤ 65536) (x : CV) (hx : XIn L x) (i : Int) (hi : i64r i) :
    Calls Tryz.prog 219 #[.pointer (some ⟨p, 0, none⟩), .int .i64 i, cellV x] w fun e w' => e = .returned (.int .i64 (insZ2 kind P s i 0 x.c)) ∧ NdP2 w0 w' L p P kind (insS2 kind P s i 0 x.c) :=
  KInsert_sep hS hk hkd hP x hx i hi
theorem NdSet1 (hS : NdP1 w0 w L p P kind s) (hk : NdI1 kind P s) (_ : kind = 2 ∨ kind = 3) (hP : P ≤ 65536) (x : CV) (hx : XIn L x) (i : Int) (hi : i64r i) :
    Calls Tryz.prog 205 #[.pointer (some ⟨p, 0, none⟩), .int .i64 i, cellV x] w fun e w' => e = .returned (.int .i64 (insZ1 kind P s i 1 x.c)) ∧ NdP1 w0 w' L p P kind (insS1 kind P s i 1 x.c) := by
  obtain ⟨u, l, h1, h2, h3⟩ := hS
  unfold NdI1 at hk
  rw [← h1] at hk
  refine (PSet_sep h3 h2 hk hP x hx i hi).mono ?_
  rintro e w' ⟨u', l', rfl, hl, hr, hS'⟩
  exact ⟨by unfold insZ1; rw [h1], u', l', by rw [hl, h1]; rfl, hr, hS'⟩
theorem NdSet2 (hS : NdP2 w0 w L p P kind s) (hk : NdI2 kind P s) (hkd : kind = 2 ∨ kind = 3) (hP : P ≤ 65536) (x : CV) (hx : XIn L x) (i : Int) (hi : i64r i) :
    Calls Tryz.prog 223 #[.pointer (some ⟨p, 0, none⟩), .int .i64 i, cellV x] w fun e w' => e = .returned (.int .i64 (insZ2 kind P s i 1 x.c)) ∧ NdP2 w0 w' L p P kind (insS2 kind P s i 1 x.c) :=
  KSet_sep hS hk hkd hP x hx i hi
theorem NdRem1 (hS : NdP1 w0 w L p P kind s) (hk : NdI1 kind P s) (hP : P ≤ 65536) (i : Int) (hi : i64r i) :
    Calls Tryz.prog 204 #[.pointer (some ⟨p, 0, none⟩), .int .i64 i] w fun e w' => e = .returned (.int .i64 (remZ1 kind P s i)) ∧ NdP1 w0 w' L p P kind (remS1 kind P s i) := by
  obtain ⟨u, l, h1, h2, h3⟩ := hS
  unfold NdI1 at hk
  rw [← h1] at hk
  refine (PRemove_sep h3 h2 hk hP i hi).mono ?_
  rintro e w' ⟨u', l', rfl, hl, hr, hS'⟩
  exact ⟨by unfold remZ1; rw [h1], u', l', by rw [hl, h1]; rfl, hr, hS'⟩
theorem NdRem2 (hS : NdP2 w0 w L p P kind s) (hk : NdI2 kind P s) (hP : P ≤ 65536) (i : Int) (hi : i64r i) :
    Calls Tryz.prog 222 #[.pointer (some ⟨p, 0, none⟩), .int .i64 i] w fun e w' => e = .returned (.int .i64 (remZ2 kind P s i)) ∧ NdP2 w0 w' L p P kind (remS2 kind P s i) :=
  KRemove_sep hS hk hP i hi
theorem NdCel1 (hS : NdP1 w0 w L p P kind s) (hk : NdI1 kind P s) (hP : P ≤ 65536) (i : Int) (hi : i64r i) :
    Calls Tryz.prog 199 #[.pointer (some ⟨p, 0, none⟩), .int .i64 i] w fun e w' => ∃ y : CV, e = .returned (.tuple #[cellV y, .int .i64 (cellZ s.l i)]) ∧ y.c = cellC s.l i ∧ RngY (cellC s.l i) ∧ NdP1 w0 w' (bytesE y.kv y.c.key :: bytesE y.vv y.c.val :: L) p P kind s := by
  obtain ⟨u, l, h1, h2, h3⟩ := hS
  unfold NdI1 at hk
  rw [← h1] at hk ⊢
  refine (PCell_sep h3 h2 hk hP i hi).mono ?_
  rintro e w' ⟨y, rfl, hy, hr, hS'⟩
  exact ⟨y, rfl, hy, hr, u, l, h1, h2, hS'.sw2⟩
theorem NdCel2 (hS : NdP2 w0 w L p P kind s) (hk : NdI2 kind P s) (hP : P ≤ 65536) (i : Int) (hi : i64r i) :
    Calls Tryz.prog 217 #[.pointer (some ⟨p, 0, none⟩), .int .i64 i] w fun e w' => ∃ y : CV, e = .returned (.tuple #[cellV y, .int .i64 (cellZ s.l i)]) ∧ y.c = cellC s.l i ∧ RngY (cellC s.l i) ∧ NdP2 w0 w' (bytesE y.kv y.c.key :: bytesE y.vv y.c.val :: L) p P kind s := by
  refine (KCell_sep hS hk hP i hi).mono ?_
  intro e w' h
  exact h
theorem NdByt1 (hS : NdP1 w0 w L p P kind s) (hk : NdI1 kind P s) (hkd : isKindB kind = true) (hp : isPowB (P : Int) = true) :
    Calls Tryz.prog 198 #[.pointer (some ⟨p, 0, none⟩)] w fun e w' => ∃ v, e = .returned v ∧ NdP1 w0 w' (bytesE v (laidF kind s.l P) :: L) p P kind s := by
  obtain ⟨u, l, h1, h2, h3⟩ := hS
  unfold NdI1 at hk
  rw [← h1] at hk
  have hr := isPowB_range hp
  refine (PBytes_sep h3 h2 hk hkd (by omega) (by omega)).mono ?_
  rintro e w' ⟨v, rfl, hS'⟩
  rw [h1] at hS'
  exact ⟨v, rfl, u, l, h1, h2, by rw [h1]; exact hS'.sw1⟩
theorem NdFnd1 (hS : NdP1 w0 w L p P kind s) (_ : NdI1 kind P s) (_ : P ≤ 65536) (vk : Value) (key : List UInt8) (hv : RdB w vk key) :
    Calls Tryz.prog 200 #[.pointer (some ⟨p, 0, none⟩), vk] w fun e w' => e = .returned (.tuple #[.int .i64 (findF key s.l : Nat), .bool (isF key s.l)]) ∧ Below w.heap.size w w' := by
  obtain ⟨u, l, h1, h2, h3⟩ := hS
  rw [← h1]
  exact PFind_any (h3.pgAt h2) vk key hv
theorem NdFnd2 (hS : NdP2 w0 w L p P kind s) (hk : NdI2 kind P s) (hP : P ≤ 65536) (vk : Value) (key : List UInt8) (hv : RdB w vk key) :
    Calls Tryz.prog 218 #[.pointer (some ⟨p, 0, none⟩), vk] w fun e w' => e = .returned (.tuple #[.int .i64 (findF key s.l : Nat), .bool (isF key s.l)]) ∧ Below w.heap.size w w' := by
  obtain ⟨u, pv, l, h1, h2, h3⟩ := hS
  have hln := hk.len hP
  have hr := hk.rise
  rw [← h1] at hr ⊢
  exact KFind_any (h3.kAt h2) hr (by rw [← pcs_length, h1]; omega) vk key hv
theorem NdLen1 (hS : NdP1 w0 w L p P kind s) : Calls Tryz.prog 203 #[.pointer (some ⟨p, 0, none⟩)] w fun e w' => e = .returned (.int .i64 (s.l.length : Int)) ∧ w = w' := by
  obtain ⟨u, l, h1, h2, h3⟩ := hS
  rw [← h1, pcs_length]
  exact PLen_any (h3.pgAt h2)
theorem NdLen2 (hS : NdP2 w0 w L p P kind s) : Calls Tryz.prog 221 #[.pointer (some ⟨p, 0, none⟩)] w fun e w' => e = .returned (.int .i64 (s.l.length : Int)) ∧ w = w' := by
  obtain ⟨u, pv, l, h1, h2, h3⟩ := hS
  rw [← h1, pcs_length]
  exact KLen_any (h3.kAt h2)
theorem NdUsd1 (hS : NdP1 w0 w L p P kind s) : Calls Tryz.prog 206 #[.pointer (some ⟨p, 0, none⟩)] w fun e w' => e = .returned (.int .i64 (usd1 kind s : Nat)) ∧ w = w' := by
  obtain ⟨u, l, h1, h2, h3⟩ := hS
  unfold usd1
  rw [← h1]
  exact PUsed_any (h3.pgAt h2)
theorem NdUsd2 (hS : NdP2 w0 w L p P kind s) : Calls Tryz.prog 224 #[.pointer (some ⟨p, 0, none⟩)] w fun e w' => e = .returned (.int .i64 (usd2 kind s : Nat)) ∧ w = w' := by
  obtain ⟨u, pv, l, h1, h2, h3⟩ := hS
  exact KUsed_any (h3.kAt h2)
end
end Go.Proofs.YtfcnkpofcekmgaaGreat

-- espalierlaw08: a call and an answer, as values; blocks of eight cells.
namespace Go.Proofs.YtfcnkpofcekmgaaGreat
open Go.RowKit
structure OpX where
  kind : Int
  at_ : Int
  x : CV
  kv : Value
  key : List UInt8
instance : Inhabited OpX := ⟨⟨0, 0, default, .slice none 0 0, []⟩⟩
def OpX.cells (o : OpX) : List Value := [.int .i64 o.kind, .int .i64 o.at_, o.x.kv, .int .i64 o.x.c.kind, o.x.vv, .int .i64 o.x.c.page, .int .i64 o.x.c.count, o.kv]
def opV (o : OpX) : Value := .agg #[.int .i64 o.kind, .int .i64 o.at_, o.x.kv, .int .i64 o.x.c.kind, o.x.vv, .int .i64 o.x.c.page, .int .i64 o.x.c.count, o.kv]
def zC : PC := ⟨[], 0, [], 0, 0⟩
theorem zC_r : RngY zC := by refine ⟨?_, ?_, ?_⟩ <;> (show _ ≤ _ ∧ _ ≤ _; simp only [zC]; omega)
def ansV (z i : Int) (b : Bool) (y : CV) : Value := .agg #[.int .i64 z, .int .i64 i, .bool b, y.kv, .int .i64 y.c.kind, y.vv, .int .i64 y.c.page, .int .i64 y.c.count]
section
variable {w w0 : World} {g : Nat} {T : TypeId} {a0 a1 a2 a3 a4 a5 a6 a7 : Value} {L : List Ent}
theorem cells8 (h : OBlk w g T [a0, a1, a2, a3, a4, a5, a6, a7]) :
    w.cell? ⟨g, 0, none⟩ = some a0 ∧ w.cell? ⟨g, 1, none⟩ = some a1 ∧ w.cell? ⟨g, 2, none⟩ = some a2 ∧ w.cell? ⟨g, 3, none⟩ = some a3 ∧ w.cell? ⟨g, 4, none⟩ = some a4 ∧ w.cell? ⟨g, 5, none⟩ = some a5 ∧ w.cell? ⟨g, 6, none⟩ = some a6 ∧ w.cell? ⟨g, 7, none⟩ = some a7 :=
  ⟨h.cell 0, h.cell 1, h.cell 2, h.cell 3, h.cell 4, h.cell 5, h.cell 6, h.cell 7⟩
theorem froz8 (h : OBlk w g T [a0, a1, a2, a3, a4, a5, a6, a7]) :
    w.frozen? ⟨g, 0, none⟩ = false ∧ w.frozen? ⟨g, 1, none⟩ = false ∧ w.frozen? ⟨g, 2, none⟩ = false ∧ w.frozen? ⟨g, 3, none⟩ = false ∧ w.frozen? ⟨g, 4, none⟩ = false ∧ w.frozen? ⟨g, 5, none⟩ = false ∧ w.frozen? ⟨g, 6, none⟩ = false ∧ w.frozen? ⟨g, 7, none⟩ = false :=
  ⟨h.frozen (j := 0) (by simp), h.frozen (j := 1) (by simp), h.frozen (j := 2) (by simp), h.frozen (j := 3) (by simp), h.frozen (j := 4) (by simp), h.frozen (j := 5) (by simp), h.frozen (j := 6) (by simp), h.frozen (j := 7) (by simp)⟩
theorem Sep.set8 {b0 b1 b2 b3 b4 b5 b6 b7 : Value} (h : Sep w0 w (blkE g T [b0, b1, b2, b3, b4, b5, b6, b7] :: L)) (a0 a1 a2 a3 a4 a5 a6 a7 : Value) :
    Sep w0 ((((((((w.setCell ⟨g, 0, none⟩ a0).setCell ⟨g, 1, none⟩ a1).setCell ⟨g, 2, none⟩ a2).setCell ⟨g, 3, none⟩ a3).setCell ⟨g, 4, none⟩ a4).setCell ⟨g, 5, none⟩ a5).setCell ⟨g, 6, none⟩ a6).setCell ⟨g, 7, none⟩ a7) (blkE g T [a0, a1, a2, a3, a4, a5, a6, a7] :: L) :=
  (((((((h.setCell 0 a0).setCell 1 a1).setCell 2 a2).setCell 3 a3).setCell 4 a4).setCell 5 a5).setCell 6 a6).setCell 7 a7
end
theorem RdIn.app {L1 L2 : List Ent} {v : Value} {l : List UInt8} (h : RdIn L2 v l) : RdIn (L1 ++ L2) v l := by
  obtain ⟨E, hE, h⟩ := h; exact ⟨E, List.mem_append_right _ hE, h⟩
end Go.Proofs.YtfcnkpofcekmgaaGreat

-- espalierlaw08.twin: the walk, for either engine.
namespace Go.Proofs.YtfcnkpofcekmgaaGreat
open Go.RowKit
def twF1 (kind : Int) (P : Nat) (s : KP) (k at_ : Int) (c : PC) (key : List UInt8) : Int × Int × Bool × PC × KP :=
  if k = 0 then (insZ1 kind P s at_ 0 c, 0, false, zC, insS1 kind P s at_ 0 c)
  else if k = 1 then (insZ1 kind P s at_ 1 c, 0, false, zC, insS1 kind P s at_ 1 c)
  else if k = 2 then (remZ1 kind P s at_, 0, false, zC, remS1 kind P s at_)
  else if k = 3 then (0, ((findF key s.l : Nat) : Int), isF key s.l, zC, s)
  else (cellZ s.l at_, 0, false, cellC s.l at_, s)
def TwAt1 (w0 : World) (L : List Ent) (p P : Nat) (kind : Int) (r : Int × Int × Bool × PC × KP) (e : Ending) (w' : World) : Prop :=
  ∃ y : CV, e = .returned (ansV r.1 r.2.1 r.2.2.1 y) ∧ y.c = r.2.2.2.1 ∧ RngY y.c ∧ NdP1 w0 w' (bytesE y.kv y.c.key :: bytesE y.vv y.c.val :: L) p P kind r.2.2.2.2
set_option maxRecDepth 100000 in
set_option maxHeartbeats 16000000 in
theorem Twin_1 {w0 w : World} {L : List Ent} {p P : Nat} {kind : Int} {s : KP} (hS : NdP1 w0 w L p P kind s) (hI : NdI1 kind P s) (hkd : kind = 2 ∨ kind = 3) (hP : P ≤ 65536) (q : OpX) (hx : XIn L q.x) (hk : RdIn L q.kv q.key) (hr0 : i64r q.kind) (hr1 : i64r q.at_) :
    Calls Tryz.prog 17 #[ndV1 p, opV q] w (TwAt1 w0 L p P kind (twF1 kind P s q.kind q.at_ q.x.c q.key)) := by
  have i1 := im1_insert
  have i2 := im1_set
  have i3 := im1_remove
  have i4 := im1_find
  have i5 := im1_cell
  obtain ⟨E, hS0, B0⟩ := NdP1.sep hS
  have hok := hx.ok hS0 (fun E hE => by simp [hE])
  have hkr := (hS0.tail.rdIn hk)
  obtain ⟨K, at_, x, kv, okey⟩ := q
  simp only at hx hk hr0 hr1 hok hkr ⊢
  obtain ⟨D, cd, rfl, -⟩ := hkr.form
  obtain ⟨A, ca, B, cb, key, ck, val, pg, ct, rfl, -, -⟩ := CV.form hok
  have HX := Lib.hid hx
  have HK := Lib.hid hk
  have HB0 := Lib.hid B0
  have hS1 := ((hS0.alloc 45 [.int .i64 K, .int .i64 at_, .slice A key.length ca, .int .i64 ck, .slice B val.length cb, .int .i64 pg, .int .i64 ct, .slice D okey.length cd]).alloc 53 [.int .i64 0, .int .i64 0, .bool false, .slice none 0 0, .int .i64 0, .slice none 0 0, .int .i64 0, .int .i64 0]).alloc 53 [.int .i64 0, .int .i64 0, .bool false, .slice none 0 0, .int .i64 0, .slice none 0 0, .int .i64 0, .int .i64 0]
  simp only [World.size_alloc] at hS1
  clear hok hkr hx hk hS hS0 B0
  unfold opV
  simp only
  go_enter Tryz.func17, Tryz.ntmps17
  go_upto_region 2 with (fail)
  generalize hW : ((w.alloc (.cells #[.int .i64 K, .int .i64 at_, .slice A key.length ca, .int .i64 ck, .slice B val.length cb, .int .i64 pg, .int .i64 ct, .slice D okey.length cd] 45)).alloc (.cells #[.int .i64 0, .int .i64 0, .bool false, .slice none 0 0, .int .i64 0, .slice none 0 0, .int .i64 0, .int .i64 0] 53)).alloc (.cells #[.int .i64 0, .int .i64 0, .bool false, .slice none 0 0, .int .i64 0, .slice none 0 0, .int .i64 0, .int .i64 0] 53) = w1 at *
  generalize w.heap.size + 1 + 1 = b3 at *
  generalize w.heap.size + 1 = b2 at *
  generalize w.heap.size = b1 at *
  clear hW
  have hPg : NdP1 w0 w1 ([blkE b3 53 [.int .i64 0, .int .i64 0, .bool false, .slice none 0 0, .int .i64 0, .slice none 0 0, .int .i64 0, .int .i64 0], blkE b2 53 [.int .i64 0, .int .i64 0, .bool false, .slice none 0 0, .int .i64 0, .slice none 0 0, .int .i64 0, .int .i64 0], blkE b1 45 [.int .i64 K, .int .i64 at_, .slice A key.length ca, .int .i64 ck, .slice B val.length cb, .int .i64 pg, .int .i64 ct, .slice D okey.length cd]] ++ L) p P kind s := HB0.out _ _ (hS1.sw [_, _, _])
  obtain ⟨c0, c1, c2, c3, c4, c5, c6, c7⟩ := cells8 hS1.tail.tail.blk
  obtain ⟨z0, z1, z2, z3, z4, z5, z6, z7⟩ := cells8 hS1.blk
  by_cases h0 : K = 0
  · subst h0
    have hc := NdIns1 hPg hI hkd hP ⟨.slice A key.length ca, .slice B val.length cb, ⟨key, ck, val, pg, ct⟩⟩ (HX.out.app) at_ hr1
    unfold cellV at hc
    simp only at hc
    have hF : twF1 kind P s 0 at_ ⟨key, ck, val, pg, ct⟩ okey = (insZ1 kind P s at_ 0 ⟨key, ck, val, pg, ct⟩, 0, false, zC, insS1 kind P s at_ 0 ⟨key, ck, val, pg, ct⟩) := by unfold twF1; rw [if_pos rfl]
    have HF := Lib.hid hF
    clear hF hPg hS1
    generalize insZ1 kind P s at_ 0 ⟨key, ck, val, pg, ct⟩ = z at *
    generalize insS1 kind P s at_ 0 ⟨key, ck, val, pg, ct⟩ = s' at *
    go_upto_region 12 with (first
      | (go_at_call 201; (with_reducible refine hc.mono ?_); rintro e w2 ⟨rfl, hP2⟩; obtain ⟨E2, hS2, B2⟩ := NdP1.sep hP2; have hS3 := hS2.sw1; obtain ⟨z0, z1, z2, z3, z4, z5, z6, z7⟩ := cells8 hS3.blk; obtain ⟨f0, f1, f2, f3, f4, f5, f6, f7⟩ := froz8 hS3.blk)
      | fail)
    have HB2 := Lib.hid B2
    have hS4 := (hS3.setCell 0 (.int .i64 z)).sn [_]
    simp only [List.set_cons_zero] at hS4
    have hS5 : Sep w0 (w2.setCell ⟨b3, 0, none⟩ (.int .i64 z)) (blkE b3 53 [.int .i64 z, .int .i64 0, .bool false, .slice none 0 0, .int .i64 0, .slice none 0 0, .int .i64 0, .int .i64 0] :: blkE b2 53 [.int .i64 0, .int .i64 0, .bool false, .slice none 0 0, .int .i64 0, .slice none 0 0, .int .i64 0, .int .i64 0] :: E2 :: blkE b1 45 [.int .i64 0, .int .i64 at_, .slice A key.length ca, .int .i64 ck, .slice B val.length cb, .int .i64 pg, .int .i64 ct, .slice D okey.length cd] :: L) := hS4
    generalize w2.setCell ⟨b3, 0, none⟩ (.int .i64 z) = w5 at *
    clear hc hP2 hS2 hS3 hS4 B2 z0 z1 z2 z3 z4 z5 z6 z7 f0 f1 f2 f3 f4 f5 f6 f7 c0 c1 c2 c3 c4 c5 c6 c7
    obtain ⟨y0, y1, y2, y3, y4, y5, y6, y7⟩ := cells8 hS5.blk
    have hS6 := hS5.sw1
    obtain ⟨r0, r1, r2, r3, r4, r5, r6, r7⟩ := cells8 hS6.blk
    obtain ⟨f0, f1, f2, f3, f4, f5, f6, f7⟩ := froz8 hS6.blk
    have HS := Lib.hid (hS6.set8 (.int .i64 z) (.int .i64 0) (.bool false) (.slice none 0 0) (.int .i64 0) (.slice none 0 0) (.int .i64 0) (.int .i64 0))
    clear hS5 hS6
    go_wp2_with fail
    obtain ⟨e0, e1, e2, e3, e4, e5, e6, e7⟩ := cells8 HS.out.blk
    refine bodyPost_ret (v := .agg #[.int .i64 z, .int .i64 0, .bool false, .slice none 0 0, .int .i64 0, .slice none 0 0, .int .i64 0, .int .i64 0]) ?_ rfl ?_
    · simp [results, Tryz.results17, go_sem, e0, e1, e2, e3, e4, e5, e6, e7]
    · rw [HF.out]
      refine ⟨⟨.slice none 0 0, .slice none 0 0, zC⟩, rfl, rfl, zC_r, HB2.out _ _ ?_⟩
      exact (Sep.pick (L := [_, _, _, _, _, _]) [4, 0, 1] (by decide) rfl HS.out.nil.nil)
  by_cases h1 : K = 1
  · subst h1
    have hc := NdSet1 hPg hI hkd hP ⟨.slice A key.length ca, .slice B val.length cb, ⟨key, ck, val, pg, ct⟩⟩ (HX.out.app) at_ hr1
    unfold cellV at hc
    simp only at hc
    have hF : twF1 kind P s 1 at_ ⟨key, ck, val, pg, ct⟩ okey = (insZ1 kind P s at_ 1 ⟨key, ck, val, pg, ct⟩, 0, false, zC, insS1 kind P s at_ 1 ⟨key, ck, val, pg, ct⟩) := by unfold twF1; rw [if_neg (by decide), if_pos rfl]
    have HF := Lib.hid hF
    clear hF hPg hS1
    generalize insZ1 kind P s at_ 1 ⟨key, ck, val, pg, ct⟩ = z at *
    generalize insS1 kind P s at_ 1 ⟨key, ck, val, pg, ct⟩ = s' at *
    go_upto_region 12 with (first
      | (go_at_call 205; (with_reducible refine hc.mono ?_); rintro e w2 ⟨rfl, hP2⟩; obtain ⟨E2, hS2, B2⟩ := NdP1.sep hP2; have hS3 := hS2.sw1; obtain ⟨z0, z1, z2, z3, z4, z5, z6, z7⟩ := cells8 hS3.blk; obtain ⟨f0, f1, f2, f3, f4, f5, f6, f7⟩ := froz8 hS3.blk)
      | fail)
    have HB2 := Lib.hid B2
    have hS4 := (hS3.setCell 0 (.int .i64 z)).sn [_]
    simp only [List.set_cons_zero] at hS4
    have hS5 : Sep w0 (w2.setCell ⟨b3, 0, none⟩ (.int .i64 z)) (blkE b3 53 [.int .i64 z, .int .i64 0, .bool false, .slice none 0 0, .int .i64 0, .slice none 0 0, .int .i64 0, .int .i64 0] :: blkE b2 53 [.int .i64 0, .int .i64 0, .bool false, .slice none 0 0, .int .i64 0, .slice none 0 0, .int .i64 0, .int .i64 0] :: E2 :: blkE b1 45 [.int .i64 1, .int .i64 at_, .slice A key.length ca, .int .i64 ck, .slice B val.length cb, .int .i64 pg, .int .i64 ct, .slice D okey.length cd] :: L) := hS4
    generalize w2.setCell ⟨b3, 0, none⟩ (.int .i64 z) = w5 at *
    clear hc hP2 hS2 hS3 hS4 B2 z0 z1 z2 z3 z4 z5 z6 z7 f0 f1 f2 f3 f4 f5 f6 f7 c0 c1 c2 c3 c4 c5 c6 c7
    obtain ⟨y0, y1, y2, y3, y4, y5, y6, y7⟩ := cells8 hS5.blk
    have hS6 := hS5.sw1
    obtain ⟨r0, r1, r2, r3, r4, r5, r6, r7⟩ := cells8 hS6.blk
    obtain ⟨f0, f1, f2, f3, f4, f5, f6, f7⟩ := froz8 hS6.blk
    have HS := Lib.hid (hS6.set8 (.int .i64 z) (.int .i64 0) (.bool false) (.slice none 0 0) (.int .i64 0) (.slice none 0 0) (.int .i64 0) (.int .i64 0))
    clear hS5 hS6
    go_wp2_with fail
    obtain ⟨e0, e1, e2, e3, e4, e5, e6, e7⟩ := cells8 HS.out.blk
    refine bodyPost_ret (v := .agg #[.int .i64 z, .int .i64 0, .bool false, .slice none 0 0, .int .i64 0, .slice none 0 0, .int .i64 0, .int .i64 0]) ?_ rfl ?_
    · simp [results, Tryz.results17, go_sem, e0, e1, e2, e3, e4, e5, e6, e7]
    · rw [HF.out]
      refine ⟨⟨.slice none 0 0, .slice none 0 0, zC⟩, rfl, rfl, zC_r, HB2.out _ _ ?_⟩
      exact (Sep.pick (L := [_, _, _, _, _, _]) [4, 0, 1] (by decide) rfl HS.out.nil.nil)
  by_cases h2 : K = 2
  · subst h2
    have hc := NdRem1 hPg hI hP at_ hr1
    have hF : twF1 kind P s 2 at_ ⟨key, ck, val, pg, ct⟩ okey = (remZ1 kind P s at_, 0, false, zC, remS1 kind P s at_) := by unfold twF1; rw [if_neg (by decide), if_neg (by decide), if_pos rfl]
    have HF := Lib.hid hF
    clear hF hPg hS1
    generalize remZ1 kind P s at_ = z at *
    generalize remS1 kind P s at_ = s' at *
    go_upto_region 12 with (first
      | (go_at_call 204; (with_reducible refine hc.mono ?_); rintro e w2 ⟨rfl, hP2⟩; obtain ⟨E2, hS2, B2⟩ := NdP1.sep hP2; have hS3 := hS2.sw1; obtain ⟨z0, z1, z2, z3, z4, z5, z6, z7⟩ := cells8 hS3.blk; obtain ⟨f0, f1, f2, f3, f4, f5, f6, f7⟩ := froz8 hS3.blk)
      | fail)
    have HB2 := Lib.hid B2
    have hS4 := (hS3.setCell 0 (.int .i64 z)).sn [_]
    have hS5 : Sep w0 (w2.setCell ⟨b3, 0, none⟩ (.int .i64 z)) (blkE b3 53 [.int .i64 z, .int .i64 0, .bool false, .slice none 0 0, .int .i64 0, .slice none 0 0, .int .i64 0, .int .i64 0] :: blkE b2 53 [.int .i64 0, .int .i64 0, .bool false, .slice none 0 0, .int .i64 0, .slice none 0 0, .int .i64 0, .int .i64 0] :: E2 :: blkE b1 45 [.int .i64 2, .int .i64 at_, .slice A key.length ca, .int .i64 ck, .slice B val.length cb, .int .i64 pg, .int .i64 ct, .slice D okey.length cd] :: L) := hS4
    generalize w2.setCell ⟨b3, 0, none⟩ (.int .i64 z) = w5 at *
    clear hc hP2 hS2 hS3 hS4 B2 z0 z1 z2 z3 z4 z5 z6 z7 f0 f1 f2 f3 f4 f5 f6 f7 c0 c1 c2 c3 c4 c5 c6 c7
    obtain ⟨y0, y1, y2, y3, y4, y5, y6, y7⟩ := cells8 hS5.blk
    have hS6 := hS5.sw1
    obtain ⟨r0, r1, r2, r3, r4, r5, r6, r7⟩ := cells8 hS6.blk
    obtain ⟨f0, f1, f2, f3, f4, f5, f6, f7⟩ := froz8 hS6.blk
    have HS := Lib.hid (hS6.set8 (.int .i64 z) (.int .i64 0) (.bool false) (.slice none 0 0) (.int .i64 0) (.slice none 0 0) (.int .i64 0) (.int .i64 0))
    clear hS5 hS6
    go_wp2_with fail
    obtain ⟨e0, e1, e2, e3, e4, e5, e6, e7⟩ := cells8 HS.out.blk
    refine bodyPost_ret (v := .agg #[.int .i64 z, .int .i64 0, .bool false, .slice none 0 0, .int .i64 0, .slice none 0 0, .int .i64 0, .int .i64 0]) ?_ rfl ?_
    · simp [results, Tryz.results17, go_sem, e0, e1, e2, e3, e4, e5, e6, e7]
    · rw [HF.out]
      refine ⟨⟨.slice none 0 0, .slice none 0 0, zC⟩, rfl, rfl, zC_r, HB2.out _ _ ?_⟩
      exact (Sep.pick (L := [_, _, _, _, _, _]) [4, 0, 1] (by decide) rfl HS.out.nil.nil)
  by_cases h3 : K = 3
  · subst h3
    have hc := NdFnd1 hPg hI hP (.slice D okey.length cd) okey (hS1.rdIn ((HK.out.app (L1 := [_, _, _, _])) : RdIn ([_, _, _, _] ++ L) _ _))
    have hF : twF1 kind P s 3 at_ ⟨key, ck, val, pg, ct⟩ okey = (0, ((findF okey s.l : Nat) : Int), isF okey s.l, zC, s) := by unfold twF1; rw [if_neg (by decide), if_neg (by decide), if_neg (by decide), if_pos rfl]
    have HF := Lib.hid hF
    clear hF hPg
    generalize findF okey s.l = z at *
    generalize isF okey s.l = bb at *
    go_upto_region 12 with (first
      | (go_at_call 200; (with_reducible refine hc.mono ?_); rintro e w2 ⟨rfl, hw2⟩; have hS3 := hS1.below hw2; obtain ⟨z0, z1, z2, z3, z4, z5, z6, z7⟩ := cells8 hS3.blk; obtain ⟨f0, f1, f2, f3, f4, f5, f6, f7⟩ := froz8 hS3.blk)
      | fail)
    have hS4 := (hS3.setCell 1 (.int .i64 (z : Int))).setCell 2 (.bool bb)
    have hS5 : Sep w0 ((w2.setCell ⟨b3, 1, none⟩ (.int .i64 (z : Int))).setCell ⟨b3, 2, none⟩ (.bool bb)) (blkE b3 53 [.int .i64 0, .int .i64 (z : Int), .bool bb, .slice none 0 0, .int .i64 0, .slice none 0 0, .int .i64 0, .int .i64 0] :: blkE b2 53 [.int .i64 0, .int .i64 0, .bool false, .slice none 0 0, .int .i64 0, .slice none 0 0, .int .i64 0, .int .i64 0] :: blkE b1 45 [.int .i64 3, .int .i64 at_, .slice A key.length ca, .int .i64 ck, .slice B val.length cb, .int .i64 pg, .int .i64 ct, .slice D okey.length cd] :: E :: L) := hS4
    generalize (w2.setCell ⟨b3, 1, none⟩ (.int .i64 (z : Int))).setCell ⟨b3, 2, none⟩ (.bool bb) = w5 at *
    clear hc hS1 hS3 hS4 hw2 z0 z1 z2 z3 z4 z5 z6 z7 f0 f1 f2 f3 f4 f5 f6 f7 c0 c1 c2 c3 c4 c5 c6 c7
    obtain ⟨y0, y1, y2, y3, y4, y5, y6, y7⟩ := cells8 hS5.blk
    have hS6 := hS5.sw1
    obtain ⟨r0, r1, r2, r3, r4, r5, r6, r7⟩ := cells8 hS6.blk
    obtain ⟨f0, f1, f2, f3, f4, f5, f6, f7⟩ := froz8 hS6.blk
    have HS := Lib.hid (hS6.set8 (.int .i64 0) (.int .i64 (z : Int)) (.bool bb) (.slice none 0 0) (.int .i64 0) (.slice none 0 0) (.int .i64 0) (.int .i64 0))
    clear hS5 hS6
    go_wp2_with fail
    obtain ⟨e0, e1, e2, e3, e4, e5, e6, e7⟩ := cells8 HS.out.blk
    refine bodyPost_ret (v := .agg #[.int .i64 0, .int .i64 (z : Int), .bool bb, .slice none 0 0, .int .i64 0, .slice none 0 0, .int .i64 0, .int .i64 0]) ?_ rfl ?_
    · simp [results, Tryz.results17, go_sem, e0, e1, e2, e3, e4, e5, e6, e7]
    · rw [HF.out]
      refine ⟨⟨.slice none 0 0, .slice none 0 0, zC⟩, rfl, rfl, zC_r, HB0.out _ _ ?_⟩
      exact (Sep.pick (L := [_, _, _, _, _, _]) [5, 0, 1] (by decide) rfl HS.out.nil.nil)
  have n0 : (K == 0) = false := beq_eq_false_iff_ne.2 h0
  have n1 : (K == 1) = false := beq_eq_false_iff_ne.2 h1
  have n2 : (K == 2) = false := beq_eq_false_iff_ne.2 h2
  have n3 : (K == 3) = false := beq_eq_false_iff_ne.2 h3
  have hc := NdCel1 hPg hI hP at_ hr1
  have hF : twF1 kind P s K at_ ⟨key, ck, val, pg, ct⟩ okey = (cellZ s.l at_, 0, false, cellC s.l at_, s) := by unfold twF1; rw [if_neg h0, if_neg h1, if_neg h2, if_neg h3]
  have HF := Lib.hid hF
  clear hF hPg hS1 h0 h1 h2 h3
  generalize cellZ s.l at_ = z at *
  generalize cellC s.l at_ = cc at *
  go_upto_region 12 with (first
    | (go_at_call 199; (with_reducible refine hc.mono ?_); rintro e w2 ⟨y, rfl, hy, hry, hP2⟩; obtain ⟨E2, hS2, B2⟩ := NdP1.sep hP2; have hS3 := hS2.sw [_, _, _]; obtain ⟨z0, z1, z2, z3, z4, z5, z6, z7⟩ := cells8 hS3.blk; obtain ⟨f0, f1, f2, f3, f4, f5, f6, f7⟩ := froz8 hS3.blk; have hyk := (show OwB w2 0 y.kv y.c.key from hS2.tail.head); have hyv := (show OwB w2 0 y.vv y.c.val from hS2.tail.tail.head); obtain ⟨kv, vv, ykey, yck, yval, ypg, yct⟩ := y; simp only at hy hyk hyv hS3; obtain ⟨YA, ya, rfl⟩ := Own.slice hyk; obtain ⟨YV, yv, rfl⟩ := Own.slice hyv; unfold cellV)
    | fail)
  have HB2 := Lib.hid B2
  have HY := Lib.hid hy
  have hS4 := (((((hS3.setCell 3 (.slice YA ykey.length ya)).setCell 4 (.int .i64 yck)).setCell 5 (.slice YV yval.length yv)).setCell 6 (.int .i64 ypg)).setCell 7 (.int .i64 yct)).setCell 0 (.int .i64 z)
  have hS5 : Sep w0 ((((((w2.setCell ⟨b3, 3, none⟩ (.slice YA ykey.length ya)).setCell ⟨b3, 4, none⟩ (.int .i64 yck)).setCell ⟨b3, 5, none⟩ (.slice YV yval.length yv)).setCell ⟨b3, 6, none⟩ (.int .i64 ypg)).setCell ⟨b3, 7, none⟩ (.int .i64 yct)).setCell ⟨b3, 0, none⟩ (.int .i64 z)) (blkE b3 53 [.int .i64 z, .int .i64 0, .bool false, .slice YA ykey.length ya, .int .i64 yck, .slice YV yval.length yv, .int .i64 ypg, .int .i64 yct] :: blkE b2 53 [.int .i64 0, .int .i64 0, .bool false, .slice none 0 0, .int .i64 0, .slice none 0 0, .int .i64 0, .int .i64 0] :: E2 :: bytesE (.slice YA ykey.length ya) ykey :: bytesE (.slice YV yval.length yv) yval :: blkE b1 45 [.int .i64 K, .int .i64 at_, .slice A key.length ca, .int .i64 ck, .slice B val.length cb, .int .i64 pg, .int .i64 ct, .slice D okey.length cd] :: L) := hS4.sn [_, _, _]
  generalize (((((w2.setCell ⟨b3, 3, none⟩ (.slice YA ykey.length ya)).setCell ⟨b3, 4, none⟩ (.int .i64 yck)).setCell ⟨b3, 5, none⟩ (.slice YV yval.length yv)).setCell ⟨b3, 6, none⟩ (.int .i64 ypg)).setCell ⟨b3, 7, none⟩ (.int .i64 yct)).setCell ⟨b3, 0, none⟩ (.int .i64 z) = w5 at *
  clear hc hP2 hS2 hS3 hS4 B2 hy hyk hyv z0 z1 z2 z3 z4 z5 z6 z7 f0 f1 f2 f3 f4 f5 f6 f7 c0 c1 c2 c3 c4 c5 c6 c7
  obtain ⟨y0, y1, y2, y3, y4, y5, y6, y7⟩ := cells8 hS5.blk
  have hS6 := hS5.sw1
  obtain ⟨r0, r1, r2, r3, r4, r5, r6, r7⟩ := cells8 hS6.blk
  obtain ⟨f0, f1, f2, f3, f4, f5, f6, f7⟩ := froz8 hS6.blk
  have HS := Lib.hid (hS6.set8 (.int .i64 z) (.int .i64 0) (.bool false) (.slice YA ykey.length ya) (.int .i64 yck) (.slice YV yval.length yv) (.int .i64 ypg) (.int .i64 yct))
  clear hS5 hS6
  go_wp2_with fail
  obtain ⟨e0, e1, e2, e3, e4, e5, e6, e7⟩ := cells8 HS.out.blk
  refine bodyPost_ret (v := .agg #[.int .i64 z, .int .i64 0, .bool false, .slice YA ykey.length ya, .int .i64 yck, .slice YV yval.length yv, .int .i64 ypg, .int .i64 yct]) ?_ rfl ?_
  · simp [results, Tryz.results17, go_sem, e0, e1, e2, e3, e4, e5, e6, e7]
  · rw [HF.out]
    refine ⟨⟨.slice YA ykey.length ya, .slice YV yval.length yv, ⟨ykey, yck, yval, ypg, yct⟩⟩, rfl, HY.out, ?_, HB2.out _ _ ?_⟩
    · rw [HY.out]; exact hry
    · exact (Sep.pick (L := [_, _, _, _, _, _]) [2, 3, 4] (by decide) rfl HS.out)
def twF2 (kind : Int) (P : Nat) (s : KP) (k at_ : Int) (c : PC) (key : List UInt8) : Int × Int × Bool × PC × KP :=
  if k = 0 then (insZ2 kind P s at_ 0 c, 0, false, zC, insS2 kind P s at_ 0 c)
  else if k = 1 then (insZ2 kind P s at_ 1 c, 0, false, zC, insS2 kind P s at_ 1 c)
  else if k = 2 then (remZ2 kind P s at_, 0, false, zC, remS2 kind P s at_)
  else if k = 3 then (0, ((findF key s.l : Nat) : Int), isF key s.l, zC, s)
  else (cellZ s.l at_, 0, false, cellC s.l at_, s)
def TwAt2 (w0 : World) (L : List Ent) (p P : Nat) (kind : Int) (r : Int × Int × Bool × PC × KP) (e : Ending) (w' : World) : Prop :=
  ∃ y : CV, e = .returned (ansV r.1 r.2.1 r.2.2.1 y) ∧ y.c = r.2.2.2.1 ∧ RngY y.c ∧ NdP2 w0 w' (bytesE y.kv y.c.key :: bytesE y.vv y.c.val :: L) p P kind r.2.2.2.2
set_option maxRecDepth 100000 in
set_option maxHeartbeats 16000000 in
theorem Twin_2 {w0 w : World} {L : List Ent} {p P : Nat} {kind : Int} {s : KP} (hS : NdP2 w0 w L p P kind s) (hI : NdI2 kind P s) (hkd : kind = 2 ∨ kind = 3) (hP : P ≤ 65536) (q : OpX) (hx : XIn L q.x) (hk : RdIn L q.kv q.key) (hr0 : i64r q.kind) (hr1 : i64r q.at_) :
    Calls Tryz.prog 17 #[ndV2 p, opV q] w (TwAt2 w0 L p P kind (twF2 kind P s q.kind q.at_ q.x.c q.key)) := by
  have i1 := im2_insert
  have i2 := im2_set
  have i3 := im2_remove
  have i4 := im2_find
  have i5 := im2_cell
  obtain ⟨E, hS0, B0⟩ := NdP2.sep hS
  have hok := hx.ok hS0 (fun E hE => by simp [hE])
  have hkr := (hS0.tail.rdIn hk)
  obtain ⟨K, at_, x, kv, okey⟩ := q
  simp only at hx hk hr0 hr1 hok hkr ⊢
  obtain ⟨D, cd, rfl, -⟩ := hkr.form
  obtain ⟨A, ca, B, cb, key, ck, val, pg, ct, rfl, -, -⟩ := CV.form hok
  have HX := Lib.hid hx
  have HK := Lib.hid hk
  have HB0 := Lib.hid B0
  have hS1 := ((hS0.alloc 45 [.int .i64 K, .int .i64 at_, .slice A key.length ca, .int .i64 ck, .slice B val.length cb, .int .i64 pg, .int .i64 ct, .slice D okey.length cd]).alloc 53 [.int .i64 0, .int .i64 0, .bool false, .slice none 0 0, .int .i64 0, .slice none 0 0, .int .i64 0, .int .i64 0]).alloc 53 [.int .i64 0, .int .i64 0, .bool false, .slice none 0 0, .int .i64 0, .slice none 0 0, .int .i64 0, .int .i64 0]
  simp only [World.size_alloc] at hS1
  clear hok hkr hx hk hS hS0 B0
  unfold opV
  simp only
  go_enter Tryz.func17, Tryz.ntmps17
  go_upto_region 2 with (fail)
  generalize hW : ((w.alloc (.cells #[.int .i64 K, .int .i64 at_, .slice A key.length ca, .int .i64 ck, .slice B val.length cb, .int .i64 pg, .int .i64 ct, .slice D okey.length cd] 45)).alloc (.cells #[.int .i64 0, .int .i64 0, .bool false, .slice none 0 0, .int .i64 0, .slice none 0 0, .int .i64 0, .int .i64 0] 53)).alloc (.cells #[.int .i64 0, .int .i64 0, .bool false, .slice none 0 0, .int .i64 0, .slice none 0 0, .int .i64 0, .int .i64 0] 53) = w1 at *
  generalize w.heap.size + 1 + 1 = b3 at *
  generalize w.heap.size + 1 = b2 at *
  generalize w.heap.size = b1 at *
  clear hW
  have hPg : NdP2 w0 w1 ([blkE b3 53 [.int .i64 0, .int .i64 0, .bool false, .slice none 0 0, .int .i64 0, .slice none 0 0, .int .i64 0, .int .i64 0], blkE b2 53 [.int .i64 0, .int .i64 0, .bool false, .slice none 0 0, .int .i64 0, .slice none 0 0, .int .i64 0, .int .i64 0], blkE b1 45 [.int .i64 K, .int .i64 at_, .slice A key.length ca, .int .i64 ck, .slice B val.length cb, .int .i64 pg, .int .i64 ct, .slice D okey.length cd]] ++ L) p P kind s := HB0.out _ _ (hS1.sw [_, _, _])
  obtain ⟨c0, c1, c2, c3, c4, c5, c6, c7⟩ := cells8 hS1.tail.tail.blk
  obtain ⟨z0, z1, z2, z3, z4, z5, z6, z7⟩ := cells8 hS1.blk
  by_cases h0 : K = 0
  · subst h0
    have hc := NdIns2 hPg hI hkd hP ⟨.slice A key.length ca, .slice B val.length cb, ⟨key, ck, val, pg, ct⟩⟩ (HX.out.app) at_ hr1
    unfold cellV at hc
    simp only at hc
    have hF : twF2 kind P s 0 at_ ⟨key, ck, val, pg, ct⟩ okey = (insZ2 kind P s at_ 0 ⟨key, ck, val, pg, ct⟩, 0, false, zC, insS2 kind P s at_ 0 ⟨key, ck, val, pg, ct⟩) := by unfold twF2; rw [if_pos rfl]
    have HF := Lib.hid hF
    clear hF hPg hS1
    generalize insZ2 kind P s at_ 0 ⟨key, ck, val, pg, ct⟩ = z at *
    generalize insS2 kind P s at_ 0 ⟨key, ck, val, pg, ct⟩ = s' at *
    go_upto_region 12 with (first
      | (go_at_call 219; (with_reducible refine hc.mono ?_); rintro e w2 ⟨rfl, hP2⟩; obtain ⟨E2, hS2, B2⟩ := NdP2.sep hP2; have hS3 := hS2.sw1; obtain ⟨z0, z1, z2, z3, z4, z5, z6, z7⟩ := cells8 hS3.blk; obtain ⟨f0, f1, f2, f3, f4, f5, f6, f7⟩ := froz8 hS3.blk)
      | fail)
    have HB2 := Lib.hid B2
    have hS4 := (hS3.setCell 0 (.int .i64 z)).sn [_]
    simp only [List.set_cons_zero] at hS4
    have hS5 : Sep w0 (w2.setCell ⟨b3, 0, none⟩ (.int .i64 z)) (blkE b3 53 [.int .i64 z, .int .i64 0, .bool false, .slice none 0 0, .int .i64 0, .slice none 0 0, .int .i64 0, .int .i64 0] :: blkE b2 53 [.int .i64 0, .int .i64 0, .bool false, .slice none 0 0, .int .i64 0, .slice none 0 0, .int .i64 0, .int .i64 0] :: E2 :: blkE b1 45 [.int .i64 0, .int .i64 at_, .slice A key.length ca, .int .i64 ck, .slice B val.length cb, .int .i64 pg, .int .i64 ct, .slice D okey.length cd] :: L) := hS4
    generalize w2.setCell ⟨b3, 0, none⟩ (.int .i64 z) = w5 at *
    clear hc hP2 hS2 hS3 hS4 B2 z0 z1 z2 z3 z4 z5 z6 z7 f0 f1 f2 f3 f4 f5 f6 f7 c0 c1 c2 c3 c4 c5 c6 c7
    obtain ⟨y0, y1, y2, y3, y4, y5, y6, y7⟩ := cells8 hS5.blk
    have hS6 := hS5.sw1
    obtain ⟨r0, r1, r2, r3, r4, r5, r6, r7⟩ := cells8 hS6.blk
    obtain ⟨f0, f1, f2, f3, f4, f5, f6, f7⟩ := froz8 hS6.blk
    have HS := Lib.hid (hS6.set8 (.int .i64 z) (.int .i64 0) (.bool false) (.slice none 0 0) (.int .i64 0) (.slice none 0 0) (.int .i64 0) (.int .i64 0))
    clear hS5 hS6
    go_wp2_with fail
    obtain ⟨e0, e1, e2, e3, e4, e5, e6, e7⟩ := cells8 HS.out.blk
    refine bodyPost_ret (v := .agg #[.int .i64 z, .int .i64 0, .bool false, .slice none 0 0, .int .i64 0, .slice none 0 0, .int .i64 0, .int .i64 0]) ?_ rfl ?_
    · simp [results, Tryz.results17, go_sem, e0, e1, e2, e3, e4, e5, e6, e7]
    · rw [HF.out]
      refine ⟨⟨.slice none 0 0, .slice none 0 0, zC⟩, rfl, rfl, zC_r, HB2.out _ _ ?_⟩
      exact (Sep.pick (L := [_, _, _, _, _, _]) [4, 0, 1] (by decide) rfl HS.out.nil.nil)
  by_cases h1 : K = 1
  · subst h1
    have hc := NdSet2 hPg hI hkd hP ⟨.slice A key.length ca, .slice B val.length cb, ⟨key, ck, val, pg, ct⟩⟩ (HX.out.app) at_ hr1
    unfold cellV at hc
    simp only at hc
    have hF : twF2 kind P s 1 at_ ⟨key, ck, val, pg, ct⟩ okey = (insZ2 kind P s at_ 1 ⟨key, ck, val, pg, ct⟩, 0, false, zC, insS2 kind P s at_ 1 ⟨key, ck, val, pg, ct⟩) := by unfold twF2; rw [if_neg (by decide), if_pos rfl]
    have HF := Lib.hid hF
    clear hF hPg hS1
    generalize insZ2 kind P s at_ 1 ⟨key, ck, val, pg, ct⟩ = z at *
    generalize insS2 kind P s at_ 1 ⟨key, ck, val, pg, ct⟩ = s' at *
    go_upto_region 12 with (first
      | (go_at_call 223; (with_reducible refine hc.mono ?_); rintro e w2 ⟨rfl, hP2⟩; obtain ⟨E2, hS2, B2⟩ := NdP2.sep hP2; have hS3 := hS2.sw1; obtain ⟨z0, z1, z2, z3, z4, z5, z6, z7⟩ := cells8 hS3.blk; obtain ⟨f0, f1, f2, f3, f4, f5, f6, f7⟩ := froz8 hS3.blk)
      | fail)
    have HB2 := Lib.hid B2
    have hS4 := (hS3.setCell 0 (.int .i64 z)).sn [_]
    simp only [List.set_cons_zero] at hS4
    have hS5 : Sep w0 (w2.setCell ⟨b3, 0, none⟩ (.int .i64 z)) (blkE b3 53 [.int .i64 z, .int .i64 0, .bool false, .slice none 0 0, .int .i64 0, .slice none 0 0, .int .i64 0, .int .i64 0] :: blkE b2 53 [.int .i64 0, .int .i64 0, .bool false, .slice none 0 0, .int .i64 0, .slice none 0 0, .int .i64 0, .int .i64 0] :: E2 :: blkE b1 45 [.int .i64 1, .int .i64 at_, .slice A key.length ca, .int .i64 ck, .slice B val.length cb, .int .i64 pg, .int .i64 ct, .slice D okey.length cd] :: L) := hS4
    generalize w2.setCell ⟨b3, 0, none⟩ (.int .i64 z) = w5 at *
    clear hc hP2 hS2 hS3 hS4 B2 z0 z1 z2 z3 z4 z5 z6 z7 f0 f1 f2 f3 f4 f5 f6 f7 c0 c1 c2 c3 c4 c5 c6 c7
    obtain ⟨y0, y1, y2, y3, y4, y5, y6, y7⟩ := cells8 hS5.blk
    have hS6 := hS5.sw1
    obtain ⟨r0, r1, r2, r3, r4, r5, r6, r7⟩ := cells8 hS6.blk
    obtain ⟨f0, f1, f2, f3, f4, f5, f6, f7⟩ := froz8 hS6.blk
    have HS := Lib.hid (hS6.set8 (.int .i64 z) (.int .i64 0) (.bool false) (.slice none 0 0) (.int .i64 0) (.slice none 0 0) (.int .i64 0) (.int .i64 0))
    clear hS5 hS6
    go_wp2_with fail
    obtain ⟨e0, e1, e2, e3, e4, e5, e6, e7⟩ := cells8 HS.out.blk
    refine bodyPost_ret (v := .agg #[.int .i64 z, .int .i64 0, .bool false, .slice none 0 0, .int .i64 0, .slice none 0 0, .int .i64 0, .int .i64 0]) ?_ rfl ?_
    · simp [results, Tryz.results17, go_sem, e0, e1, e2, e3, e4, e5, e6, e7]
    · rw [HF.out]
      refine ⟨⟨.slice none 0 0, .slice none 0 0, zC⟩, rfl, rfl, zC_r, HB2.out _ _ ?_⟩
      exact (Sep.pick (L := [_, _, _, _, _, _]) [4, 0, 1] (by decide) rfl HS.out.nil.nil)
  by_cases h2 : K = 2
  · subst h2
    have hc := NdRem2 hPg hI hP at_ hr1
    have hF : twF2 kind P s 2 at_ ⟨key, ck, val, pg, ct⟩ okey = (remZ2 kind P s at_, 0, false, zC, remS2 kind P s at_) := by unfold twF2; rw [if_neg (by decide), if_neg (by decide), if_pos rfl]
    have HF := Lib.hid hF
    clear hF hPg hS1
    generalize remZ2 kind P s at_ = z at *
    generalize remS2 kind P s at_ = s' at *
    go_upto_region 12 with (first
      | (go_at_call 222; (with_reducible refine hc.mono ?_); rintro e w2 ⟨rfl, hP2⟩; obtain ⟨E2, hS2, B2⟩ := NdP2.sep hP2; have hS3 := hS2.sw1; obtain ⟨z0, z1, z2, z3, z4, z5, z6, z7⟩ := cells8 hS3.blk; obtain ⟨f0, f1, f2, f3, f4, f5, f6, f7⟩ := froz8 hS3.blk)
      | fail)
    have HB2 := Lib.hid B2
    have hS4 := (hS3.setCell 0 (.int .i64 z)).sn [_]
    have hS5 : Sep w0 (w2.setCell ⟨b3, 0, none⟩ (.int .i64 z)) (blkE b3 53 [.int .i64 z, .int .i64 0, .bool false, .slice none 0 0, .int .i64 0, .slice none 0 0, .int .i64 0, .int .i64 0] :: blkE b2 53 [.int .i64 0, .int .i64 0, .bool false, .slice none 0 0, .int .i64 0, .slice none 0 0, .int .i64 0, .int .i64 0] :: E2 :: blkE b1 45 [.int .i64 2, .int .i64 at_, .slice A key.length ca, .int .i64 ck, .slice B val.length cb, .int .i64 pg, .int .i64 ct, .slice D okey.length cd] :: L) := hS4
    generalize w2.setCell ⟨b3, 0, none⟩ (.int .i64 z) = w5 at *
    clear hc hP2 hS2 hS3 hS4 B2 z0 z1 z2 z3 z4 z5 z6 z7 f0 f1 f2 f3 f4 f5 f6 f7 c0 c1 c2 c3 c4 c5 c6 c7
    obtain ⟨y0, y1, y2, y3, y4, y5, y6, y7⟩ := cells8 hS5.blk
    have hS6 := hS5.sw1
    obtain ⟨r0, r1, r2, r3, r4, r5, r6, r7⟩ := cells8 hS6.blk
    obtain ⟨f0, f1, f2, f3, f4, f5, f6, f7⟩ := froz8 hS6.blk
    have HS := Lib.hid (hS6.set8 (.int .i64 z) (.int .i64 0) (.bool false) (.slice none 0 0) (.int .i64 0) (.slice none 0 0) (.int .i64 0) (.int .i64 0))
    clear hS5 hS6
    go_wp2_with fail
    obtain ⟨e0, e1, e2, e3, e4, e5, e6, e7⟩ := cells8 HS.out.blk
    refine bodyPost_ret (v := .agg #[.int .i64 z, .int .i64 0, .bool false, .slice none 0 0, .int .i64 0, .slice none 0 0, .int .i64 0, .int .i64 0]) ?_ rfl ?_
    · simp [results, Tryz.results17, go_sem, e0, e1, e2, e3, e4, e5, e6, e7]
    · rw [HF.out]
      refine ⟨⟨.slice none 0 0, .slice none 0 0, zC⟩, rfl, rfl, zC_r, HB2.out _ _ ?_⟩
      exact (Sep.pick (L := [_, _, _, _, _, _]) [4, 0, 1] (by decide) rfl HS.out.nil.nil)
  by_cases h3 : K = 3
  · subst h3
    have hc := NdFnd2 hPg hI hP (.slice D okey.length cd) okey (hS1.rdIn ((HK.out.app (L1 := [_, _, _, _])) : RdIn ([_, _, _, _] ++ L) _ _))
    have hF : twF2 kind P s 3 at_ ⟨key, ck, val, pg, ct⟩ okey = (0, ((findF okey s.l : Nat) : Int), isF okey s.l, zC, s) := by unfold twF2; rw [if_neg (by decide), if_neg (by decide), if_neg (by decide), if_pos rfl]
    have HF := Lib.hid hF
    clear hF hPg
    generalize findF okey s.l = z at *
    generalize isF okey s.l = bb at *
    go_upto_region 12 with (first
      | (go_at_call 218; (with_reducible refine hc.mono ?_); rintro e w2 ⟨rfl, hw2⟩; have hS3 := hS1.below hw2; obtain ⟨z0, z1, z2, z3, z4, z5, z6, z7⟩ := cells8 hS3.blk; obtain ⟨f0, f1, f2, f3, f4, f5, f6, f7⟩ := froz8 hS3.blk)
      | fail)
    have hS4 := (hS3.setCell 1 (.int .i64 (z : Int))).setCell 2 (.bool bb)
    have hS5 : Sep w0 ((w2.setCell ⟨b3, 1, none⟩ (.int .i64 (z : Int))).setCell ⟨b3, 2, none⟩ (.bool bb)) (blkE b3 53 [.int .i64 0, .int .i64 (z : Int), .bool bb, .slice none 0 0, .int .i64 0, .slice none 0 0, .int .i64 0, .int .i64 0] :: blkE b2 53 [.int .i64 0, .int .i64 0, .bool false, .slice none 0 0, .int .i64 0, .slice none 0 0, .int .i64 0, .int .i64 0] :: blkE b1 45 [.int .i64 3, .int .i64 at_, .slice A key.length ca, .int .i64 ck, .slice B val.length cb, .int .i64 pg, .int .i64 ct, .slice D okey.length cd] :: E :: L) := hS4
    generalize (w2.setCell ⟨b3, 1, none⟩ (.int .i64 (z : Int))).setCell ⟨b3, 2, none⟩ (.bool bb) = w5 at *
    clear hc hS1 hS3 hS4 hw2 z0 z1 z2 z3 z4 z5 z6 z7 f0 f1 f2 f3 f4 f5 f6 f7 c0 c1 c2 c3 c4 c5 c6 c7
    obtain ⟨y0, y1, y2, y3, y4, y5, y6, y7⟩ := cells8 hS5.blk
    have hS6 := hS5.sw1
    obtain ⟨r0, r1, r2, r3, r4, r5, r6, r7⟩ := cells8 hS6.blk
    obtain ⟨f0, f1, f2, f3, f4, f5, f6, f7⟩ := froz8 hS6.blk
    have HS := Lib.hid (hS6.set8 (.int .i64 0) (.int .i64 (z : Int)) (.bool bb) (.slice none 0 0) (.int .i64 0) (.slice none 0 0) (.int .i64 0) (.int .i64 0))
    clear hS5 hS6
    go_wp2_with fail
    obtain ⟨e0, e1, e2, e3, e4, e5, e6, e7⟩ := cells8 HS.out.blk
    refine bodyPost_ret (v := .agg #[.int .i64 0, .int .i64 (z : Int), .bool bb, .slice none 0 0, .int .i64 0, .slice none 0 0, .int .i64 0, .int .i64 0]) ?_ rfl ?_
    · simp [results, Tryz.results17, go_sem, e0, e1, e2, e3, e4, e5, e6, e7]
    · rw [HF.out]
      refine ⟨⟨.slice none 0 0, .slice none 0 0, zC⟩, rfl, rfl, zC_r, HB0.out _ _ ?_⟩
      exact (Sep.pick (L := [_, _, _, _, _, _]) [5, 0, 1] (by decide) rfl HS.out.nil.nil)
  have n0 : (K == 0) = false := beq_eq_false_iff_ne.2 h0
  have n1 : (K == 1) = false := beq_eq_false_iff_ne.2 h1
  have n2 : (K == 2) = false := beq_eq_false_iff_ne.2 h2
  have n3 : (K == 3) = false := beq_eq_false_iff_ne.2 h3
  have hc := NdCel2 hPg hI hP at_ hr1
  have hF : twF2 kind P s K at_ ⟨key, ck, val, pg, ct⟩ okey = (cellZ s.l at_, 0, false, cellC s.l at_, s) := by unfold twF2; rw [if_neg h0, if_neg h1, if_neg h2, if_neg h3]
  have HF := Lib.hid hF
  clear hF hPg hS1 h0 h1 h2 h3
  generalize cellZ s.l at_ = z at *
  generalize cellC s.l at_ = cc at *
  go_upto_region 12 with (first
    | (go_at_call 217; (with_reducible refine hc.mono ?_); rintro e w2 ⟨y, rfl, hy, hry, hP2⟩; obtain ⟨E2, hS2, B2⟩ := NdP2.sep hP2; have hS3 := hS2.sw [_, _, _]; obtain ⟨z0, z1, z2, z3, z4, z5, z6, z7⟩ := cells8 hS3.blk; obtain ⟨f0, f1, f2, f3, f4, f5, f6, f7⟩ := froz8 hS3.blk; have hyk := (show OwB w2 0 y.kv y.c.key from hS2.tail.head); have hyv := (show OwB w2 0 y.vv y.c.val from hS2.tail.tail.head); obtain ⟨kv, vv, ykey, yck, yval, ypg, yct⟩ := y; simp only at hy hyk hyv hS3; obtain ⟨YA, ya, rfl⟩ := Own.slice hyk; obtain ⟨YV, yv, rfl⟩ := Own.slice hyv; unfold cellV)
    | fail)
  have HB2 := Lib.hid B2
  have HY := Lib.hid hy
  have hS4 := (((((hS3.setCell 3 (.slice YA ykey.length ya)).setCell 4 (.int .i64 yck)).setCell 5 (.slice YV yval.length yv)).setCell 6 (.int .i64 ypg)).setCell 7 (.int .i64 yct)).setCell 0 (.int .i64 z)
  have hS5 : Sep w0 ((((((w2.setCell ⟨b3, 3, none⟩ (.slice YA ykey.length ya)).setCell ⟨b3, 4, none⟩ (.int .i64 yck)).setCell ⟨b3, 5, none⟩ (.slice YV yval.length yv)).setCell ⟨b3, 6, none⟩ (.int .i64 ypg)).setCell ⟨b3, 7, none⟩ (.int .i64 yct)).setCell ⟨b3, 0, none⟩ (.int .i64 z)) (blkE b3 53 [.int .i64 z, .int .i64 0, .bool false, .slice YA ykey.length ya, .int .i64 yck, .slice YV yval.length yv, .int .i64 ypg, .int .i64 yct] :: blkE b2 53 [.int .i64 0, .int .i64 0, .bool false, .slice none 0 0, .int .i64 0, .slice none 0 0, .int .i64 0, .int .i64 0] :: E2 :: bytesE (.slice YA ykey.length ya) ykey :: bytesE (.slice YV yval.length yv) yval :: blkE b1 45 [.int .i64 K, .int .i64 at_, .slice A key.length ca, .int .i64 ck, .slice B val.length cb, .int .i64 pg, .int .i64 ct, .slice D okey.length cd] :: L) := hS4.sn [_, _, _]
  generalize (((((w2.setCell ⟨b3, 3, none⟩ (.slice YA ykey.length ya)).setCell ⟨b3, 4, none⟩ (.int .i64 yck)).setCell ⟨b3, 5, none⟩ (.slice YV yval.length yv)).setCell ⟨b3, 6, none⟩ (.int .i64 ypg)).setCell ⟨b3, 7, none⟩ (.int .i64 yct)).setCell ⟨b3, 0, none⟩ (.int .i64 z) = w5 at *
  clear hc hP2 hS2 hS3 hS4 B2 hy hyk hyv z0 z1 z2 z3 z4 z5 z6 z7 f0 f1 f2 f3 f4 f5 f6 f7 c0 c1 c2 c3 c4 c5 c6 c7
  obtain ⟨y0, y1, y2, y3, y4, y5, y6, y7⟩ := cells8 hS5.blk
  have hS6 := hS5.sw1
  obtain ⟨r0, r1, r2, r3, r4, r5, r6, r7⟩ := cells8 hS6.blk
  obtain ⟨f0, f1, f2, f3, f4, f5, f6, f7⟩ := froz8 hS6.blk
  have HS := Lib.hid (hS6.set8 (.int .i64 z) (.int .i64 0) (.bool false) (.slice YA ykey.length ya) (.int .i64 yck) (.slice YV yval.length yv) (.int .i64 ypg) (.int .i64 yct))
  clear hS5 hS6
  go_wp2_with fail
  obtain ⟨e0, e1, e2, e3, e4, e5, e6, e7⟩ := cells8 HS.out.blk
  refine bodyPost_ret (v := .agg #[.int .i64 z, .int .i64 0, .bool false, .slice YA ykey.length ya, .int .i64 yck, .slice YV yval.length yv, .int .i64 ypg, .int .i64 yct]) ?_ rfl ?_
  · simp [results, Tryz.results17, go_sem, e0, e1, e2, e3, e4, e5, e6, e7]
  · rw [HF.out]
    refine ⟨⟨.slice YA ykey.length ya, .slice YV yval.length yv, ⟨ykey, yck, yval, ypg, yct⟩⟩, rfl, HY.out, ?_, HB2.out _ _ ?_⟩
    · rw [HY.out]; exact hry
    · exact (Sep.pick (L := [_, _, _, _, _, _]) [2, 3, 4] (by decide) rfl HS.out)
end Go.Proofs.YtfcnkpofcekmgaaGreat
