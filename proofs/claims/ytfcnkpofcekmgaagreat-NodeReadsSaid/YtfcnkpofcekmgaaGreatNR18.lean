/- Texts joined: node.Node in words of pieces; node.of, made, New, which, Open; node.which, Open; node.New, node.Open, in words of pieces.; Packed pages -/
import Derived.Test.YtfcnkpofcekmgaaGreatNR2
import Derived.Test.YtfcnkpofcekmgaaGreatNR6
import Derived.Test.YtfcnkpofcekmgaaGreatNR8
import Derived.Test.YtfcnkpofcekmgaaGreatNR9
import Derived.Test.YtfcnkpofcekmgaaGreatNR10
import Derived.Test.YtfcnkpofcekmgaaGreatNR14
import Derived.Test.YtfcnkpofcekmgaaGreatNR17
import Derived.Deep.RegionHeld3
import Derived.Deep.CutBlock
-- node.Node in words of pieces: a plain page, a packed page, alike.
namespace Go.Proofs.YtfcnkpofcekmgaaGreat
open Go.RowKit
/-- A plain page. -/
def NdP1 (w0 w : World) (L : List Ent) (p P : Nat) (kind : Int) (s : KP) : Prop :=
  ∃ u l, pcs l = s.l ∧ RngC l ∧ Sep w0 w (pgE p kind P (sizeF (pcs l) : Nat) u l :: L)
abbrev NdP2 := PgK
abbrev NdI1 (kind : Int) (P : Nat) (s : KP) : Prop := Wk kind P s.l
abbrev NdI2 (kind : Int) (P : Nat) (s : KP) : Prop := KInv kind P s
def plS (l : List PC) : KP := ⟨l, [], 0⟩
def insZ1 (kind : Int) (P : Nat) (s : KP) (i : Int) (gone : Nat) (c : PC) : Int := insZ kind P s.l i gone c
def insS1 (kind : Int) (P : Nat) (s : KP) (i : Int) (gone : Nat) (c : PC) : KP := plS (insL kind P s.l i gone c)
def usd1 (_ : Int) (s : KP) : Nat := sizeF s.l
def insZ2 (kind : Int) (P : Nat) (s : KP) (i : Int) (gone : Nat) (c : PC) : Int := insKZ kind P s.l i gone c
def insS2 (kind : Int) (P : Nat) (s : KP) (i : Int) (gone : Nat) (c : PC) : KP := insKS kind P s i gone c
def usd2 (kind : Int) (s : KP) : Nat := usedP kind s
theorem NdI1.ins {kind : Int} {P : Nat} {s : KP} (h : NdI1 kind P s) (i : Int) {gone : Nat} (_ : gone ≤ 1) (c : PC) : NdI1 kind P (insS1 kind P s i gone c) := Wk.ins h i gone c
theorem NdI2.ins {kind : Int} {P : Nat} {s : KP} (h : NdI2 kind P s) (i : Int) {gone : Nat} (hg : gone ≤ 1) (c : PC) : NdI2 kind P (insS2 kind P s i gone c) := KInv.ins h i hg c
theorem NdI1.len {kind : Int} {P : Nat} {s : KP} (h : NdI1 kind P s) (hP : P ≤ 65536) : s.l.length ≤ 32768 := Wk.len h hP
theorem NdI2.len {kind : Int} {P : Nat} {s : KP} (h : NdI2 kind P s) (hP : P ≤ 65536) : s.l.length ≤ 32768 := by have := KInv.len h hP; omega
theorem NdI1.rise {kind : Int} {P : Nat} {s : KP} (h : NdI1 kind P s) : Rising s.l := Wk.rise h
theorem NdI2.rise {kind : Int} {P : Nat} {s : KP} (h : NdI2 kind P s) : Rising s.l := KInv.rise h
theorem NdI1.ok {kind : Int} {P : Nat} {s : KP} (h : NdI1 kind P s) : ∀ c ∈ s.l, OkC P c := fun c hc => may_ok (Wk.may h c hc)
theorem NdI2.ok {kind : Int} {P : Nat} {s : KP} (h : NdI2 kind P s) : ∀ c ∈ s.l, OkC P c := fun c hc => may_ok (KInv.may h c hc)
section
variable {w0 w w' : World} {L L' : List Ent} {p P : Nat} {kind : Int} {s : KP}
theorem NdP1.below (h : NdP1 w0 w L p P kind s) (hb : Below w.heap.size w w') : NdP1 w0 w' L p P kind s := by
  obtain ⟨u, l, h1, h2, h3⟩ := h; exact ⟨u, l, h1, h2, h3.below hb⟩
theorem NdP2.below (h : NdP2 w0 w L p P kind s) (hb : Below w.heap.size w w') : NdP2 w0 w' L p P kind s := PgK.below h hb
/-- One fact about all pieces. -/
theorem NdP1.sep (h : NdP1 w0 w L p P kind s) : ∃ E, Sep w0 w (E :: L) ∧ ∀ (W : World) (M : List Ent), Sep w0 W (E :: M) → NdP1 w0 W M p P kind s := by
  obtain ⟨u, l, h1, h2, h3⟩ := h; exact ⟨_, h3, fun _ _ h => ⟨u, l, h1, h2, h⟩⟩
theorem NdP2.sep (h : NdP2 w0 w L p P kind s) : ∃ E, Sep w0 w (E :: L) ∧ ∀ (W : World) (M : List Ent), Sep w0 W (E :: M) → NdP2 w0 W M p P kind s := by
  obtain ⟨u, pv, l, h1, h2, h3⟩ := h; exact ⟨_, h3, fun _ _ h => ⟨u, pv, l, h1, h2, h⟩⟩
theorem NdIns1 (hS : NdP1 w0 w L p P kind s) (hk : NdI1 kind P s) (_ : kind = 2 ∨ kind = 3) (hP : P ≤ 65536) (x : CV) (hx : XIn L x) (i : Int) (hi : i64r i) :
    Calls Tryz.prog 201 #[.pointer (some ⟨p, 0, none⟩), .int .i64 i, cellV x] w fun e w' => e = .returned (.int .i64 (insZ1 kind P s i 0 x.c)) ∧ NdP1 w0 w' L p P kind (insS1 kind P s i 0 x.c) := by
  obtain ⟨u, l, h1, h2, h3⟩ := hS
  unfold NdI1 at hk
  rw [← h1] at hk
  refine (PInsert_sep h3 h2 hk hP x hx i hi).mono ?_
  rintro e w' ⟨u', l', rfl, hl, hr, hS'⟩
  exact ⟨by unfold insZ1; rw [h1], u', l', by rw [hl, h1]; rfl, hr, hS'⟩
theorem NdIns2 (hS : NdP2 w0 w L p P kind s) (hk : NdI2 kind P s) (hkd : kind = 2 ∨ kind = 3) (hP : P ≤ 65536) (x : CV) (hx : XIn L x) (i : Int) (hi : i64r i) :
    Calls Tryz.prog 219 #[.pointer (some ⟨p, 0, none⟩), .int .i64 i, cellV x] w fun e w' => e = .returned (.int .i64 (insZ2 kind P s i 0 x.c)) ∧ NdP2 w0 w' L p P kind (insS2 kind P s i 0 x.c) :=
  KInsert_sep hS hk hkd hP x hx i hi
theorem NdCel1 (hS : NdP1 w0 w L p P kind s) (hk : NdI1 kind P s) (hP : P ≤ 65536) (i : Int) (hi : i64r i) :
    Calls Tryz.prog 199 #[.pointer (some ⟨p, 0, none⟩), .int .i64 i] w fun e w' => ∃ y : CV, e = .returned (.tuple #[cellV y, .int .i64 (cellZ s.l i)]) ∧ y.c = cellC s.l i ∧ RngY (cellC s.l i) ∧ NdP1 w0 w' (bytesE y.kv y.c.key :: bytesE y.vv y.c.val :: L) p P kind s := by
  obtain ⟨u, l, h1, h2, h3⟩ := hS
  unfold NdI1 at hk
  rw [← h1] at hk ⊢
  refine (PCell_sep h3 h2 hk hP i hi).mono ?_
  rintro e w' ⟨y, rfl, hy, hr, hS'⟩
  exact ⟨y, rfl, hy, hr, u, l, h1, h2, hS'.sw2⟩
theorem NdCel2 (hS : NdP2 w0 w L p P kind s) (hk : NdI2 kind P s) (hP : P ≤ 65536) (i : Int) (hi : i64r i) :
    Calls Tryz.prog 217 #[.pointer (some ⟨p, 0, none⟩), .int .i64 i] w fun e w' => ∃ y : CV, e = .returned (.tuple #[cellV y, .int .i64 (cellZ s.l i)]) ∧ y.c = cellC s.l i ∧ RngY (cellC s.l i) ∧ NdP2 w0 w' (bytesE y.kv y.c.key :: bytesE y.vv y.c.val :: L) p P kind s := by
  refine (KCell_sep hS hk hP i hi).mono ?_
  intro e w' h
  exact h
theorem NdByt1 (hS : NdP1 w0 w L p P kind s) (hk : NdI1 kind P s) (hkd : isKindB kind = true) (hp : isPowB (P : Int) = true) :
    Calls Tryz.prog 198 #[.pointer (some ⟨p, 0, none⟩)] w fun e w' => ∃ v, e = .returned v ∧ NdP1 w0 w' (bytesE v (laidF kind s.l P) :: L) p P kind s := by
  obtain ⟨u, l, h1, h2, h3⟩ := hS
  unfold NdI1 at hk
  rw [← h1] at hk
  have hr := isPowB_range hp
  refine (PBytes_sep h3 h2 hk hkd (by omega) (by omega)).mono ?_
  rintro e w' ⟨v, rfl, hS'⟩
  rw [h1] at hS'
  exact ⟨v, rfl, u, l, h1, h2, by rw [h1]; exact hS'.sw1⟩
theorem NdByt2 (hS : NdP2 w0 w L p P kind s) (hk : NdI2 kind P s) (hkd : isKindB kind = true) (hp : isPowB (P : Int) = true) :
    Calls Tryz.prog 216 #[.pointer (some ⟨p, 0, none⟩)] w fun e w' => ∃ v, e = .returned v ∧ NdP2 w0 w' (bytesE v (laidK kind s.l P) :: L) p P kind s := by
  obtain ⟨u, pv, l, h1, h2, h3⟩ := hS
  have hr := isPowB_range hp
  have hln := hk.len (show P ≤ 65536 by omega)
  have hll : (laidK kind s.l P).length = P := laidK_length hk.size
  refine (KBytes_any (h3.kAt h2) (by rw [← pcs_length, h1]; omega) (by omega) hkd hp (by rw [h1]; exact hk.enc)).mono ?_
  rintro e w' ⟨g, rfl, hg, hbk, hb⟩
  rw [h1] at hbk
  have ho := hbk.owB' hg (by rw [hll]; simp only [maxLen]; omega)
  rw [hll] at ho
  exact ⟨_, rfl, u, pv, l, h1, h2, (h3.bytes hb ho (Nat.le_refl _)).sw1⟩
theorem NdKin1 (hS : NdP1 w0 w L p P kind s) : Calls Tryz.prog 202 #[.pointer (some ⟨p, 0, none⟩)] w fun e w' => e = .returned (.int .i64 kind) ∧ w = w' := by
  obtain ⟨u, l, h1, h2, h3⟩ := hS
  exact PKind_any (h3.pgAt h2)
theorem NdKin2 (hS : NdP2 w0 w L p P kind s) : Calls Tryz.prog 220 #[.pointer (some ⟨p, 0, none⟩)] w fun e w' => e = .returned (.int .i64 kind) ∧ w = w' := by
  obtain ⟨u, pv, l, h1, h2, h3⟩ := hS
  exact KKind_any (h3.kAt h2)
theorem NdFnd1 (hS : NdP1 w0 w L p P kind s) (_ : NdI1 kind P s) (_ : P ≤ 65536) (vk : Value) (key : List UInt8) (hv : RdB w vk key) :
    Calls Tryz.prog 200 #[.pointer (some ⟨p, 0, none⟩), vk] w fun e w' => e = .returned (.tuple #[.int .i64 (findF key s.l : Nat), .bool (isF key s.l)]) ∧ Below w.heap.size w w' := by
  obtain ⟨u, l, h1, h2, h3⟩ := hS
  rw [← h1]
  exact PFind_any (h3.pgAt h2) vk key hv
theorem NdLen1 (hS : NdP1 w0 w L p P kind s) : Calls Tryz.prog 203 #[.pointer (some ⟨p, 0, none⟩)] w fun e w' => e = .returned (.int .i64 (s.l.length : Int)) ∧ w = w' := by
  obtain ⟨u, l, h1, h2, h3⟩ := hS
  rw [← h1, pcs_length]
  exact PLen_any (h3.pgAt h2)
theorem NdLen2 (hS : NdP2 w0 w L p P kind s) : Calls Tryz.prog 221 #[.pointer (some ⟨p, 0, none⟩)] w fun e w' => e = .returned (.int .i64 (s.l.length : Int)) ∧ w = w' := by
  obtain ⟨u, pv, l, h1, h2, h3⟩ := hS
  rw [← h1, pcs_length]
  exact KLen_any (h3.kAt h2)
theorem NdUsd1 (hS : NdP1 w0 w L p P kind s) : Calls Tryz.prog 206 #[.pointer (some ⟨p, 0, none⟩)] w fun e w' => e = .returned (.int .i64 (usd1 kind s : Nat)) ∧ w = w' := by
  obtain ⟨u, l, h1, h2, h3⟩ := hS
  unfold usd1
  rw [← h1]
  exact PUsed_any (h3.pgAt h2)
theorem NdUsd2 (hS : NdP2 w0 w L p P kind s) : Calls Tryz.prog 224 #[.pointer (some ⟨p, 0, none⟩)] w fun e w' => e = .returned (.int .i64 (usd2 kind s : Nat)) ∧ w = w' := by
  obtain ⟨u, pv, l, h1, h2, h3⟩ := hS
  exact KUsed_any (h3.kAt h2)
end
end Go.Proofs.YtfcnkpofcekmgaaGreat

-- node.of, made, New, which, Open: walks.
namespace Go.Proofs.YtfcnkpofcekmgaaGreat
open Go.RowKit
abbrev engL1 : List Value := [.func (.func 68) #[] #[], .func (.func 71) #[] #[], .func (.func 73) #[] #[], .func (.func 74) #[] #[], .func (.func 75) #[] #[]]
abbrev engL2 : List Value := [.func (.func 76) #[] #[], .func (.func 79) #[] #[], .func (.func 81) #[] #[], .func (.func 82) #[] #[], .func (.func 83) #[] #[]]
abbrev engL0 : List Value := [.nilFunc, .nilFunc, .nilFunc, .nilFunc, .nilFunc]
theorem st_func (a : Addr) (m : Mode) (fn : Fn) (first cap : Array Value) (w : World) : (store a (.func fn first cap) m).run Tryz.prog w = stored Tryz.prog w a (.func fn first cap) m := run_store Tryz.prog w a _ m rfl
theorem st_nilFunc (a : Addr) (m : Mode) (w : World) : (store a .nilFunc m).run Tryz.prog w = stored Tryz.prog w a .nilFunc m := run_store Tryz.prog w a _ m rfl
theorem OBlk.cells5' {w : World} {g : Nat} {T : TypeId} {a0 a1 a2 a3 a4 : Value} (h : OBlk w g T [a0, a1, a2, a3, a4]) :
    w.cell? ⟨g, 0, none⟩ = some a0 ∧ w.cell? ⟨g, 1, none⟩ = some a1 ∧ w.cell? ⟨g, 2, none⟩ = some a2 ∧ w.cell? ⟨g, 3, none⟩ = some a3 ∧ w.cell? ⟨g, 4, none⟩ = some a4 := ⟨h.cell 0, h.cell 1, h.cell 2, h.cell 3, h.cell 4⟩
theorem OBlk.froz5' {w : World} {g : Nat} {T : TypeId} {a0 a1 a2 a3 a4 : Value} (h : OBlk w g T [a0, a1, a2, a3, a4]) :
    w.frozen? ⟨g, 0, none⟩ = false ∧ w.frozen? ⟨g, 1, none⟩ = false ∧ w.frozen? ⟨g, 2, none⟩ = false ∧ w.frozen? ⟨g, 3, none⟩ = false ∧ w.frozen? ⟨g, 4, none⟩ = false :=
  ⟨h.frozen (j := 0) (by simp), h.frozen (j := 1) (by simp), h.frozen (j := 2) (by simp), h.frozen (j := 3) (by simp), h.frozen (j := 4) (by simp)⟩
theorem Sep.set5' {w0 w : World} {g : Nat} {T : TypeId} {b0 b1 b2 b3 b4 : Value} {L : List Ent} (h : Sep w0 w (blkE g T [b0, b1, b2, b3, b4] :: L)) (a0 a1 a2 a3 a4 : Value) :
    Sep w0 (((((w.setCell ⟨g, 0, none⟩ a0).setCell ⟨g, 1, none⟩ a1).setCell ⟨g, 2, none⟩ a2).setCell ⟨g, 3, none⟩ a3).setCell ⟨g, 4, none⟩ a4) (blkE g T [a0, a1, a2, a3, a4] :: L) :=
  ((((h.setCell 0 a0).setCell 1 a1).setCell 2 a2).setCell 3 a3).setCell 4 a4
set_option maxRecDepth 20000 in
set_option maxHeartbeats 1000000 in
theorem of_1 (w : World) : Calls Tryz.prog 38 #[.int .i64 1] w fun e w' => e = .returned (.tuple #[.agg #[.func (.func 68) #[] #[], .func (.func 71) #[] #[], .func (.func 73) #[] #[], .func (.func 74) #[] #[], .func (.func 75) #[] #[]], .bool true]) ∧ Below w.heap.size w w' := by
  have hS := (Sep.start w).alloc 81 engL0
  have hsf := st_func
  have hsn := st_nilFunc
  unfold engL0 at *
  go_enter Tryz.func38, Tryz.ntmps38
  go_upto_region 1 with (fail)
  generalize hW1 : w.alloc (.cells #[.nilFunc, .nilFunc, .nilFunc, .nilFunc, .nilFunc] 81) = w1 at *
  generalize w.heap.size = g at *
  clear hW1
  have HS := Lib.hid (hS.set5' (.func (.func 68) #[] #[]) (.func (.func 71) #[] #[]) (.func (.func 73) #[] #[]) (.func (.func 74) #[] #[]) (.func (.func 75) #[] #[]))
  have hO : OBlk w1 g 81 [.nilFunc, .nilFunc, .nilFunc, .nilFunc, .nilFunc] := hS.head
  obtain ⟨y0, y1, y2, y3, y4⟩ := hO.cells5'
  obtain ⟨f0, f1, f2, f3, f4⟩ := hO.froz5'
  clear hS hO
  go_wp2_with fail
  have hO2 : OBlk _ g 81 [.func (.func 68) #[] #[], .func (.func 71) #[] #[], .func (.func 73) #[] #[], .func (.func 74) #[] #[], .func (.func 75) #[] #[]] := HS.out.head
  obtain ⟨e0, e1, e2, e3, e4⟩ := hO2.cells5'
  refine bodyPost_ret (v := .tuple #[.agg #[.func (.func 68) #[] #[], .func (.func 71) #[] #[], .func (.func 73) #[] #[], .func (.func 74) #[] #[], .func (.func 75) #[] #[]], .bool true]) ?_ rfl ?_
  · simp [results, Tryz.results38, go_sem, e0, e1, e2, e3, e4]
  · exact ⟨rfl, HS.out.belowOld (_v := w) (by simp)⟩
set_option maxRecDepth 20000 in
set_option maxHeartbeats 1000000 in
theorem of_2 (w : World) : Calls Tryz.prog 38 #[.int .i64 2] w fun e w' => e = .returned (.tuple #[.agg #[.func (.func 76) #[] #[], .func (.func 79) #[] #[], .func (.func 81) #[] #[], .func (.func 82) #[] #[], .func (.func 83) #[] #[]], .bool true]) ∧ Below w.heap.size w w' := by
  have hS := (Sep.start w).alloc 81 engL0
  have hsf := st_func
  have hsn := st_nilFunc
  unfold engL0 at *
  go_enter Tryz.func38, Tryz.ntmps38
  go_upto_region 1 with (fail)
  generalize hW1 : w.alloc (.cells #[.nilFunc, .nilFunc, .nilFunc, .nilFunc, .nilFunc] 81) = w1 at *
  generalize w.heap.size = g at *
  clear hW1
  have HS := Lib.hid (hS.set5' (.func (.func 76) #[] #[]) (.func (.func 79) #[] #[]) (.func (.func 81) #[] #[]) (.func (.func 82) #[] #[]) (.func (.func 83) #[] #[]))
  have hO : OBlk w1 g 81 [.nilFunc, .nilFunc, .nilFunc, .nilFunc, .nilFunc] := hS.head
  obtain ⟨y0, y1, y2, y3, y4⟩ := hO.cells5'
  obtain ⟨f0, f1, f2, f3, f4⟩ := hO.froz5'
  clear hS hO
  go_wp2_with fail
  have hO2 : OBlk _ g 81 [.func (.func 76) #[] #[], .func (.func 79) #[] #[], .func (.func 81) #[] #[], .func (.func 82) #[] #[], .func (.func 83) #[] #[]] := HS.out.head
  obtain ⟨e0, e1, e2, e3, e4⟩ := hO2.cells5'
  refine bodyPost_ret (v := .tuple #[.agg #[.func (.func 76) #[] #[], .func (.func 79) #[] #[], .func (.func 81) #[] #[], .func (.func 82) #[] #[], .func (.func 83) #[] #[]], .bool true]) ?_ rfl ?_
  · simp [results, Tryz.results38, go_sem, e0, e1, e2, e3, e4]
  · exact ⟨rfl, HS.out.belowOld (_v := w) (by simp)⟩
set_option maxRecDepth 20000 in
set_option maxHeartbeats 1000000 in
theorem of_no (n : Int) (h1 : n ≠ 1) (h2 : n ≠ 2) (w : World) : Calls Tryz.prog 38 #[.int .i64 n] w fun e w' => e = .returned (.tuple #[.agg #[.nilFunc, .nilFunc, .nilFunc, .nilFunc, .nilFunc], .bool false]) ∧ Below w.heap.size w w' := by
  have n1 : (n == 1) = false := beq_eq_false_iff_ne.2 h1
  have n2 : (n == 2) = false := beq_eq_false_iff_ne.2 h2
  clear h1 h2
  have hS := (Sep.start w).alloc 81 engL0
  have hsf := st_func
  have hsn := st_nilFunc
  unfold engL0 at *
  go_enter Tryz.func38, Tryz.ntmps38
  go_upto_region 1 with (fail)
  generalize hW1 : w.alloc (.cells #[.nilFunc, .nilFunc, .nilFunc, .nilFunc, .nilFunc] 81) = w1 at *
  generalize w.heap.size = g at *
  clear hW1
  have HS := Lib.hid (hS.set5' (.nilFunc) (.nilFunc) (.nilFunc) (.nilFunc) (.nilFunc))
  have hO : OBlk w1 g 81 [.nilFunc, .nilFunc, .nilFunc, .nilFunc, .nilFunc] := hS.head
  obtain ⟨y0, y1, y2, y3, y4⟩ := hO.cells5'
  obtain ⟨f0, f1, f2, f3, f4⟩ := hO.froz5'
  clear hS hO
  go_wp2_with fail
  have hO2 : OBlk _ g 81 [.nilFunc, .nilFunc, .nilFunc, .nilFunc, .nilFunc] := HS.out.head
  obtain ⟨e0, e1, e2, e3, e4⟩ := hO2.cells5'
  refine bodyPost_ret (v := .tuple #[.agg #[.nilFunc, .nilFunc, .nilFunc, .nilFunc, .nilFunc], .bool false]) ?_ rfl ?_
  · simp [results, Tryz.results38, go_sem, e0, e1, e2, e3, e4]
  · exact ⟨rfl, HS.out.belowOld (_v := w) (by simp)⟩
set_option maxRecDepth 20000 in
set_option maxHeartbeats 1000000 in
theorem made1_ok (p : Nat) (w : World) : Calls Tryz.prog 69 #[.pointer (some ⟨p, 0, none⟩), .int .i64 0] w fun e w' => e = .returned (.tuple #[ndV1 p, .int .i64 0]) ∧ w = w' := by
  go_enter Tryz.func69, Tryz.ntmps69
  go_wp2_with fail
  go_ret2
  exact ⟨rfl, rfl⟩
set_option maxRecDepth 20000 in
set_option maxHeartbeats 1000000 in
theorem made1_no (v : Value) (z : Int) (hz : z ≠ 0) (w : World) : Calls Tryz.prog 69 #[v, .int .i64 z] w fun e w' => e = .returned (.tuple #[.nilIface, .int .i64 z]) ∧ w = w' := by
  have hq : (z != 0) = true := by simp only [bne, beq_eq_false_iff_ne.2 hz]; rfl
  clear hz
  go_enter Tryz.func69, Tryz.ntmps69
  go_wp2_with fail
  go_ret2
  exact ⟨rfl, rfl⟩
/-- What an engine's New tells. -/
def NewQ1 (R : Nat → World → Prop) (B : Int → World → Prop) (e : Ending) (w' : World) : Prop := (∃ p, e = .returned (.tuple #[.pointer (some ⟨p, 0, none⟩), .int .i64 0]) ∧ R p w') ∨ (∃ z, z ≠ 0 ∧ e = .returned (.tuple #[.pointer none, .int .i64 z]) ∧ B z w')
def NdNewQ1 (R : Nat → World → Prop) (B : Int → World → Prop) (e : Ending) (w' : World) : Prop := (∃ p, e = .returned (.tuple #[ndV1 p, .int .i64 0]) ∧ R p w') ∨ (∃ z, z ≠ 0 ∧ e = .returned (.tuple #[.nilIface, .int .i64 z]) ∧ B z w')
set_option maxRecDepth 20000 in
set_option maxHeartbeats 1000000 in
theorem ofNew1 (kind P : Int) (w : World) (R : Nat → World → Prop) (B : Int → World → Prop) (h : Calls Tryz.prog 70 #[.int .i64 kind, .int .i64 P] w (NewQ1 R B)) : Calls Tryz.prog 68 #[.int .i64 kind, .int .i64 P] w (NdNewQ1 R B) := by
  go_enter Tryz.func68, Tryz.ntmps68
  go_wp2_with fail
  refine h.mono ?_
  unfold NewQ1
  rintro e w' (⟨p, rfl, hR⟩ | ⟨z, hz, rfl, hB⟩)
  · go_wp2_with (first
      | (go_at_call 69; (with_reducible refine (made1_ok p _).mono ?_); rintro e w2 ⟨rfl, rfl⟩)
      | fail)
    go_ret2
    exact .inl ⟨p, rfl, hR⟩
  · go_wp2_with (first
      | (go_at_call 69; (with_reducible refine (made1_no _ z hz _).mono ?_); rintro e w2 ⟨rfl, rfl⟩)
      | fail)
    go_ret2
    exact .inr ⟨z, hz, rfl, hB⟩
/-- What an engine's Open tells. -/
def OpenQ1 (R : Nat → World → Prop) (B : Int → World → Prop) (e : Ending) (w' : World) : Prop := (∃ p, e = .returned (.tuple #[.pointer (some ⟨p, 0, none⟩), .int .i64 0]) ∧ R p w') ∨ (∃ z, z ≠ 0 ∧ e = .returned (.tuple #[.pointer none, .int .i64 z]) ∧ B z w')
def NdOpenQ1 (R : Nat → World → Prop) (B : Int → World → Prop) (e : Ending) (w' : World) : Prop := (∃ p, e = .returned (.tuple #[ndV1 p, .int .i64 0]) ∧ R p w') ∨ (∃ z, z ≠ 0 ∧ e = .returned (.tuple #[.nilIface, .int .i64 z]) ∧ B z w')
set_option maxRecDepth 20000 in
set_option maxHeartbeats 1000000 in
theorem ofOpen1 (vb : Value) (w : World) (R : Nat → World → Prop) (B : Int → World → Prop) (h : Calls Tryz.prog 72 #[vb] w (OpenQ1 R B)) : Calls Tryz.prog 71 #[vb] w (NdOpenQ1 R B) := by
  go_enter Tryz.func71, Tryz.ntmps71
  go_wp2_with fail
  refine h.mono ?_
  unfold OpenQ1
  rintro e w' (⟨p, rfl, hR⟩ | ⟨z, hz, rfl, hB⟩)
  · go_wp2_with (first
      | (go_at_call 69; (with_reducible refine (made1_ok p _).mono ?_); rintro e w2 ⟨rfl, rfl⟩)
      | fail)
    go_ret2
    exact .inl ⟨p, rfl, hR⟩
  · go_wp2_with (first
      | (go_at_call 69; (with_reducible refine (made1_no _ z hz _).mono ?_); rintro e w2 ⟨rfl, rfl⟩)
      | fail)
    go_ret2
    exact .inr ⟨z, hz, rfl, hB⟩
set_option maxRecDepth 20000 in
set_option maxHeartbeats 1000000 in
theorem NdNew_1 (kind P : Int) (w : World) (R : Nat → World → Prop) (B : Int → World → Prop) (h : ∀ W, Below w.heap.size w W → Calls Tryz.prog 70 #[.int .i64 kind, .int .i64 P] W (NewQ1 R B)) : Calls Tryz.prog 8 #[.int .i64 1, .int .i64 kind, .int .i64 P] w (NdNewQ1 R B) := by
  have hsf := st_func
  have hf := fun W hW => ofNew1 kind P W R B (h W hW)
  clear h
  go_enter Tryz.func8, Tryz.ntmps8
  go_upto_region 2 with (first
    | (go_at_call 38; (with_reducible refine (of_1 _).mono ?_); rintro e w1 ⟨rfl, hw1⟩)
    | fail)
  have hS := ((Sep.start w).below hw1).alloc 81 engL1
  unfold engL1 at *
  generalize hW2 : w1.alloc (.cells #[.func (.func 68) #[] #[], .func (.func 71) #[] #[], .func (.func 73) #[] #[], .func (.func 74) #[] #[], .func (.func 75) #[] #[]] 81) = w2 at *
  generalize w1.heap.size = g at *
  clear hW2
  obtain ⟨y0, -, -, -, -⟩ := (show OBlk w2 g 81 [.func (.func 68) #[] #[], .func (.func 71) #[] #[], .func (.func 73) #[] #[], .func (.func 74) #[] #[], .func (.func 75) #[] #[]] from hS.head).cells5'
  have hf2 := hf _ (hS.belowOld (_v := w) (by simp))
  clear hS hf
  go_wp2_with fail
  refine hf2.mono ?_
  unfold NdNewQ1
  rintro e w3 (⟨p, rfl, hR⟩ | ⟨z, hz, rfl, hB⟩)
  · go_wp2_with fail
    go_ret2
    exact .inl ⟨p, rfl, hR⟩
  · go_wp2_with fail
    go_ret2
    exact .inr ⟨z, hz, rfl, hB⟩
set_option maxRecDepth 20000 in
set_option maxHeartbeats 1000000 in
theorem made2_ok (p : Nat) (w : World) : Calls Tryz.prog 77 #[.pointer (some ⟨p, 0, none⟩), .int .i64 0] w fun e w' => e = .returned (.tuple #[ndV2 p, .int .i64 0]) ∧ w = w' := by
  go_enter Tryz.func77, Tryz.ntmps77
  go_wp2_with fail
  go_ret2
  exact ⟨rfl, rfl⟩
set_option maxRecDepth 20000 in
set_option maxHeartbeats 1000000 in
theorem made2_no (v : Value) (z : Int) (hz : z ≠ 0) (w : World) : Calls Tryz.prog 77 #[v, .int .i64 z] w fun e w' => e = .returned (.tuple #[.nilIface, .int .i64 z]) ∧ w = w' := by
  have hq : (z != 0) = true := by simp only [bne, beq_eq_false_iff_ne.2 hz]; rfl
  clear hz
  go_enter Tryz.func77, Tryz.ntmps77
  go_wp2_with fail
  go_ret2
  exact ⟨rfl, rfl⟩
/-- What an engine's New tells. -/
def NewQ2 (R : Nat → World → Prop) (B : Int → World → Prop) (e : Ending) (w' : World) : Prop := (∃ p, e = .returned (.tuple #[.pointer (some ⟨p, 0, none⟩), .int .i64 0]) ∧ R p w') ∨ (∃ z, z ≠ 0 ∧ e = .returned (.tuple #[.pointer none, .int .i64 z]) ∧ B z w')
def NdNewQ2 (R : Nat → World → Prop) (B : Int → World → Prop) (e : Ending) (w' : World) : Prop := (∃ p, e = .returned (.tuple #[ndV2 p, .int .i64 0]) ∧ R p w') ∨ (∃ z, z ≠ 0 ∧ e = .returned (.tuple #[.nilIface, .int .i64 z]) ∧ B z w')
set_option maxRecDepth 20000 in
set_option maxHeartbeats 1000000 in
theorem ofNew2 (kind P : Int) (w : World) (R : Nat → World → Prop) (B : Int → World → Prop) (h : Calls Tryz.prog 78 #[.int .i64 kind, .int .i64 P] w (NewQ2 R B)) : Calls Tryz.prog 76 #[.int .i64 kind, .int .i64 P] w (NdNewQ2 R B) := by
  go_enter Tryz.func76, Tryz.ntmps76
  go_wp2_with fail
  refine h.mono ?_
  unfold NewQ2
  rintro e w' (⟨p, rfl, hR⟩ | ⟨z, hz, rfl, hB⟩)
  · go_wp2_with (first
      | (go_at_call 77; (with_reducible refine (made2_ok p _).mono ?_); rintro e w2 ⟨rfl, rfl⟩)
      | fail)
    go_ret2
    exact .inl ⟨p, rfl, hR⟩
  · go_wp2_with (first
      | (go_at_call 77; (with_reducible refine (made2_no _ z hz _).mono ?_); rintro e w2 ⟨rfl, rfl⟩)
      | fail)
    go_ret2
    exact .inr ⟨z, hz, rfl, hB⟩
/-- What an engine's Open tells. -/
def OpenQ2 (R : Nat → World → Prop) (B : Int → World → Prop) (e : Ending) (w' : World) : Prop := (∃ p, e = .returned (.tuple #[.pointer (some ⟨p, 0, none⟩), .int .i64 0]) ∧ R p w') ∨ (∃ z, z ≠ 0 ∧ e = .returned (.tuple #[.pointer none, .int .i64 z]) ∧ B z w')
def NdOpenQ2 (R : Nat → World → Prop) (B : Int → World → Prop) (e : Ending) (w' : World) : Prop := (∃ p, e = .returned (.tuple #[ndV2 p, .int .i64 0]) ∧ R p w') ∨ (∃ z, z ≠ 0 ∧ e = .returned (.tuple #[.nilIface, .int .i64 z]) ∧ B z w')
set_option maxRecDepth 20000 in
set_option maxHeartbeats 1000000 in
theorem ofOpen2 (vb : Value) (w : World) (R : Nat → World → Prop) (B : Int → World → Prop) (h : Calls Tryz.prog 80 #[vb] w (OpenQ2 R B)) : Calls Tryz.prog 79 #[vb] w (NdOpenQ2 R B) := by
  go_enter Tryz.func79, Tryz.ntmps79
  go_wp2_with fail
  refine h.mono ?_
  unfold OpenQ2
  rintro e w' (⟨p, rfl, hR⟩ | ⟨z, hz, rfl, hB⟩)
  · go_wp2_with (first
      | (go_at_call 77; (with_reducible refine (made2_ok p _).mono ?_); rintro e w2 ⟨rfl, rfl⟩)
      | fail)
    go_ret2
    exact .inl ⟨p, rfl, hR⟩
  · go_wp2_with (first
      | (go_at_call 77; (with_reducible refine (made2_no _ z hz _).mono ?_); rintro e w2 ⟨rfl, rfl⟩)
      | fail)
    go_ret2
    exact .inr ⟨z, hz, rfl, hB⟩
set_option maxRecDepth 20000 in
set_option maxHeartbeats 1000000 in
theorem NdNew_2 (kind P : Int) (w : World) (R : Nat → World → Prop) (B : Int → World → Prop) (h : ∀ W, Below w.heap.size w W → Calls Tryz.prog 78 #[.int .i64 kind, .int .i64 P] W (NewQ2 R B)) : Calls Tryz.prog 8 #[.int .i64 2, .int .i64 kind, .int .i64 P] w (NdNewQ2 R B) := by
  have hsf := st_func
  have hf := fun W hW => ofNew2 kind P W R B (h W hW)
  clear h
  go_enter Tryz.func8, Tryz.ntmps8
  go_upto_region 2 with (first
    | (go_at_call 38; (with_reducible refine (of_2 _).mono ?_); rintro e w1 ⟨rfl, hw1⟩)
    | fail)
  have hS := ((Sep.start w).below hw1).alloc 81 engL2
  unfold engL2 at *
  generalize hW2 : w1.alloc (.cells #[.func (.func 76) #[] #[], .func (.func 79) #[] #[], .func (.func 81) #[] #[], .func (.func 82) #[] #[], .func (.func 83) #[] #[]] 81) = w2 at *
  generalize w1.heap.size = g at *
  clear hW2
  obtain ⟨y0, -, -, -, -⟩ := (show OBlk w2 g 81 [.func (.func 76) #[] #[], .func (.func 79) #[] #[], .func (.func 81) #[] #[], .func (.func 82) #[] #[], .func (.func 83) #[] #[]] from hS.head).cells5'
  have hf2 := hf _ (hS.belowOld (_v := w) (by simp))
  clear hS hf
  go_wp2_with fail
  refine hf2.mono ?_
  unfold NdNewQ2
  rintro e w3 (⟨p, rfl, hR⟩ | ⟨z, hz, rfl, hB⟩)
  · go_wp2_with fail
    go_ret2
    exact .inl ⟨p, rfl, hR⟩
  · go_wp2_with fail
    go_ret2
    exact .inr ⟨z, hz, rfl, hB⟩
set_option maxRecDepth 20000 in
set_option maxHeartbeats 1000000 in
theorem NdNew_no (n kind P : Int) (h1 : n ≠ 1) (h2 : n ≠ 2) (w : World) : Calls Tryz.prog 8 #[.int .i64 n, .int .i64 kind, .int .i64 P] w fun e w' => e = .returned (.tuple #[.nilIface, .int .i64 80]) ∧ Below w.heap.size w w' := by
  have hf := of_no n h1 h2 w
  have hsn := st_nilFunc
  clear h1 h2
  go_enter Tryz.func8, Tryz.ntmps8
  go_wp2_with (first
    | (go_at_call 38; (with_reducible refine hf.mono ?_); rintro e w1 ⟨rfl, hw1⟩)
    | fail)
  go_ret2
  exact ⟨rfl, hw1.alloc hw1.size _⟩
end Go.Proofs.YtfcnkpofcekmgaaGreat

-- node.which, Open: walks.
namespace Go.Proofs.YtfcnkpofcekmgaaGreat
open Go.RowKit
/-- The engine's byte. -/
def egB (b : List UInt8) : Nat := (b.getD 1 0).toNat
theorem egB_at {w : World} {A : Option Addr} {n c : Nat} {b : List UInt8} (hv : RdB w (.slice A n c) b) (h2 : 2 ≤ b.length) : ∃ ad, A = some ad ∧ w.cell? ⟨ad.block, ad.off + 1, none⟩ = some (.int .u8 (egB b : Int)) ∧ egB b < 256 := by
  obtain ⟨ad, rfl, h⟩ := hv.at_ (j := 1) (by omega)
  refine ⟨ad, rfl, ?_, (b.getD 1 0).toNat_lt⟩
  have e : b.getD 1 0 = b[1] := by rw [List.getD, List.getElem?_eq_getElem (by omega)]; rfl
  unfold egB
  rw [e]; exact h
set_option maxRecDepth 20000 in
set_option maxHeartbeats 1000000 in
theorem which_1 (v : Value) (b : List UInt8) (w : World) (hv : RdB w v b) (h2 : 2 ≤ b.length) (he : egB b = 1) : Calls Tryz.prog 43 #[v] w fun e w' => e = .returned (.tuple #[.agg #[.func (.func 68) #[] #[], .func (.func 71) #[] #[], .func (.func 73) #[] #[], .func (.func 74) #[] #[], .func (.func 75) #[] #[]], .bool true]) ∧ Below w.heap.size w w' := by
  obtain ⟨A, c, rfl, hm⟩ := hv.form
  have i1 : ¬ (b.length : Int) < 2 := by omega
  have i2 : (1 : Int) < (b.length : Int) := by omega
  have i3 : 1 < b.length := by omega
  obtain ⟨ad, rfl, hc, hlt⟩ := egB_at hv h2
  have e1 : IntKind.i64.wrap (egB b : Int) = (egB b : Int) := by rw [IntKind.wrap_i64]; omega
  rw [he] at hc e1
  have hof := of_1
  have hcb := World.block_lt_of_cell? w _ hc
  clear h2
  have hS := (Sep.start w).alloc 81 engL0
  have hsf := st_func
  have hsn := st_nilFunc
  unfold engL0 at *
  have hc1 := (hS.old_cell (v := w) (by simp) _ hcb).trans hc
  go_enter Tryz.func43, Tryz.ntmps43
  go_upto_region 1 with (fail)
  generalize hW1 : w.alloc (.cells #[.nilFunc, .nilFunc, .nilFunc, .nilFunc, .nilFunc] 81) = w1 at *
  generalize w.heap.size = g at *
  clear hW1
  have hof := hof w1
  go_wp2_with fail
  refine hof.mono ?_
  rintro e w2 ⟨rfl, hw2⟩
  have hS := hS.below hw2
  have HS := Lib.hid (hS.set5' (.func (.func 68) #[] #[]) (.func (.func 71) #[] #[]) (.func (.func 73) #[] #[]) (.func (.func 74) #[] #[]) (.func (.func 75) #[] #[]))
  have hO : OBlk w2 g 81 [.nilFunc, .nilFunc, .nilFunc, .nilFunc, .nilFunc] := hS.head
  obtain ⟨y0, y1, y2, y3, y4⟩ := hO.cells5'
  obtain ⟨f0, f1, f2, f3, f4⟩ := hO.froz5'
  clear hS hO
  go_wp2_with fail
  have hO2 : OBlk _ g 81 [.func (.func 68) #[] #[], .func (.func 71) #[] #[], .func (.func 73) #[] #[], .func (.func 74) #[] #[], .func (.func 75) #[] #[]] := HS.out.head
  obtain ⟨e0, e1, e2, e3, e4⟩ := hO2.cells5'
  refine bodyPost_ret (v := .tuple #[.agg #[.func (.func 68) #[] #[], .func (.func 71) #[] #[], .func (.func 73) #[] #[], .func (.func 74) #[] #[], .func (.func 75) #[] #[]], .bool true]) ?_ rfl ?_
  · simp [results, Tryz.results43, go_sem, e0, e1, e2, e3, e4]
  · exact ⟨rfl, HS.out.belowOld (_v := w) (by simp)⟩
set_option maxRecDepth 20000 in
set_option maxHeartbeats 1000000 in
theorem which_2 (v : Value) (b : List UInt8) (w : World) (hv : RdB w v b) (h2 : 2 ≤ b.length) (he : egB b = 2) : Calls Tryz.prog 43 #[v] w fun e w' => e = .returned (.tuple #[.agg #[.func (.func 76) #[] #[], .func (.func 79) #[] #[], .func (.func 81) #[] #[], .func (.func 82) #[] #[], .func (.func 83) #[] #[]], .bool true]) ∧ Below w.heap.size w w' := by
  obtain ⟨A, c, rfl, hm⟩ := hv.form
  have i1 : ¬ (b.length : Int) < 2 := by omega
  have i2 : (1 : Int) < (b.length : Int) := by omega
  have i3 : 1 < b.length := by omega
  obtain ⟨ad, rfl, hc, hlt⟩ := egB_at hv h2
  have e1 : IntKind.i64.wrap (egB b : Int) = (egB b : Int) := by rw [IntKind.wrap_i64]; omega
  rw [he] at hc e1
  have hof := of_2
  have hcb := World.block_lt_of_cell? w _ hc
  clear h2
  have hS := (Sep.start w).alloc 81 engL0
  have hsf := st_func
  have hsn := st_nilFunc
  unfold engL0 at *
  have hc1 := (hS.old_cell (v := w) (by simp) _ hcb).trans hc
  go_enter Tryz.func43, Tryz.ntmps43
  go_upto_region 1 with (fail)
  generalize hW1 : w.alloc (.cells #[.nilFunc, .nilFunc, .nilFunc, .nilFunc, .nilFunc] 81) = w1 at *
  generalize w.heap.size = g at *
  clear hW1
  have hof := hof w1
  go_wp2_with fail
  refine hof.mono ?_
  rintro e w2 ⟨rfl, hw2⟩
  have hS := hS.below hw2
  have HS := Lib.hid (hS.set5' (.func (.func 76) #[] #[]) (.func (.func 79) #[] #[]) (.func (.func 81) #[] #[]) (.func (.func 82) #[] #[]) (.func (.func 83) #[] #[]))
  have hO : OBlk w2 g 81 [.nilFunc, .nilFunc, .nilFunc, .nilFunc, .nilFunc] := hS.head
  obtain ⟨y0, y1, y2, y3, y4⟩ := hO.cells5'
  obtain ⟨f0, f1, f2, f3, f4⟩ := hO.froz5'
  clear hS hO
  go_wp2_with fail
  have hO2 : OBlk _ g 81 [.func (.func 76) #[] #[], .func (.func 79) #[] #[], .func (.func 81) #[] #[], .func (.func 82) #[] #[], .func (.func 83) #[] #[]] := HS.out.head
  obtain ⟨e0, e1, e2, e3, e4⟩ := hO2.cells5'
  refine bodyPost_ret (v := .tuple #[.agg #[.func (.func 76) #[] #[], .func (.func 79) #[] #[], .func (.func 81) #[] #[], .func (.func 82) #[] #[], .func (.func 83) #[] #[]], .bool true]) ?_ rfl ?_
  · simp [results, Tryz.results43, go_sem, e0, e1, e2, e3, e4]
  · exact ⟨rfl, HS.out.belowOld (_v := w) (by simp)⟩
set_option maxRecDepth 20000 in
set_option maxHeartbeats 1000000 in
theorem which_no (v : Value) (b : List UInt8) (w : World) (hv : RdB w v b) (h2 : 2 ≤ b.length) (he1 : egB b ≠ 1) (he2 : egB b ≠ 2) : Calls Tryz.prog 43 #[v] w fun e w' => e = .returned (.tuple #[.agg #[.nilFunc, .nilFunc, .nilFunc, .nilFunc, .nilFunc], .bool false]) ∧ Below w.heap.size w w' := by
  obtain ⟨A, c, rfl, hm⟩ := hv.form
  have i1 : ¬ (b.length : Int) < 2 := by omega
  have i2 : (1 : Int) < (b.length : Int) := by omega
  have i3 : 1 < b.length := by omega
  obtain ⟨ad, rfl, hc, hlt⟩ := egB_at hv h2
  have e1 : IntKind.i64.wrap (egB b : Int) = (egB b : Int) := by rw [IntKind.wrap_i64]; omega
  have hof := fun W => of_no (egB b : Int) (by omega) (by omega) W
  clear he1 he2
  generalize egB b = k at *
  have hcb := World.block_lt_of_cell? w _ hc
  clear h2
  have hS := (Sep.start w).alloc 81 engL0
  have hsf := st_func
  have hsn := st_nilFunc
  unfold engL0 at *
  have hc1 := (hS.old_cell (v := w) (by simp) _ hcb).trans hc
  go_enter Tryz.func43, Tryz.ntmps43
  go_upto_region 1 with (fail)
  generalize hW1 : w.alloc (.cells #[.nilFunc, .nilFunc, .nilFunc, .nilFunc, .nilFunc] 81) = w1 at *
  generalize w.heap.size = g at *
  clear hW1
  have hof := hof w1
  go_wp2_with fail
  refine hof.mono ?_
  rintro e w2 ⟨rfl, hw2⟩
  have hS := hS.below hw2
  have HS := Lib.hid (hS.set5' (.nilFunc) (.nilFunc) (.nilFunc) (.nilFunc) (.nilFunc))
  have hO : OBlk w2 g 81 [.nilFunc, .nilFunc, .nilFunc, .nilFunc, .nilFunc] := hS.head
  obtain ⟨y0, y1, y2, y3, y4⟩ := hO.cells5'
  obtain ⟨f0, f1, f2, f3, f4⟩ := hO.froz5'
  clear hS hO
  go_wp2_with fail
  have hO2 : OBlk _ g 81 [.nilFunc, .nilFunc, .nilFunc, .nilFunc, .nilFunc] := HS.out.head
  obtain ⟨e0, e1, e2, e3, e4⟩ := hO2.cells5'
  refine bodyPost_ret (v := .tuple #[.agg #[.nilFunc, .nilFunc, .nilFunc, .nilFunc, .nilFunc], .bool false]) ?_ rfl ?_
  · simp [results, Tryz.results43, go_sem, e0, e1, e2, e3, e4]
  · exact ⟨rfl, HS.out.belowOld (_v := w) (by simp)⟩
set_option maxRecDepth 20000 in
set_option maxHeartbeats 1000000 in
theorem which_short (v : Value) (b : List UInt8) (w : World) (hv : RdB w v b) (h2 : b.length < 2) : Calls Tryz.prog 43 #[v] w fun e w' => e = .returned (.tuple #[.agg #[.nilFunc, .nilFunc, .nilFunc, .nilFunc, .nilFunc], .bool false]) ∧ Below w.heap.size w w' := by
  obtain ⟨A, c, rfl, hm⟩ := hv.form
  have i1 : (b.length : Int) < 2 := by omega
  clear h2
  have hS := (Sep.start w).alloc 81 engL0
  have hsf := st_func
  have hsn := st_nilFunc
  unfold engL0 at *
  go_enter Tryz.func43, Tryz.ntmps43
  go_upto_region 1 with (fail)
  generalize hW1 : w.alloc (.cells #[.nilFunc, .nilFunc, .nilFunc, .nilFunc, .nilFunc] 81) = w1 at *
  generalize w.heap.size = g at *
  clear hW1
  have HS := Lib.hid (hS.set5' (.nilFunc) (.nilFunc) (.nilFunc) (.nilFunc) (.nilFunc))
  have hO : OBlk w1 g 81 [.nilFunc, .nilFunc, .nilFunc, .nilFunc, .nilFunc] := hS.head
  obtain ⟨y0, y1, y2, y3, y4⟩ := hO.cells5'
  obtain ⟨f0, f1, f2, f3, f4⟩ := hO.froz5'
  clear hS hO
  go_wp2_with fail
  have hO2 : OBlk _ g 81 [.nilFunc, .nilFunc, .nilFunc, .nilFunc, .nilFunc] := HS.out.head
  obtain ⟨e0, e1, e2, e3, e4⟩ := hO2.cells5'
  refine bodyPost_ret (v := .tuple #[.agg #[.nilFunc, .nilFunc, .nilFunc, .nilFunc, .nilFunc], .bool false]) ?_ rfl ?_
  · simp [results, Tryz.results43, go_sem, e0, e1, e2, e3, e4]
  · exact ⟨rfl, HS.out.belowOld (_v := w) (by simp)⟩
set_option maxRecDepth 20000 in
set_option maxHeartbeats 1000000 in
theorem NdOpen_1 (v : Value) (b : List UInt8) (w : World) (hv : RdB w v b) (h2 : 2 ≤ b.length) (he : egB b = 1) (R : Nat → World → Prop) (B : Int → World → Prop) (h : ∀ W, Below w.heap.size w W → Calls Tryz.prog 72 #[v] W (OpenQ1 R B)) : Calls Tryz.prog 12 #[v] w (NdOpenQ1 R B) := by
  have hf := fun W hW => ofOpen1 v W R B (h W hW)
  have hwh := which_1 v b w hv h2 he
  have hsf := st_func
  obtain ⟨A, c, rfl, hm⟩ := hv.form
  clear h
  go_enter Tryz.func12, Tryz.ntmps12
  go_upto_region 2 with (first
    | (go_at_call 43; (with_reducible refine hwh.mono ?_); rintro e w1 ⟨rfl, hw1⟩)
    | fail)
  have hS := ((Sep.start w).below hw1).alloc 81 engL1
  unfold engL1 at *
  generalize hW2 : w1.alloc (.cells #[.func (.func 68) #[] #[], .func (.func 71) #[] #[], .func (.func 73) #[] #[], .func (.func 74) #[] #[], .func (.func 75) #[] #[]] 81) = w2 at *
  generalize w1.heap.size = g at *
  clear hW2
  obtain ⟨-, y1, -, -, -⟩ := (show OBlk w2 g 81 [.func (.func 68) #[] #[], .func (.func 71) #[] #[], .func (.func 73) #[] #[], .func (.func 74) #[] #[], .func (.func 75) #[] #[]] from hS.head).cells5'
  have hf2 := hf _ (hS.belowOld (_v := w) (by simp))
  clear hS hf
  go_wp2_with fail
  refine hf2.mono ?_
  unfold NdOpenQ1
  rintro e w3 (⟨p, rfl, hR⟩ | ⟨z, hz, rfl, hB⟩)
  · go_wp2_with fail
    go_ret2
    exact .inl ⟨p, rfl, hR⟩
  · go_wp2_with fail
    go_ret2
    exact .inr ⟨z, hz, rfl, hB⟩
set_option maxRecDepth 20000 in
set_option maxHeartbeats 1000000 in
theorem NdOpen_2 (v : Value) (b : List UInt8) (w : World) (hv : RdB w v b) (h2 : 2 ≤ b.length) (he : egB b = 2) (R : Nat → World → Prop) (B : Int → World → Prop) (h : ∀ W, Below w.heap.size w W → Calls Tryz.prog 80 #[v] W (OpenQ2 R B)) : Calls Tryz.prog 12 #[v] w (NdOpenQ2 R B) := by
  have hf := fun W hW => ofOpen2 v W R B (h W hW)
  have hwh := which_2 v b w hv h2 he
  have hsf := st_func
  obtain ⟨A, c, rfl, hm⟩ := hv.form
  clear h
  go_enter Tryz.func12, Tryz.ntmps12
  go_upto_region 2 with (first
    | (go_at_call 43; (with_reducible refine hwh.mono ?_); rintro e w1 ⟨rfl, hw1⟩)
    | fail)
  have hS := ((Sep.start w).below hw1).alloc 81 engL2
  unfold engL2 at *
  generalize hW2 : w1.alloc (.cells #[.func (.func 76) #[] #[], .func (.func 79) #[] #[], .func (.func 81) #[] #[], .func (.func 82) #[] #[], .func (.func 83) #[] #[]] 81) = w2 at *
  generalize w1.heap.size = g at *
  clear hW2
  obtain ⟨-, y1, -, -, -⟩ := (show OBlk w2 g 81 [.func (.func 76) #[] #[], .func (.func 79) #[] #[], .func (.func 81) #[] #[], .func (.func 82) #[] #[], .func (.func 83) #[] #[]] from hS.head).cells5'
  have hf2 := hf _ (hS.belowOld (_v := w) (by simp))
  clear hS hf
  go_wp2_with fail
  refine hf2.mono ?_
  unfold NdOpenQ2
  rintro e w3 (⟨p, rfl, hR⟩ | ⟨z, hz, rfl, hB⟩)
  · go_wp2_with fail
    go_ret2
    exact .inl ⟨p, rfl, hR⟩
  · go_wp2_with fail
    go_ret2
    exact .inr ⟨z, hz, rfl, hB⟩
set_option maxRecDepth 20000 in
set_option maxHeartbeats 1000000 in
theorem NdOpen_no (v : Value) (b : List UInt8) (w : World) (hv : RdB w v b) (hn : b.length < 2 ∨ egB b ≠ 1 ∧ egB b ≠ 2) : Calls Tryz.prog 12 #[v] w fun e w' => e = .returned (.tuple #[.nilIface, .int .i64 60]) ∧ Below w.heap.size w w' := by
  have hwh : Calls Tryz.prog 43 #[v] w fun e w' => e = .returned (.tuple #[.agg #[.nilFunc, .nilFunc, .nilFunc, .nilFunc, .nilFunc], .bool false]) ∧ Below w.heap.size w w' := by
    rcases Nat.lt_or_ge b.length 2 with h | h
    · exact which_short v b w hv h
    · rcases hn with h' | ⟨h1, h2⟩
      · omega
      · exact which_no v b w hv h h1 h2
  obtain ⟨A, c, rfl, hm⟩ := hv.form
  have hsn := st_nilFunc
  clear hn
  go_enter Tryz.func12, Tryz.ntmps12
  go_wp2_with (first
    | (go_at_call 43; (with_reducible refine hwh.mono ?_); rintro e w1 ⟨rfl, hw1⟩)
    | fail)
  go_ret2
  exact ⟨rfl, hw1.alloc hw1.size _⟩
end Go.Proofs.YtfcnkpofcekmgaaGreat

-- node.New, node.Open, in words of pieces.
namespace Go.Proofs.YtfcnkpofcekmgaaGreat
open Go.RowKit
section
variable {w0 w : World} {L : List Ent} {kind : Int} {P : Nat}
theorem NdNewOk1 (hS : Sep w0 w L) (hk : isKindB kind = true) (hp : isPowB (P : Int) = true) : Calls Tryz.prog 8 #[.int .i64 1, .int .i64 kind, .int .i64 (P : Int)] w fun e w' => ∃ p, e = .returned (.tuple #[ndV1 p, .int .i64 0]) ∧ NdP1 w0 w' L p P kind ⟨[], [], 0⟩ := by
  refine (NdNew_1 kind (P : Int) w (fun p w' => NdP1 w0 w' L p P kind ⟨[], [], 0⟩) (fun _ _ => False) (fun W hW => ?_)).mono ?_
  · refine (PNew_ok kind P hk hp W).mono ?_
    rintro e w' ⟨p, rfl, hpl, hA, hb⟩
    have h1 : Sep w0 w' (blkE p 144 [.int .i64 kind, .int .i64 (P : Int), .int .i64 8, .slice none 0 0] :: L) := (hS.below hW).new hb hA.blk (fun g hg => by have hg' : g = p := hg; subst hg'; exact ⟨hpl, hA.blk.lt⟩)
    exact .inl ⟨p, rfl, .slice none 0 0, [], rfl, by simp [RngC], Sep.pgClose (l := []) (Sep.sw1 (Sep.nilC h1))⟩
  · rintro e w' (⟨p, rfl, h⟩ | ⟨_, _, _, h⟩)
    · exact ⟨p, rfl, h⟩
    · exact h.elim
theorem NdNewOk2 (hS : Sep w0 w L) (hk : isKindB kind = true) (hp : isPowB (P : Int) = true) : Calls Tryz.prog 8 #[.int .i64 2, .int .i64 kind, .int .i64 (P : Int)] w fun e w' => ∃ p, e = .returned (.tuple #[ndV2 p, .int .i64 0]) ∧ NdP2 w0 w' L p P kind ⟨[], [], 0⟩ := by
  refine (NdNew_2 kind (P : Int) w (fun p w' => NdP2 w0 w' L p P kind ⟨[], [], 0⟩) (fun _ _ => False) (fun W hW => ?_)).mono ?_
  · refine (KNew_ok kind P hk hp (hS.below hW)).mono ?_
    rintro e w' ⟨p, rfl, h⟩
    exact .inl ⟨p, rfl, h⟩
  · rintro e w' (⟨p, rfl, h⟩ | ⟨_, _, _, h⟩)
    · exact ⟨p, rfl, h⟩
    · exact h.elim
/-- Open of bytes of an engine: a page, or nothing. -/
theorem NdOpn1 {v : Value} {b : List UInt8} (hS : Sep w0 w L) (hv : RdB w v b) (h2 : 2 ≤ b.length) (he : egB b = 1) : Calls Tryz.prog 12 #[v] w fun e w' =>
    (∃ p kind l, isPln b kind l ∧ e = .returned (.tuple #[ndV1 p, .int .i64 0]) ∧ NdP1 w0 w' L p b.length kind ⟨l, [], 0⟩) ∨ ((∀ kind l, ¬ isPln b kind l) ∧ e = .returned (.tuple #[.nilIface, .int .i64 60]) ∧ Sep w0 w' L) := by
  refine (NdOpen_1 v b w hv h2 he (fun p w' => ∃ kind l, isPln b kind l ∧ NdP1 w0 w' L p b.length kind ⟨l, [], 0⟩) (fun z w' => z = 60 ∧ (∀ kind l, ¬ isPln b kind l) ∧ Sep w0 w' L) (fun W hW => ?_)).mono ?_
  · refine (POpen_sep (hS.below hW) (hv.below hW (Nat.le_refl _))).mono ?_
    rintro e w' (⟨kind, l, p, u, hp, hr, rfl, h⟩ | ⟨hn, rfl, h⟩)
    · exact .inl ⟨p, rfl, kind, pcs l, hp, u, l, rfl, hr, h⟩
    · exact .inr ⟨60, by decide, rfl, rfl, hn, h⟩
  · rintro e w' (⟨p, rfl, kind, l, hp, h⟩ | ⟨z, _, rfl, rfl, hn, h⟩)
    · exact .inl ⟨p, kind, l, hp, rfl, h⟩
    · exact .inr ⟨hn, rfl, h⟩
theorem NdOpn2 {v : Value} {b : List UInt8} (hS : Sep w0 w L) (hv : RdB w v b) (h2 : 2 ≤ b.length) (he : egB b = 2) : Calls Tryz.prog 12 #[v] w fun e w' =>
    (∃ p kind l, isPk b kind l ∧ e = .returned (.tuple #[ndV2 p, .int .i64 0]) ∧ NdP2 w0 w' L p b.length kind (tidyP kind l)) ∨ ((∀ kind l, ¬ isPk b kind l) ∧ e = .returned (.tuple #[.nilIface, .int .i64 60]) ∧ Sep w0 w' L) := by
  refine (NdOpen_2 v b w hv h2 he (fun p w' => ∃ kind l, isPk b kind l ∧ NdP2 w0 w' L p b.length kind (tidyP kind l)) (fun z w' => z = 60 ∧ (∀ kind l, ¬ isPk b kind l) ∧ Sep w0 w' L) (fun W hW => ?_)).mono ?_
  · refine (KOpen_sep (hS.below hW) v b (hv.below hW (Nat.le_refl _))).mono ?_
    rintro e w' (⟨p, kind, l, hp, rfl, h⟩ | ⟨hn, rfl, h⟩)
    · exact .inl ⟨p, rfl, kind, l, hp, h⟩
    · exact .inr ⟨60, by decide, rfl, rfl, hn, h⟩
  · rintro e w' (⟨p, rfl, kind, l, hp, h⟩ | ⟨z, _, rfl, rfl, hn, h⟩)
    · exact .inl ⟨p, kind, l, hp, rfl, h⟩
    · exact .inr ⟨hn, rfl, h⟩
end
end Go.Proofs.YtfcnkpofcekmgaaGreat

-- Packed pages: how the document reads them: plain laws.
namespace Go.Proofs.YtfcnkpofcekmgaaGreat
/-- A cell that the document takes. -/
def smallR (c : PC) : Bool := decide (c.page ≤ 65536) && decide (c.count ≤ 1073741824)
def finR (o : Option (PC × Nat)) : Option (PC × Nat) := match o with
  | none => none
  | some (c, t) => if smallR c = true then some (c, t) else none
def readR (d : List UInt8) (kind : Int) (i : Nat) (pre : List UInt8) (at_ : Nat) : Option (PC × Nat) := finR (readK d kind i pre at_)
theorem ruF_ok {d : List UInt8} {t N K : Nat} (ht : t ≤ d.length) (hr : ruF 0 0 (d.drop t) = (N, K, 0)) : 0 < K ∧ t + K ≤ d.length ∧ N < 18446744073709551616 := by
  obtain ⟨h1, h2, m, h3, -, -, h4⟩ := ruF_one (d.drop t) 0 0 N K (by omega) hr
  rw [List.length_drop] at h2
  simp only [Nat.pow_zero, Nat.mul_one, Nat.zero_add] at h3 h4
  omega
section
variable {d pre key : List UInt8} {kind kb : Int} {i at_ N K t M J : Nat} {E : Int}
theorem readR_len (h : d.length ≤ at_) : readR d kind i pre at_ = none := by unfold readR readK; rw [if_pos h]; rfl
theorem readR_err (h : at_ < d.length) (hr : ruF 0 0 (d.drop (at_ + 1)) = (N, K, E)) (hE : E ≠ 0) : readR d kind i pre at_ = none := by
  unfold readR readK; rw [if_neg (by omega), hr, if_pos hE]; rfl
theorem readR_far (h : at_ < d.length) (hr : ruF 0 0 (d.drop (at_ + 1)) = (N, K, 0)) (hf : d.length < at_ + 1 + K + N) : readR d kind i pre at_ = none := by
  unfold readR readK; rw [if_neg (by omega), hr, if_neg (by simp), if_pos (by simpa using hf)]; rfl
theorem readR_go (h : at_ < d.length) (hr : ruF 0 0 (d.drop (at_ + 1)) = (N, K, 0)) (hf : ¬ d.length < at_ + 1 + K + N) :
    readR d kind i pre at_ = finR (readK.readT d ((if kind = 3 ∧ i = 0 then [] else pre) ++ (d.drop (at_ + 1 + K)).take N) ((d.getD at_ 0).toNat : Int) (at_ + 1 + K + N)) := by
  unfold readR readK; rw [if_neg (by omega), hr, if_neg (by simp), if_neg (by simpa using hf)]
theorem readT_err (hr : ruF 0 0 (d.drop t) = (N, K, E)) (hE : E ≠ 0) : finR (readK.readT d key kb t) = none := by
  unfold readK.readT; rw [hr, if_pos hE]; rfl
theorem readT_far (hr : ruF 0 0 (d.drop t) = (N, K, 0)) (hk : kb = 1) (hf : d.length < t + K + N) : finR (readK.readT d key kb t) = none := by
  unfold readK.readT; rw [hr, if_neg (by simp), if_pos hk, if_pos (by simpa using hf)]; rfl
theorem readT_val (hr : ruF 0 0 (d.drop t) = (N, K, 0)) (hk : kb = 1) (hf : ¬ d.length < t + K + N) : finR (readK.readT d key kb t) = some (⟨key, kb, (d.drop (t + K)).take N, 0, 0⟩, t + K + N) := by
  unfold readK.readT; rw [hr, if_neg (by simp), if_pos hk, if_neg (by simpa using hf)]; rfl
theorem readT_num (hr : ruF 0 0 (d.drop t) = (N, K, 0)) (hk : kb ≠ 1) : finR (readK.readT d key kb t) = finR (readK.readN d key kb N (t + K)) := by
  unfold readK.readT; rw [hr, if_neg (by simp), if_neg hk]
theorem readN_err (hr : ruF 0 0 (d.drop t) = (M, J, E)) (hE : E ≠ 0) : finR (readK.readN d key kb N t) = none := by
  unfold readK.readN
  split
  · rfl
  · rw [hr, if_pos hE]; rfl
theorem readN_big (hr : ruF 0 0 (d.drop t) = (M, J, 0)) (hb : 65536 < N ∨ 1073741824 < M) : finR (readK.readN d key kb N t) = none := by
  unfold readK.readN
  split
  · rfl
  · rw [hr, if_neg (by simp)]
    split
    · rfl
    · show (if smallR _ = true then _ else none) = _
      rw [if_neg]
      unfold smallR
      rw [Bool.and_eq_true, decide_eq_true_eq, decide_eq_true_eq]
      show ¬ ((N : Int) ≤ 65536 ∧ (M : Int) ≤ 1073741824)
      omega
theorem readN_ok (hr : ruF 0 0 (d.drop t) = (M, J, 0)) (hb : ¬ 65536 < N) (hb2 : ¬ 1073741824 < M) : finR (readK.readN d key kb N t) = some (⟨key, kb, [], N, M⟩, t + J) := by
  unfold readK.readN
  rw [if_neg (by omega), hr, if_neg (by simp), if_neg (by simp; omega)]
  show (if smallR _ = true then _ else none) = _
  rw [if_pos]
  unfold smallR
  rw [Bool.and_eq_true, decide_eq_true_eq, decide_eq_true_eq]
  show (N : Int) ≤ 65536 ∧ (M : Int) ≤ 1073741824
  omega
end
def cellsR (d : List UInt8) (kind : Int) (pre : List UInt8) : Nat → Nat → Nat → Option (List PC)
  | _, _, 0 => some []
  | i, a, m + 1 => match readR d kind i pre a with
    | none => none
    | some (c, t) => (cellsR d kind pre (i + 1) t m).map (c :: ·)
theorem okC_small {P : Nat} {c : PC} (h : OkC P c) : smallR c = true := by
  unfold smallR
  by_cases h1 : c.kind = 1
  · obtain ⟨_, h2, h3⟩ := h.v0 h1
    rw [h2, h3]; decide
  · obtain ⟨_, h2, h3, h4, h5⟩ := h.v1 h1
    rw [Bool.and_eq_true, decide_eq_true_eq, decide_eq_true_eq]; omega
theorem readR_mid {P : Nat} {d pr rest pre : List UInt8} {kind : Int} {i : Nat} {c : PC} {at_ s : Nat} (hc : OkC P c) (hP : P ≤ 65536) (hd : d = pr ++ (pcF kind i c s ++ rest)) (ha : pr.length = at_)
    (hk : c.key = (if kind = 3 ∧ i = 0 then [] else pre) ++ restF kind i c.key s) : readR d kind i pre at_ = some (c, at_ + (pcF kind i c s).length) := by
  unfold readR
  rw [readK_mid hc hP hd ha hk]
  show (if smallR c = true then _ else none) = _
  rw [if_pos (okC_small hc)]
theorem cellsR_mid {P : Nat} {d : List UInt8} {kind : Int} {pre : List UInt8} {s : Nat} (hP : P ≤ 65536) : ∀ (l : List PC) (i a : Nat) (pr rest : List UInt8), (∀ c ∈ l, OkC P c) →
    d = pr ++ (pbodyF kind s i l ++ rest) → pr.length = a →
    (∀ (j : Nat) (hj : j < l.length), l[j].key = (if kind = 3 ∧ i + j = 0 then [] else pre) ++ restF kind (i + j) l[j].key s) → cellsR d kind pre i a l.length = some l
  | [], _, _, _, _, _, _, _, _ => rfl
  | c :: r, i, a, pr, rest, hl, hd, ha, hk => by
    have e1 := readR_mid (d := d) (pr := pr) (rest := pbodyF kind s (i + 1) r ++ rest) (pre := pre) (at_ := a) (i := i) (kind := kind) (s := s) (hl c (by simp)) hP (by rw [hd]; simp [pbodyF]) ha (by have := hk 0 (by simp); simpa using this)
    have e2 := cellsR_mid (d := d) (kind := kind) (pre := pre) (s := s) hP r (i + 1) (a + (pcF kind i c s).length) (pr ++ pcF kind i c s) rest (fun x hx => hl x (by simp [hx]))
      (by rw [hd]; simp [pbodyF]) (by simp [ha]) (fun j hj => by
        have := hk (j + 1) (by simpa using hj)
        simp only [List.getElem_cons_succ] at this
        rw [show i + 1 + j = i + (j + 1) by omega]; exact this)
    rw [List.length_cons, cellsR, e1]
    show (cellsR d kind pre (i + 1) (a + (pcF kind i c s).length) r.length).map (c :: ·) = _
    rw [e2]; rfl
/-! ### how many cells there may be -/
theorem pcF_ge (kind : Int) (i : Nat) (c : PC) (pre : Nat) : 3 + (restF kind i c.key pre).length + (if c.kind = 1 then 0 else 1) ≤ (pcF kind i c pre).length := by
  have h1 := uintF_pos (restF kind i c.key pre).length
  have h2 := uintF_pos c.val.length
  have h3 := uintF_pos (u64N c.page)
  have h4 := uintF_pos (u64N c.count)
  unfold pcF kvF
  by_cases h : c.kind = 1
  · rw [if_pos h, if_pos h]
    simp only [List.length_cons, List.length_append]; omega
  · rw [if_neg h, if_neg h]
    simp only [List.length_cons, List.length_append]; omega
theorem pbodyF_ge {kind : Int} {pre : Nat} : ∀ {l : List PC} {i : Nat}, (∀ (j : Nat) (hj : j < l.length), 4 ≤ (pcF kind (i + j) l[j] pre).length) → 4 * l.length ≤ (pbodyF kind pre i l).length
  | [], _, _ => by simp [pbodyF]
  | c :: r, i, h => by
    have h0 : 4 ≤ (pcF kind i c pre).length := h 0 (by simp)
    have ih := pbodyF_ge (kind := kind) (pre := pre) (l := r) (i := i + 1) (fun j hj => by
      have := h (j + 1) (by simpa using hj)
      rw [show i + 1 + j = i + (j + 1) by omega]; simpa using this)
    simp only [pbodyF, List.length_cons, List.length_append]; omega
theorem ordC_pre_nil : ∀ (p x : List UInt8), ¬ ordC (p ++ x) p < 0
  | [], [] => by simp [ordC]
  | [], _ :: _ => by simp [ordC]
  | a :: p, x => by
    rw [List.cons_append, ordC_same]
    exact ordC_pre_nil p x
theorem encK_many {kind : Int} {l : List PC} {P : Nat} (hk : isKindB kind = true) (h : encK kind l P = 0) (_hP : 512 ≤ P) : 6 * l.length ≤ P := by
  obtain ⟨h1, h2⟩ := encK_zero.1 h
  have hz : psizeF kind l = 10 + sharedF kind l + 2 * l.length + (pbodyF kind (sharedF kind l) 0 l).length := rfl
  have hs := (scan_sorted h1).2
  have hkd : kind = 2 ∨ kind = 3 := of_decide_eq_true hk
  cases hl : l with
  | nil => simp
  | cons c r =>
    have hb : ∀ (j : Nat) (hj : j < r.length), 4 ≤ (pcF kind (1 + j) r[j] (sharedF kind l)).length := fun j hj => by
      have h3 := pcF_ge kind (1 + j) r[j] (sharedF kind l)
      by_cases hq : r[j].kind = 1
      · have hm := scan_may h1 r[j] (by rw [hl]; simp)
        have hk3 : kind ≠ 3 := fun e => by
          subst e
          have := may_branch hm
          omega
        have hlj : (j + 1) < l.length := by rw [hl]; simpa using hj
        have ej : l[j + 1] = r[j] := by simp [hl]
        have e0 : l[0]'(by omega) = c := by simp [hl]
        have k1 := key_split (kind := kind) hlj (by omega)
        have k0 := key_split (kind := kind) (l := l) (i := 0) (by omega) (by omega)
        have ho := List.pairwise_iff_getElem.1 hs 0 (j + 1) (by omega) hlj (by omega)
        have hr : restF kind (1 + j) r[j].key (sharedF kind l) = r[j].key.drop (sharedF kind l) := by unfold restF; rw [if_neg (by omega)]
        rcases Nat.eq_zero_or_pos (r[j].key.drop (sharedF kind l)).length with e | e
        · exfalso
          rw [ej] at k1 ho
          rw [List.eq_nil_of_length_eq_zero e, List.append_nil] at k1
          rw [k0.2.1] at ho
          rw [k1.2.1] at ho
          exact ordC_pre_nil _ _ ho
        · rw [hr] at h3; rw [if_pos hq] at h3; omega
      · rw [if_neg hq] at h3; omega
    have h4 := pbodyF_ge hb
    have h5 := pcF_ge kind 0 c (sharedF kind l)
    have h6 : (pbodyF kind (sharedF kind l) 0 l).length = (pcF kind 0 c (sharedF kind l)).length + (pbodyF kind (sharedF kind l) 1 r).length := by
      rw [hl]; simp only [pbodyF, List.length_append]
    have h7 : l.length = r.length + 1 := by rw [hl]; rfl
    rw [← hl]
    omega
/-! ### the whole page -/
def parseR (b : List UInt8) : Option (List PC) :=
  if b.length < 6 + numAt b 4 2 ∨ b.length / 6 < numAt b 2 2 then none
  else cellsR b (kindF b) (preP b) 0 (6 + numAt b 4 2 + 2 * numAt b 2 2) (numAt b 2 2)
theorem isPk_parseR {b : List UInt8} {kind : Int} {l : List PC} (hpk : isPk b kind l) : parseR b = some l ∧ kindF b = kind := by
  obtain ⟨h0, hk, h, h9⟩ := hpk
  have hP := (isPowB_range h0)
  obtain ⟨h1, h2⟩ := encK_zero.1 h
  have hok : ∀ c ∈ l, OkC b.length c := fun c hc => may_ok (scan_may h1 c hc)
  have hz : psizeF kind l = 10 + sharedF kind l + 2 * l.length + (pbodyF kind (sharedF kind l) 0 l).length := rfl
  have hmany := encK_many hk h (by omega)
  have hkd : kind = 2 ∨ kind = 3 := of_decide_eq_true hk
  obtain ⟨P, hPP⟩ : ∃ P, b.length = P := ⟨_, rfl⟩
  rw [hPP] at h h2 h9 hok hmany hP h1
  have hB : b = (u8I kind :: 2 :: (fixedF l.length 2 ++ (fixedF (sharedF kind l) 2 ++ (prefF kind l ++ (pslotsF kind (sharedF kind l) (6 + sharedF kind l + 2 * l.length) 0 l ++ (pbodyF kind (sharedF kind l) 0 l ++ List.replicate (P - psizeF kind l) 0)))))) ++ fixedF (sumF (preK kind l P)) 4 := h9.symm
  have e1 : numAt b 2 2 = l.length := by
    refine numAt_mid (pre := [u8I kind, 2]) (rest := (fixedF (sharedF kind l) 2 ++ (prefF kind l ++ (pslotsF kind (sharedF kind l) (6 + sharedF kind l + 2 * l.length) 0 l ++ (pbodyF kind (sharedF kind l) 0 l ++ List.replicate (P - psizeF kind l) 0)))) ++ fixedF (sumF (preK kind l P)) 4) (by rw [hB]; simp) rfl (by show _ < 65536; omega)
  have e2 : numAt b 4 2 = sharedF kind l := by
    refine numAt_mid (pre := u8I kind :: 2 :: fixedF l.length 2) (rest := (prefF kind l ++ (pslotsF kind (sharedF kind l) (6 + sharedF kind l + 2 * l.length) 0 l ++ (pbodyF kind (sharedF kind l) 0 l ++ List.replicate (P - psizeF kind l) 0))) ++ fixedF (sumF (preK kind l P)) 4) (by rw [hB]; simp) (by simp [fixedF_length]) (by show _ < 65536; omega)
  have e3 : preP b = prefF kind l := by
    unfold preP
    rw [e2]
    refine take_mid (pre := u8I kind :: 2 :: (fixedF l.length 2 ++ fixedF (sharedF kind l) 2)) (rest := (pslotsF kind (sharedF kind l) (6 + sharedF kind l + 2 * l.length) 0 l ++ (pbodyF kind (sharedF kind l) 0 l ++ List.replicate (P - psizeF kind l) 0)) ++ fixedF (sumF (preK kind l P)) 4) (by rw [hB]; simp) (by simp [fixedF_length]) (prefF_length kind l)
  have e4 : kindF b = kind := by
    unfold kindF
    rw [hB]
    simp only [List.cons_append, List.getD_cons_zero]
    unfold u8I
    rw [UInt8.toNat_ofNat']; omega
  refine ⟨?_, e4⟩
  unfold parseR
  rw [e1, e2, e3, e4, hPP, if_neg (by omega)]
  refine cellsR_mid (P := P) (s := sharedF kind l) (by omega) l 0 _ (u8I kind :: 2 :: (fixedF l.length 2 ++ (fixedF (sharedF kind l) 2 ++ (prefF kind l ++ pslotsF kind (sharedF kind l) (6 + sharedF kind l + 2 * l.length) 0 l)))) (List.replicate (P - psizeF kind l) 0 ++ fixedF (sumF (preK kind l P)) 4) hok ?_ ?_ ?_
  · rw [hB]; simp
  · simp only [List.length_cons, List.length_append, fixedF_length, prefF_length, pslotsF_length]; omega
  · intro j hj
    rw [Nat.zero_add]
    unfold restF
    by_cases hn : kind = 3 ∧ j = 0
    · rw [if_pos hn, if_pos hn]; rfl
    · rw [if_neg hn, if_neg hn]
      exact (key_split hj hn).2.1
end Go.Proofs.YtfcnkpofcekmgaaGreat
