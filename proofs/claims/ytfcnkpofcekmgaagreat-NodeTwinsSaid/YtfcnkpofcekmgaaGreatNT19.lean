/- Texts joined: node.of, made, New, which, Open; node.which, Open; node.isPage, MostKey, MostValue; espalierref06.May; espalierref01.Fixed, step, SumOf -/
import Derived.Test.YtfcnkpofcekmgaaGreatNT1
import Derived.Test.YtfcnkpofcekmgaaGreatNT2
import Derived.Test.YtfcnkpofcekmgaaGreatNT3
import Derived.Test.YtfcnkpofcekmgaaGreatNT8
import Derived.Test.YtfcnkpofcekmgaaGreatNT17
import Derived.Deep.RegionHeld3
import Derived.Deep.CutBlock
import Derived.Outline
-- node.of, made, New, which, Open: walks.
namespace Go.Proofs.YtfcnkpofcekmgaaGreat
open Go.RowKit
abbrev engL1 : List Value := [.func (.func 68) #[] #[], .func (.func 71) #[] #[], .func (.func 73) #[] #[], .func (.func 74) #[] #[], .func (.func 75) #[] #[]]
abbrev engL2 : List Value := [.func (.func 76) #[] #[], .func (.func 79) #[] #[], .func (.func 81) #[] #[], .func (.func 82) #[] #[], .func (.func 83) #[] #[]]
abbrev engL0 : List Value := [.nilFunc, .nilFunc, .nilFunc, .nilFunc, .nilFunc]
theorem st_func (a : Addr) (m : Mode) (fn : Fn) (first cap : Array Value) (w : World) : (store a (.func fn first cap) m).run Tryz.prog w = stored Tryz.prog w a (.func fn first cap) m := run_store Tryz.prog w a _ m rfl
theorem st_nilFunc (a : Addr) (m : Mode) (w : World) : (store a .nilFunc m).run Tryz.prog w = stored Tryz.prog w a .nilFunc m := run_store Tryz.prog w a _ m rfl
theorem OBlk.cells5' {w : World} {g : Nat} {T : TypeId} {a0 a1 a2 a3 a4 : Value} (h : OBlk w g T [a0, a1, a2, a3, a4]) :
    w.cell? ⟨g, 0, none⟩ = some a0 ∧ w.cell? ⟨g, 1, none⟩ = some a1 ∧ w.cell? ⟨g, 2, none⟩ = some a2 ∧ w.cell? ⟨g, 3, none⟩ = some a3 ∧ w.cell? ⟨g, 4, none⟩ = some a4 := ⟨h.cell 0, h.cell 1, h.cell 2, h.cell 3, h.cell 4⟩
theorem OBlk.froz5' {w : World} {g : Nat} {T : TypeId} {a0 a1 a2 a3 a4 : Value} (h : OBlk w g T [a0, a1, a2, a3, a4]) :
    w.frozen? ⟨g, 0, none⟩ = false ∧ w.frozen? ⟨g, 1, none⟩ = false ∧ w.frozen? ⟨g, 2, none⟩ = false ∧ w.frozen? ⟨g, 3, none⟩ = false ∧ w.frozen? ⟨g, 4, none⟩ = false :=
  ⟨h.frozen (j := 0) (by simp), h.frozen (j := 1) (by simp), h.frozen (j := 2) (by simp), h.frozen (j := 3) (by simp), h.frozen (j := 4) (by simp)⟩
theorem Sep.set5' {w0 w : World} {g : Nat} {T : TypeId} {b0 b1 b2 b3 b4 : Value} {L : List Ent} (h : Sep w0 w (blkE g T [b0, b1, b2, b3, b4] :: L)) (a0 a1 a2 a3 a4 : Value) :
    Sep w0 (((((w.setCell ⟨g, 0, none⟩ a0).setCell ⟨g, 1, none⟩ a1).setCell ⟨g, 2, none⟩ a2).setCell ⟨g, 3, none⟩ a3).setCell ⟨g, 4, none⟩ a4) (blkE g T [a0, a1, a2, a3, a4] :: L) :=
  ((((h.setCell 0 a0).setCell 1 a1).setCell 2 a2).setCell 3 a3).setCell 4 a4
set_option maxRecDepth 20000 in
set_option maxHeartbeats 1000000 in
theorem of_1 (w : World) : Calls Tryz.prog 38 #[.int .i64 1] w fun e w' => e = .returned (.tuple #[.agg #[.func (.func 68) #[] #[], .func (.func 71) #[] #[], .func (.func 73) #[] #[], .func (.func 74) #[] #[], .func (.func 75) #[] #[]], .bool true]) ∧ Below w.heap.size w w' := by
  have hS := (Sep.start w).alloc 81 engL0
  have hsf := st_func
  have hsn := st_nilFunc
  unfold engL0 at *
  go_enter Tryz.func38, Tryz.ntmps38
  go_upto_region 1 with (fail)
  generalize hW1 : w.alloc (.cells #[.nilFunc, .nilFunc, .nilFunc, .nilFunc, .nilFunc] 81) = w1 at *
  generalize w.heap.size = g at *
  clear hW1
  have HS := Lib.hid (hS.set5' (.func (.func 68) #[] #[]) (.func (.func 71) #[] #[]) (.func (.func 73) #[] #[]) (.func (.func 74) #[] #[]) (.func (.func 75) #[] #[]))
  have hO : OBlk w1 g 81 [.nilFunc, .nilFunc, .nilFunc, .nilFunc, .nilFunc] := hS.head
  obtain ⟨y0, y1, y2, y3, y4⟩ := hO.cells5'
  obtain ⟨f0, f1, f2, f3, f4⟩ := hO.froz5'
  clear hS hO
  go_wp2_with fail
  have hO2 : OBlk _ g 81 [.func (.func 68) #[] #[], .func (.func 71) #[] #[], .func (.func 73) #[] #[], .func (.func 74) #[] #[], .func (.func 75) #[] #[]] := HS.out.head
  obtain ⟨e0, e1, e2, e3, e4⟩ := hO2.cells5'
  refine bodyPost_ret (v := .tuple #[.agg #[.func (.func 68) #[] #[], .func (.func 71) #[] #[], .func (.func 73) #[] #[], .func (.func 74) #[] #[], .func (.func 75) #[] #[]], .bool true]) ?_ rfl ?_
  · simp [results, Tryz.results38, go_sem, e0, e1, e2, e3, e4]
  · exact ⟨rfl, HS.out.belowOld (_v := w) (by simp)⟩
set_option maxRecDepth 20000 in
set_option maxHeartbeats 1000000 in
theorem of_2 (w : World) : Calls Tryz.prog 38 #[.int .i64 2] w fun e w' => e = .returned (.tuple #[.agg #[.func (.func 76) #[] #[], .func (.func 79) #[] #[], .func (.func 81) #[] #[], .func (.func 82) #[] #[], .func (.func 83) #[] #[]], .bool true]) ∧ Below w.heap.size w w' := by
  have hS := (Sep.start w).alloc 81 engL0
  have hsf := st_func
  have hsn := st_nilFunc
  unfold engL0 at *
  go_enter Tryz.func38, Tryz.ntmps38
  go_upto_region 1 with (fail)
  generalize hW1 : w.alloc (.cells #[.nilFunc, .nilFunc, .nilFunc, .nilFunc, .nilFunc] 81) = w1 at *
  generalize w.heap.size = g at *
  clear hW1
  have HS := Lib.hid (hS.set5' (.func (.func 76) #[] #[]) (.func (.func 79) #[] #[]) (.func (.func 81) #[] #[]) (.func (.func 82) #[] #[]) (.func (.func 83) #[] #[]))
  have hO : OBlk w1 g 81 [.nilFunc, .nilFunc, .nilFunc, .nilFunc, .nilFunc] := hS.head
  obtain ⟨y0, y1, y2, y3, y4⟩ := hO.cells5'
  obtain ⟨f0, f1, f2, f3, f4⟩ := hO.froz5'
  clear hS hO
  go_wp2_with fail
  have hO2 : OBlk _ g 81 [.func (.func 76) #[] #[], .func (.func 79) #[] #[], .func (.func 81) #[] #[], .func (.func 82) #[] #[], .func (.func 83) #[] #[]] := HS.out.head
  obtain ⟨e0, e1, e2, e3, e4⟩ := hO2.cells5'
  refine bodyPost_ret (v := .tuple #[.agg #[.func (.func 76) #[] #[], .func (.func 79) #[] #[], .func (.func 81) #[] #[], .func (.func 82) #[] #[], .func (.func 83) #[] #[]], .bool true]) ?_ rfl ?_
  · simp [results, Tryz.results38, go_sem, e0, e1, e2, e3, e4]
  · exact ⟨rfl, HS.out.belowOld (_v := w) (by simp)⟩
set_option maxRecDepth 20000 in
set_option maxHeartbeats 1000000 in
theorem of_no (n : Int) (h1 : n ≠ 1) (h2 : n ≠ 2) (w : World) : Calls Tryz.prog 38 #[.int .i64 n] w fun e w' => e = .returned (.tuple #[.agg #[.nilFunc, .nilFunc, .nilFunc, .nilFunc, .nilFunc], .bool false]) ∧ Below w.heap.size w w' := by
  have n1 : (n == 1) = false := beq_eq_false_iff_ne.2 h1
  have n2 : (n == 2) = false := beq_eq_false_iff_ne.2 h2
  clear h1 h2
  have hS := (Sep.start w).alloc 81 engL0
  have hsf := st_func
  have hsn := st_nilFunc
  unfold engL0 at *
  go_enter Tryz.func38, Tryz.ntmps38
  go_upto_region 1 with (fail)
  generalize hW1 : w.alloc (.cells #[.nilFunc, .nilFunc, .nilFunc, .nilFunc, .nilFunc] 81) = w1 at *
  generalize w.heap.size = g at *
  clear hW1
  have HS := Lib.hid (hS.set5' (.nilFunc) (.nilFunc) (.nilFunc) (.nilFunc) (.nilFunc))
  have hO : OBlk w1 g 81 [.nilFunc, .nilFunc, .nilFunc, .nilFunc, .nilFunc] := hS.head
  obtain ⟨y0, y1, y2, y3, y4⟩ := hO.cells5'
  obtain ⟨f0, f1, f2, f3, f4⟩ := hO.froz5'
  clear hS hO
  go_wp2_with fail
  have hO2 : OBlk _ g 81 [.nilFunc, .nilFunc, .nilFunc, .nilFunc, .nilFunc] := HS.out.head
  obtain ⟨e0, e1, e2, e3, e4⟩ := hO2.cells5'
  refine bodyPost_ret (v := .tuple #[.agg #[.nilFunc, .nilFunc, .nilFunc, .nilFunc, .nilFunc], .bool false]) ?_ rfl ?_
  · simp [results, Tryz.results38, go_sem, e0, e1, e2, e3, e4]
  · exact ⟨rfl, HS.out.belowOld (_v := w) (by simp)⟩
set_option maxRecDepth 20000 in
set_option maxHeartbeats 1000000 in
theorem made1_ok (p : Nat) (w : World) : Calls Tryz.prog 69 #[.pointer (some ⟨p, 0, none⟩), .int .i64 0] w fun e w' => e = .returned (.tuple #[ndV1 p, .int .i64 0]) ∧ w = w' := by
  go_enter Tryz.func69, Tryz.ntmps69
  go_wp2_with fail
  go_ret2
  exact ⟨rfl, rfl⟩
set_option maxRecDepth 20000 in
set_option maxHeartbeats 1000000 in
theorem made1_no (v : Value) (z : Int) (hz : z ≠ 0) (w : World) : Calls Tryz.prog 69 #[v, .int .i64 z] w fun e w' => e = .returned (.tuple #[.nilIface, .int .i64 z]) ∧ w = w' := by
  have hq : (z != 0) = true := by simp only [bne, beq_eq_false_iff_ne.2 hz]; rfl
  clear hz
  go_enter Tryz.func69, Tryz.ntmps69
  go_wp2_with fail
  go_ret2
  exact ⟨rfl, rfl⟩
/-- What an engine's New tells. -/
def NewQ1 (R : Nat → World → Prop) (B : Int → World → Prop) (e : Ending) (w' : World) : Prop := (∃ p, e = .returned (.tuple #[.pointer (some ⟨p, 0, none⟩), .int .i64 0]) ∧ R p w') ∨ (∃ z, z ≠ 0 ∧ e = .returned (.tuple #[.pointer none, .int .i64 z]) ∧ B z w')
def NdNewQ1 (R : Nat → World → Prop) (B : Int → World → Prop) (e : Ending) (w' : World) : Prop := (∃ p, e = .returned (.tuple #[ndV1 p, .int .i64 0]) ∧ R p w') ∨ (∃ z, z ≠ 0 ∧ e = .returned (.tuple #[.nilIface, .int .i64 z]) ∧ B z w')
set_option maxRecDepth 20000 in
set_option maxHeartbeats 1000000 in
theorem ofNew1 (kind P : Int) (w : World) (R : Nat → World → Prop) (B : Int → World → Prop) (h : Calls Tryz.prog 70 #[.int .i64 kind, .int .i64 P] w (NewQ1 R B)) : Calls Tryz.prog 68 #[.int .i64 kind, .int .i64 P] w (NdNewQ1 R B) := by
  go_enter Tryz.func68, Tryz.ntmps68
  go_wp2_with fail
  refine h.mono ?_
  unfold NewQ1
  rintro e w' (⟨p, rfl, hR⟩ | ⟨z, hz, rfl, hB⟩)
  · go_wp2_with (first
      | (go_at_call 69; (with_reducible refine (made1_ok p _).mono ?_); rintro e w2 ⟨rfl, rfl⟩)
      | fail)
    go_ret2
    exact .inl ⟨p, rfl, hR⟩
  · go_wp2_with (first
      | (go_at_call 69; (with_reducible refine (made1_no _ z hz _).mono ?_); rintro e w2 ⟨rfl, rfl⟩)
      | fail)
    go_ret2
    exact .inr ⟨z, hz, rfl, hB⟩
/-- What an engine's Open tells. -/
def OpenQ1 (R : Nat → World → Prop) (B : Int → World → Prop) (e : Ending) (w' : World) : Prop := (∃ p, e = .returned (.tuple #[.pointer (some ⟨p, 0, none⟩), .int .i64 0]) ∧ R p w') ∨ (∃ z, z ≠ 0 ∧ e = .returned (.tuple #[.pointer none, .int .i64 z]) ∧ B z w')
def NdOpenQ1 (R : Nat → World → Prop) (B : Int → World → Prop) (e : Ending) (w' : World) : Prop := (∃ p, e = .returned (.tuple #[ndV1 p, .int .i64 0]) ∧ R p w') ∨ (∃ z, z ≠ 0 ∧ e = .returned (.tuple #[.nilIface, .int .i64 z]) ∧ B z w')
set_option maxRecDepth 20000 in
set_option maxHeartbeats 1000000 in
theorem ofOpen1 (vb : Value) (w : World) (R : Nat → World → Prop) (B : Int → World → Prop) (h : Calls Tryz.prog 72 #[vb] w (OpenQ1 R B)) : Calls Tryz.prog 71 #[vb] w (NdOpenQ1 R B) := by
  go_enter Tryz.func71, Tryz.ntmps71
  go_wp2_with fail
  refine h.mono ?_
  unfold OpenQ1
  rintro e w' (⟨p, rfl, hR⟩ | ⟨z, hz, rfl, hB⟩)
  · go_wp2_with (first
      | (go_at_call 69; (with_reducible refine (made1_ok p _).mono ?_); rintro e w2 ⟨rfl, rfl⟩)
      | fail)
    go_ret2
    exact .inl ⟨p, rfl, hR⟩
  · go_wp2_with (first
      | (go_at_call 69; (with_reducible refine (made1_no _ z hz _).mono ?_); rintro e w2 ⟨rfl, rfl⟩)
      | fail)
    go_ret2
    exact .inr ⟨z, hz, rfl, hB⟩
set_option maxRecDepth 20000 in
set_option maxHeartbeats 1000000 in
theorem NdNew_1 (kind P : Int) (w : World) (R : Nat → World → Prop) (B : Int → World → Prop) (h : ∀ W, Below w.heap.size w W → Calls Tryz.prog 70 #[.int .i64 kind, .int .i64 P] W (NewQ1 R B)) : Calls Tryz.prog 8 #[.int .i64 1, .int .i64 kind, .int .i64 P] w (NdNewQ1 R B) := by
  have hsf := st_func
  have hf := fun W hW => ofNew1 kind P W R B (h W hW)
  clear h
  go_enter Tryz.func8, Tryz.ntmps8
  go_upto_region 2 with (first
    | (go_at_call 38; (with_reducible refine (of_1 _).mono ?_); rintro e w1 ⟨rfl, hw1⟩)
    | fail)
  have hS := ((Sep.start w).below hw1).alloc 81 engL1
  unfold engL1 at *
  generalize hW2 : w1.alloc (.cells #[.func (.func 68) #[] #[], .func (.func 71) #[] #[], .func (.func 73) #[] #[], .func (.func 74) #[] #[], .func (.func 75) #[] #[]] 81) = w2 at *
  generalize w1.heap.size = g at *
  clear hW2
  obtain ⟨y0, -, -, -, -⟩ := (show OBlk w2 g 81 [.func (.func 68) #[] #[], .func (.func 71) #[] #[], .func (.func 73) #[] #[], .func (.func 74) #[] #[], .func (.func 75) #[] #[]] from hS.head).cells5'
  have hf2 := hf _ (hS.belowOld (_v := w) (by simp))
  clear hS hf
  go_wp2_with fail
  refine hf2.mono ?_
  unfold NdNewQ1
  rintro e w3 (⟨p, rfl, hR⟩ | ⟨z, hz, rfl, hB⟩)
  · go_wp2_with fail
    go_ret2
    exact .inl ⟨p, rfl, hR⟩
  · go_wp2_with fail
    go_ret2
    exact .inr ⟨z, hz, rfl, hB⟩
set_option maxRecDepth 20000 in
set_option maxHeartbeats 1000000 in
theorem made2_ok (p : Nat) (w : World) : Calls Tryz.prog 77 #[.pointer (some ⟨p, 0, none⟩), .int .i64 0] w fun e w' => e = .returned (.tuple #[ndV2 p, .int .i64 0]) ∧ w = w' := by
  go_enter Tryz.func77, Tryz.ntmps77
  go_wp2_with fail
  go_ret2
  exact ⟨rfl, rfl⟩
set_option maxRecDepth 20000 in
set_option maxHeartbeats 1000000 in
theorem made2_no (v : Value) (z : Int) (hz : z ≠ 0) (w : World) : Calls Tryz.prog 77 #[v, .int .i64 z] w fun e w' => e = .returned (.tuple #[.nilIface, .int .i64 z]) ∧ w = w' := by
  have hq : (z != 0) = true := by simp only [bne, beq_eq_false_iff_ne.2 hz]; rfl
  clear hz
  go_enter Tryz.func77, Tryz.ntmps77
  go_wp2_with fail
  go_ret2
  exact ⟨rfl, rfl⟩
/-- What an engine's New tells. -/
def NewQ2 (R : Nat → World → Prop) (B : Int → World → Prop) (e : Ending) (w' : World) : Prop := (∃ p, e = .returned (.tuple #[.pointer (some ⟨p, 0, none⟩), .int .i64 0]) ∧ R p w') ∨ (∃ z, z ≠ 0 ∧ e = .returned (.tuple #[.pointer none, .int .i64 z]) ∧ B z w')
def NdNewQ2 (R : Nat → World → Prop) (B : Int → World → Prop) (e : Ending) (w' : World) : Prop := (∃ p, e = .returned (.tuple #[ndV2 p, .int .i64 0]) ∧ R p w') ∨ (∃ z, z ≠ 0 ∧ e = .returned (.tuple #[.nilIface, .int .i64 z]) ∧ B z w')
set_option maxRecDepth 20000 in
set_option maxHeartbeats 1000000 in
theorem ofNew2 (kind P : Int) (w : World) (R : Nat → World → Prop) (B : Int → World → Prop) (h : Calls Tryz.prog 78 #[.int .i64 kind, .int .i64 P] w (NewQ2 R B)) : Calls Tryz.prog 76 #[.int .i64 kind, .int .i64 P] w (NdNewQ2 R B) := by
  go_enter Tryz.func76, Tryz.ntmps76
  go_wp2_with fail
  refine h.mono ?_
  unfold NewQ2
  rintro e w' (⟨p, rfl, hR⟩ | ⟨z, hz, rfl, hB⟩)
  · go_wp2_with (first
      | (go_at_call 77; (with_reducible refine (made2_ok p _).mono ?_); rintro e w2 ⟨rfl, rfl⟩)
      | fail)
    go_ret2
    exact .inl ⟨p, rfl, hR⟩
  · go_wp2_with (first
      | (go_at_call 77; (with_reducible refine (made2_no _ z hz _).mono ?_); rintro e w2 ⟨rfl, rfl⟩)
      | fail)
    go_ret2
    exact .inr ⟨z, hz, rfl, hB⟩
set_option maxRecDepth 20000 in
set_option maxHeartbeats 1000000 in
theorem NdNew_2 (kind P : Int) (w : World) (R : Nat → World → Prop) (B : Int → World → Prop) (h : ∀ W, Below w.heap.size w W → Calls Tryz.prog 78 #[.int .i64 kind, .int .i64 P] W (NewQ2 R B)) : Calls Tryz.prog 8 #[.int .i64 2, .int .i64 kind, .int .i64 P] w (NdNewQ2 R B) := by
  have hsf := st_func
  have hf := fun W hW => ofNew2 kind P W R B (h W hW)
  clear h
  go_enter Tryz.func8, Tryz.ntmps8
  go_upto_region 2 with (first
    | (go_at_call 38; (with_reducible refine (of_2 _).mono ?_); rintro e w1 ⟨rfl, hw1⟩)
    | fail)
  have hS := ((Sep.start w).below hw1).alloc 81 engL2
  unfold engL2 at *
  generalize hW2 : w1.alloc (.cells #[.func (.func 76) #[] #[], .func (.func 79) #[] #[], .func (.func 81) #[] #[], .func (.func 82) #[] #[], .func (.func 83) #[] #[]] 81) = w2 at *
  generalize w1.heap.size = g at *
  clear hW2
  obtain ⟨y0, -, -, -, -⟩ := (show OBlk w2 g 81 [.func (.func 76) #[] #[], .func (.func 79) #[] #[], .func (.func 81) #[] #[], .func (.func 82) #[] #[], .func (.func 83) #[] #[]] from hS.head).cells5'
  have hf2 := hf _ (hS.belowOld (_v := w) (by simp))
  clear hS hf
  go_wp2_with fail
  refine hf2.mono ?_
  unfold NdNewQ2
  rintro e w3 (⟨p, rfl, hR⟩ | ⟨z, hz, rfl, hB⟩)
  · go_wp2_with fail
    go_ret2
    exact .inl ⟨p, rfl, hR⟩
  · go_wp2_with fail
    go_ret2
    exact .inr ⟨z, hz, rfl, hB⟩
set_option maxRecDepth 20000 in
set_option maxHeartbeats 1000000 in
theorem NdNew_no (n kind P : Int) (h1 : n ≠ 1) (h2 : n ≠ 2) (w : World) : Calls Tryz.prog 8 #[.int .i64 n, .int .i64 kind, .int .i64 P] w fun e w' => e = .returned (.tuple #[.nilIface, .int .i64 80]) ∧ Below w.heap.size w w' := by
  have hf := of_no n h1 h2 w
  have hsn := st_nilFunc
  clear h1 h2
  go_enter Tryz.func8, Tryz.ntmps8
  go_wp2_with (first
    | (go_at_call 38; (with_reducible refine hf.mono ?_); rintro e w1 ⟨rfl, hw1⟩)
    | fail)
  go_ret2
  exact ⟨rfl, hw1.alloc hw1.size _⟩
end Go.Proofs.YtfcnkpofcekmgaaGreat

-- node.which, Open: walks.
namespace Go.Proofs.YtfcnkpofcekmgaaGreat
open Go.RowKit
/-- The engine's byte. -/
def egB (b : List UInt8) : Nat := (b.getD 1 0).toNat
theorem egB_at {w : World} {A : Option Addr} {n c : Nat} {b : List UInt8} (hv : RdB w (.slice A n c) b) (h2 : 2 ≤ b.length) : ∃ ad, A = some ad ∧ w.cell? ⟨ad.block, ad.off + 1, none⟩ = some (.int .u8 (egB b : Int)) ∧ egB b < 256 := by
  obtain ⟨ad, rfl, h⟩ := hv.at_ (j := 1) (by omega)
  refine ⟨ad, rfl, ?_, (b.getD 1 0).toNat_lt⟩
  have e : b.getD 1 0 = b[1] := by rw [List.getD, List.getElem?_eq_getElem (by omega)]; rfl
  unfold egB
  rw [e]; exact h
set_option maxRecDepth 20000 in
set_option maxHeartbeats 1000000 in
theorem which_1 (v : Value) (b : List UInt8) (w : World) (hv : RdB w v b) (h2 : 2 ≤ b.length) (he : egB b = 1) : Calls Tryz.prog 43 #[v] w fun e w' => e = .returned (.tuple #[.agg #[.func (.func 68) #[] #[], .func (.func 71) #[] #[], .func (.func 73) #[] #[], .func (.func 74) #[] #[], .func (.func 75) #[] #[]], .bool true]) ∧ Below w.heap.size w w' := by
  obtain ⟨A, c, rfl, hm⟩ := hv.form
  have i1 : ¬ (b.length : Int) < 2 := by omega
  have i2 : (1 : Int) < (b.length : Int) := by omega
  have i3 : 1 < b.length := by omega
  obtain ⟨ad, rfl, hc, hlt⟩ := egB_at hv h2
  have e1 : IntKind.i64.wrap (egB b : Int) = (egB b : Int) := by rw [IntKind.wrap_i64]; omega
  rw [he] at hc e1
  have hof := of_1
  have hcb := World.block_lt_of_cell? w _ hc
  clear h2
  have hS := (Sep.start w).alloc 81 engL0
  have hsf := st_func
  have hsn := st_nilFunc
  unfold engL0 at *
  have hc1 := (hS.old_cell (v := w) (by simp) _ hcb).trans hc
  go_enter Tryz.func43, Tryz.ntmps43
  go_upto_region 1 with (fail)
  generalize hW1 : w.alloc (.cells #[.nilFunc, .nilFunc, .nilFunc, .nilFunc, .nilFunc] 81) = w1 at *
  generalize w.heap.size = g at *
  clear hW1
  have hof := hof w1
  go_wp2_with fail
  refine hof.mono ?_
  rintro e w2 ⟨rfl, hw2⟩
  have hS := hS.below hw2
  have HS := Lib.hid (hS.set5' (.func (.func 68) #[] #[]) (.func (.func 71) #[] #[]) (.func (.func 73) #[] #[]) (.func (.func 74) #[] #[]) (.func (.func 75) #[] #[]))
  have hO : OBlk w2 g 81 [.nilFunc, .nilFunc, .nilFunc, .nilFunc, .nilFunc] := hS.head
  obtain ⟨y0, y1, y2, y3, y4⟩ := hO.cells5'
  obtain ⟨f0, f1, f2, f3, f4⟩ := hO.froz5'
  clear hS hO
  go_wp2_with fail
  have hO2 : OBlk _ g 81 [.func (.func 68) #[] #[], .func (.func 71) #[] #[], .func (.func 73) #[] #[], .func (.func 74) #[] #[], .func (.func 75) #[] #[]] := HS.out.head
  obtain ⟨e0, e1, e2, e3, e4⟩ := hO2.cells5'
  refine bodyPost_ret (v := .tuple #[.agg #[.func (.func 68) #[] #[], .func (.func 71) #[] #[], .func (.func 73) #[] #[], .func (.func 74) #[] #[], .func (.func 75) #[] #[]], .bool true]) ?_ rfl ?_
  · simp [results, Tryz.results43, go_sem, e0, e1, e2, e3, e4]
  · exact ⟨rfl, HS.out.belowOld (_v := w) (by simp)⟩
set_option maxRecDepth 20000 in
set_option maxHeartbeats 1000000 in
theorem NdOpen_1 (v : Value) (b : List UInt8) (w : World) (hv : RdB w v b) (h2 : 2 ≤ b.length) (he : egB b = 1) (R : Nat → World → Prop) (B : Int → World → Prop) (h : ∀ W, Below w.heap.size w W → Calls Tryz.prog 72 #[v] W (OpenQ1 R B)) : Calls Tryz.prog 12 #[v] w (NdOpenQ1 R B) := by
  have hf := fun W hW => ofOpen1 v W R B (h W hW)
  have hwh := which_1 v b w hv h2 he
  have hsf := st_func
  obtain ⟨A, c, rfl, hm⟩ := hv.form
  clear h
  go_enter Tryz.func12, Tryz.ntmps12
  go_upto_region 2 with (first
    | (go_at_call 43; (with_reducible refine hwh.mono ?_); rintro e w1 ⟨rfl, hw1⟩)
    | fail)
  have hS := ((Sep.start w).below hw1).alloc 81 engL1
  unfold engL1 at *
  generalize hW2 : w1.alloc (.cells #[.func (.func 68) #[] #[], .func (.func 71) #[] #[], .func (.func 73) #[] #[], .func (.func 74) #[] #[], .func (.func 75) #[] #[]] 81) = w2 at *
  generalize w1.heap.size = g at *
  clear hW2
  obtain ⟨-, y1, -, -, -⟩ := (show OBlk w2 g 81 [.func (.func 68) #[] #[], .func (.func 71) #[] #[], .func (.func 73) #[] #[], .func (.func 74) #[] #[], .func (.func 75) #[] #[]] from hS.head).cells5'
  have hf2 := hf _ (hS.belowOld (_v := w) (by simp))
  clear hS hf
  go_wp2_with fail
  refine hf2.mono ?_
  unfold NdOpenQ1
  rintro e w3 (⟨p, rfl, hR⟩ | ⟨z, hz, rfl, hB⟩)
  · go_wp2_with fail
    go_ret2
    exact .inl ⟨p, rfl, hR⟩
  · go_wp2_with fail
    go_ret2
    exact .inr ⟨z, hz, rfl, hB⟩
end Go.Proofs.YtfcnkpofcekmgaaGreat

-- node.isPage, MostKey, MostValue: walks.
namespace Go.Proofs.YtfcnkpofcekmgaaGreat
open Go.RowKit
set_option maxRecDepth 20000 in
set_option maxHeartbeats 1000000 in
theorem NdIsPage_any (p : Int) (hp : -9223372036854775808 ≤ p ∧ p ≤ 9223372036854775807) (w : World) : Calls Tryz.prog 62 #[.int .i64 p] w fun e w' => e = .returned (.bool (isPowB p)) ∧ w = w' := by
  by_cases h1 : p < 512
  · have HV := Lib.hid (isPowB_out (.inl h1))
    go_enter Tryz.func62, Tryz.ntmps62
    go_wp2_with fail
    go_ret
    rw [HV.out]
    exact ⟨rfl, rfl⟩
  by_cases h2 : 65536 < p
  · have HV := Lib.hid (isPowB_out (.inr h2))
    go_enter Tryz.func62, Tryz.ntmps62
    go_wp2_with fail
    go_ret
    rw [HV.out]
    exact ⟨rfl, rfl⟩
  have hq := pow_eq p (by omega) (by omega)
  go_enter Tryz.func62, Tryz.ntmps62
  go_wp2_with fail
  go_ret
  exact ⟨rfl, rfl⟩
set_option maxRecDepth 20000 in
set_option maxHeartbeats 1000000 in
theorem NdMostKey_ok (P : Nat) (hp : isPowB (P : Int) = true) (w : World) : Calls Tryz.prog 33 #[.int .i64 (P : Int)] w fun e w' => e = .returned (.int .i64 ((P / 8 : Nat) : Int)) ∧ w = w' := by
  have hr := isPowB_range hp
  have hi := NdIsPage_any (P : Int) (by omega) w
  rw [hp] at hi
  have e1 : IntKind.i64.wrap ((P : Int) / 8) = (P : Int) / 8 := by rw [IntKind.wrap_i64]; omega
  have e2 : IntKind.i64.wrap ((P : Int) / 16) = (P : Int) / 16 := by rw [IntKind.wrap_i64]; omega
  have e3 : IntKind.i64.wrap ((P : Int) / 16 * 3) = (P : Int) / 16 * 3 := by rw [IntKind.wrap_i64]; omega
  clear hp
  go_enter Tryz.func33, Tryz.ntmps33
  go_wp2_with (first
    | (go_at_call 62; (with_reducible refine hi.mono ?_); rintro e w1 ⟨rfl, rfl⟩)
    | fail)
  go_ret
  exact ⟨rfl, rfl⟩
set_option maxRecDepth 20000 in
set_option maxHeartbeats 1000000 in
theorem NdMostValue_ok (P : Nat) (hp : isPowB (P : Int) = true) (w : World) : Calls Tryz.prog 35 #[.int .i64 (P : Int)] w fun e w' => e = .returned (.int .i64 ((P / 16 * 3 : Nat) : Int)) ∧ w = w' := by
  have hr := isPowB_range hp
  have hi := NdIsPage_any (P : Int) (by omega) w
  rw [hp] at hi
  have e1 : IntKind.i64.wrap ((P : Int) / 8) = (P : Int) / 8 := by rw [IntKind.wrap_i64]; omega
  have e2 : IntKind.i64.wrap ((P : Int) / 16) = (P : Int) / 16 := by rw [IntKind.wrap_i64]; omega
  have e3 : IntKind.i64.wrap ((P : Int) / 16 * 3) = (P : Int) / 16 * 3 := by rw [IntKind.wrap_i64]; omega
  clear hp
  go_enter Tryz.func35, Tryz.ntmps35
  go_wp2_with (first
    | (go_at_call 62; (with_reducible refine hi.mono ?_); rintro e w1 ⟨rfl, rfl⟩)
    | fail)
  go_ret
  exact ⟨rfl, rfl⟩
end Go.Proofs.YtfcnkpofcekmgaaGreat

-- espalierref06.May: the walk.
namespace Go.Proofs.YtfcnkpofcekmgaaGreat
open Go.RowKit
end Go.Proofs.YtfcnkpofcekmgaaGreat

-- espalierref01.Fixed, step, SumOf: walks.
namespace Go.Proofs.YtfcnkpofcekmgaaGreat
open Go.RowKit

/-! ### Fixed -/
end Go.Proofs.YtfcnkpofcekmgaaGreat
