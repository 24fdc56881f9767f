/- Texts joined: node.of, made, New, which, Open; node.which, Open; node.New, node.Open, in words of pieces.; espalierlaw08.value; node.isPage, MostKey, MostValue; Bytes made of a constant.; A piece; espalierlaw08.awake; espalierlaw08.NodeNames; The row's last step from 'Below' alone (the guide's small lemma 9). -/
import Derived.Test.YtfcnkpofcekmgaaNN2
import Derived.Test.YtfcnkpofcekmgaaNN3
import Derived.Test.YtfcnkpofcekmgaaNN8
import Derived.Test.YtfcnkpofcekmgaaNN15
import Derived.Deep.RegionHeld3
import Derived.Deep.CutBlock
import Derived.Lib.SlBytesConst
import Derived.Below
import Derived.ChangeSame
import Derived.WalkKit
import Derived.ProofKit
import Derived.OpenShut
-- node.of, made, New, which, Open: walks.
namespace Go.Proofs.Ytfcnkpofcekmgaa
open Go.RowKit
abbrev engL1 : List Value := [.func (.func 13) #[] #[], .func (.func 16) #[] #[], .func (.func 18) #[] #[], .func (.func 19) #[] #[], .func (.func 20) #[] #[]]
abbrev engL2 : List Value := [.func (.func 21) #[] #[], .func (.func 24) #[] #[], .func (.func 26) #[] #[], .func (.func 27) #[] #[], .func (.func 28) #[] #[]]
abbrev engL0 : List Value := [.nilFunc, .nilFunc, .nilFunc, .nilFunc, .nilFunc]
theorem st_func (a : Addr) (m : Mode) (fn : Fn) (first cap : Array Value) (w : World) : (store a (.func fn first cap) m).run Try.prog w = stored Try.prog w a (.func fn first cap) m := run_store Try.prog w a _ m rfl
theorem st_nilFunc (a : Addr) (m : Mode) (w : World) : (store a .nilFunc m).run Try.prog w = stored Try.prog w a .nilFunc m := run_store Try.prog w a _ m rfl
theorem OBlk.cells5' {w : World} {g : Nat} {T : TypeId} {a0 a1 a2 a3 a4 : Value} (h : OBlk w g T [a0, a1, a2, a3, a4]) :
    w.cell? ⟨g, 0, none⟩ = some a0 ∧ w.cell? ⟨g, 1, none⟩ = some a1 ∧ w.cell? ⟨g, 2, none⟩ = some a2 ∧ w.cell? ⟨g, 3, none⟩ = some a3 ∧ w.cell? ⟨g, 4, none⟩ = some a4 := ⟨h.cell 0, h.cell 1, h.cell 2, h.cell 3, h.cell 4⟩
theorem OBlk.froz5' {w : World} {g : Nat} {T : TypeId} {a0 a1 a2 a3 a4 : Value} (h : OBlk w g T [a0, a1, a2, a3, a4]) :
    w.frozen? ⟨g, 0, none⟩ = false ∧ w.frozen? ⟨g, 1, none⟩ = false ∧ w.frozen? ⟨g, 2, none⟩ = false ∧ w.frozen? ⟨g, 3, none⟩ = false ∧ w.frozen? ⟨g, 4, none⟩ = false :=
  ⟨h.frozen (j := 0) (by simp), h.frozen (j := 1) (by simp), h.frozen (j := 2) (by simp), h.frozen (j := 3) (by simp), h.frozen (j := 4) (by simp)⟩
theorem Sep.set5' {w0 w : World} {g : Nat} {T : TypeId} {b0 b1 b2 b3 b4 : Value} {L : List Ent} (h : Sep w0 w (blkE g T [b0, b1, b2, b3, b4] :: L)) (a0 a1 a2 a3 a4 : Value) :
    Sep w0 (((((w.setCell ⟨g, 0, none⟩ a0).setCell ⟨g, 1, none⟩ a1).setCell ⟨g, 2, none⟩ a2).setCell ⟨g, 3, none⟩ a3).setCell ⟨g, 4, none⟩ a4) (blkE g T [a0, a1, a2, a3, a4] :: L) :=
  ((((h.setCell 0 a0).setCell 1 a1).setCell 2 a2).setCell 3 a3).setCell 4 a4
set_option maxRecDepth 20000 in
set_option maxHeartbeats 1000000 in
theorem of_1 (w : World) : Calls Try.prog 10 #[.int .i64 1] w fun e w' => e = .returned (.tuple #[.agg #[.func (.func 13) #[] #[], .func (.func 16) #[] #[], .func (.func 18) #[] #[], .func (.func 19) #[] #[], .func (.func 20) #[] #[]], .bool true]) ∧ Below w.heap.size w w' := by
  have hS := (Sep.start w).alloc 44 engL0
  have hsf := st_func
  have hsn := st_nilFunc
  unfold engL0 at *
  go_enter Try.func10, Try.ntmps10
  go_upto_region 1 with (fail)
  generalize hW1 : w.alloc (.cells #[.nilFunc, .nilFunc, .nilFunc, .nilFunc, .nilFunc] 44) = w1 at *
  generalize w.heap.size = g at *
  clear hW1
  have HS := Lib.hid (hS.set5' (.func (.func 13) #[] #[]) (.func (.func 16) #[] #[]) (.func (.func 18) #[] #[]) (.func (.func 19) #[] #[]) (.func (.func 20) #[] #[]))
  have hO : OBlk w1 g 44 [.nilFunc, .nilFunc, .nilFunc, .nilFunc, .nilFunc] := hS.head
  obtain ⟨y0, y1, y2, y3, y4⟩ := hO.cells5'
  obtain ⟨f0, f1, f2, f3, f4⟩ := hO.froz5'
  clear hS hO
  go_wp2_with fail
  have hO2 : OBlk _ g 44 [.func (.func 13) #[] #[], .func (.func 16) #[] #[], .func (.func 18) #[] #[], .func (.func 19) #[] #[], .func (.func 20) #[] #[]] := HS.out.head
  obtain ⟨e0, e1, e2, e3, e4⟩ := hO2.cells5'
  refine bodyPost_ret (v := .tuple #[.agg #[.func (.func 13) #[] #[], .func (.func 16) #[] #[], .func (.func 18) #[] #[], .func (.func 19) #[] #[], .func (.func 20) #[] #[]], .bool true]) ?_ rfl ?_
  · simp [results, Try.results10, go_sem, e0, e1, e2, e3, e4]
  · exact ⟨rfl, HS.out.belowOld (v := w) (by simp)⟩
set_option maxRecDepth 20000 in
set_option maxHeartbeats 1000000 in
theorem of_2 (w : World) : Calls Try.prog 10 #[.int .i64 2] w fun e w' => e = .returned (.tuple #[.agg #[.func (.func 21) #[] #[], .func (.func 24) #[] #[], .func (.func 26) #[] #[], .func (.func 27) #[] #[], .func (.func 28) #[] #[]], .bool true]) ∧ Below w.heap.size w w' := by
  have hS := (Sep.start w).alloc 44 engL0
  have hsf := st_func
  have hsn := st_nilFunc
  unfold engL0 at *
  go_enter Try.func10, Try.ntmps10
  go_upto_region 1 with (fail)
  generalize hW1 : w.alloc (.cells #[.nilFunc, .nilFunc, .nilFunc, .nilFunc, .nilFunc] 44) = w1 at *
  generalize w.heap.size = g at *
  clear hW1
  have HS := Lib.hid (hS.set5' (.func (.func 21) #[] #[]) (.func (.func 24) #[] #[]) (.func (.func 26) #[] #[]) (.func (.func 27) #[] #[]) (.func (.func 28) #[] #[]))
  have hO : OBlk w1 g 44 [.nilFunc, .nilFunc, .nilFunc, .nilFunc, .nilFunc] := hS.head
  obtain ⟨y0, y1, y2, y3, y4⟩ := hO.cells5'
  obtain ⟨f0, f1, f2, f3, f4⟩ := hO.froz5'
  clear hS hO
  go_wp2_with fail
  have hO2 : OBlk _ g 44 [.func (.func 21) #[] #[], .func (.func 24) #[] #[], .func (.func 26) #[] #[], .func (.func 27) #[] #[], .func (.func 28) #[] #[]] := HS.out.head
  obtain ⟨e0, e1, e2, e3, e4⟩ := hO2.cells5'
  refine bodyPost_ret (v := .tuple #[.agg #[.func (.func 21) #[] #[], .func (.func 24) #[] #[], .func (.func 26) #[] #[], .func (.func 27) #[] #[], .func (.func 28) #[] #[]], .bool true]) ?_ rfl ?_
  · simp [results, Try.results10, go_sem, e0, e1, e2, e3, e4]
  · exact ⟨rfl, HS.out.belowOld (v := w) (by simp)⟩
set_option maxRecDepth 20000 in
set_option maxHeartbeats 1000000 in
theorem of_no (n : Int) (h1 : n ≠ 1) (h2 : n ≠ 2) (w : World) : Calls Try.prog 10 #[.int .i64 n] w fun e w' => e = .returned (.tuple #[.agg #[.nilFunc, .nilFunc, .nilFunc, .nilFunc, .nilFunc], .bool false]) ∧ Below w.heap.size w w' := by
  have n1 : (n == 1) = false := beq_eq_false_iff_ne.2 h1
  have n2 : (n == 2) = false := beq_eq_false_iff_ne.2 h2
  clear h1 h2
  have hS := (Sep.start w).alloc 44 engL0
  have hsf := st_func
  have hsn := st_nilFunc
  unfold engL0 at *
  go_enter Try.func10, Try.ntmps10
  go_upto_region 1 with (fail)
  generalize hW1 : w.alloc (.cells #[.nilFunc, .nilFunc, .nilFunc, .nilFunc, .nilFunc] 44) = w1 at *
  generalize w.heap.size = g at *
  clear hW1
  have HS := Lib.hid (hS.set5' (.nilFunc) (.nilFunc) (.nilFunc) (.nilFunc) (.nilFunc))
  have hO : OBlk w1 g 44 [.nilFunc, .nilFunc, .nilFunc, .nilFunc, .nilFunc] := hS.head
  obtain ⟨y0, y1, y2, y3, y4⟩ := hO.cells5'
  obtain ⟨f0, f1, f2, f3, f4⟩ := hO.froz5'
  clear hS hO
  go_wp2_with fail
  have hO2 : OBlk _ g 44 [.nilFunc, .nilFunc, .nilFunc, .nilFunc, .nilFunc] := HS.out.head
  obtain ⟨e0, e1, e2, e3, e4⟩ := hO2.cells5'
  refine bodyPost_ret (v := .tuple #[.agg #[.nilFunc, .nilFunc, .nilFunc, .nilFunc, .nilFunc], .bool false]) ?_ rfl ?_
  · simp [results, Try.results10, go_sem, e0, e1, e2, e3, e4]
  · exact ⟨rfl, HS.out.belowOld (v := w) (by simp)⟩
set_option maxRecDepth 20000 in
set_option maxHeartbeats 1000000 in
theorem made1_ok (p : Nat) (w : World) : Calls Try.prog 14 #[.pointer (some ⟨p, 0, none⟩), .int .i64 0] w fun e w' => e = .returned (.tuple #[ndV1 p, .int .i64 0]) ∧ w = w' := by
  go_enter Try.func14, Try.ntmps14
  go_wp2_with fail
  go_ret2
  exact ⟨rfl, rfl⟩
set_option maxRecDepth 20000 in
set_option maxHeartbeats 1000000 in
theorem made1_no (v : Value) (z : Int) (hz : z ≠ 0) (w : World) : Calls Try.prog 14 #[v, .int .i64 z] w fun e w' => e = .returned (.tuple #[.nilIface, .int .i64 z]) ∧ w = w' := by
  have hq : (z != 0) = true := by simp only [bne, beq_eq_false_iff_ne.2 hz]; rfl
  clear hz
  go_enter Try.func14, Try.ntmps14
  go_wp2_with fail
  go_ret2
  exact ⟨rfl, rfl⟩
/-- What an engine's New tells. -/
def NewQ1 (R : Nat → World → Prop) (B : Int → World → Prop) (e : Ending) (w' : World) : Prop := (∃ p, e = .returned (.tuple #[.pointer (some ⟨p, 0, none⟩), .int .i64 0]) ∧ R p w') ∨ (∃ z, z ≠ 0 ∧ e = .returned (.tuple #[.pointer none, .int .i64 z]) ∧ B z w')
def NdNewQ1 (R : Nat → World → Prop) (B : Int → World → Prop) (e : Ending) (w' : World) : Prop := (∃ p, e = .returned (.tuple #[ndV1 p, .int .i64 0]) ∧ R p w') ∨ (∃ z, z ≠ 0 ∧ e = .returned (.tuple #[.nilIface, .int .i64 z]) ∧ B z w')
set_option maxRecDepth 20000 in
set_option maxHeartbeats 1000000 in
theorem ofNew1 (kind P : Int) (w : World) (R : Nat → World → Prop) (B : Int → World → Prop) (h : Calls Try.prog 15 #[.int .i64 kind, .int .i64 P] w (NewQ1 R B)) : Calls Try.prog 13 #[.int .i64 kind, .int .i64 P] w (NdNewQ1 R B) := by
  go_enter Try.func13, Try.ntmps13
  go_wp2_with fail
  refine h.mono ?_
  unfold NewQ1
  rintro e w' (⟨p, rfl, hR⟩ | ⟨z, hz, rfl, hB⟩)
  · go_wp2_with (first
      | (go_at_call 14; (with_reducible refine (made1_ok p _).mono ?_); rintro e w2 ⟨rfl, rfl⟩)
      | fail)
    go_ret2
    exact .inl ⟨p, rfl, hR⟩
  · go_wp2_with (first
      | (go_at_call 14; (with_reducible refine (made1_no _ z hz _).mono ?_); rintro e w2 ⟨rfl, rfl⟩)
      | fail)
    go_ret2
    exact .inr ⟨z, hz, rfl, hB⟩
/-- What an engine's Open tells. -/
def OpenQ1 (R : Nat → World → Prop) (B : Int → World → Prop) (e : Ending) (w' : World) : Prop := (∃ p, e = .returned (.tuple #[.pointer (some ⟨p, 0, none⟩), .int .i64 0]) ∧ R p w') ∨ (∃ z, z ≠ 0 ∧ e = .returned (.tuple #[.pointer none, .int .i64 z]) ∧ B z w')
def NdOpenQ1 (R : Nat → World → Prop) (B : Int → World → Prop) (e : Ending) (w' : World) : Prop := (∃ p, e = .returned (.tuple #[ndV1 p, .int .i64 0]) ∧ R p w') ∨ (∃ z, z ≠ 0 ∧ e = .returned (.tuple #[.nilIface, .int .i64 z]) ∧ B z w')
set_option maxRecDepth 20000 in
set_option maxHeartbeats 1000000 in
theorem ofOpen1 (vb : Value) (w : World) (R : Nat → World → Prop) (B : Int → World → Prop) (h : Calls Try.prog 17 #[vb] w (OpenQ1 R B)) : Calls Try.prog 16 #[vb] w (NdOpenQ1 R B) := by
  go_enter Try.func16, Try.ntmps16
  go_wp2_with fail
  refine h.mono ?_
  unfold OpenQ1
  rintro e w' (⟨p, rfl, hR⟩ | ⟨z, hz, rfl, hB⟩)
  · go_wp2_with (first
      | (go_at_call 14; (with_reducible refine (made1_ok p _).mono ?_); rintro e w2 ⟨rfl, rfl⟩)
      | fail)
    go_ret2
    exact .inl ⟨p, rfl, hR⟩
  · go_wp2_with (first
      | (go_at_call 14; (with_reducible refine (made1_no _ z hz _).mono ?_); rintro e w2 ⟨rfl, rfl⟩)
      | fail)
    go_ret2
    exact .inr ⟨z, hz, rfl, hB⟩
set_option maxRecDepth 20000 in
set_option maxHeartbeats 1000000 in
theorem NdNew_1 (kind P : Int) (w : World) (R : Nat → World → Prop) (B : Int → World → Prop) (h : ∀ W, Below w.heap.size w W → Calls Try.prog 15 #[.int .i64 kind, .int .i64 P] W (NewQ1 R B)) : Calls Try.prog 5 #[.int .i64 1, .int .i64 kind, .int .i64 P] w (NdNewQ1 R B) := by
  have hsf := st_func
  have hf := fun W hW => ofNew1 kind P W R B (h W hW)
  clear h
  go_enter Try.func5, Try.ntmps5
  go_upto_region 2 with (first
    | (go_at_call 10; (with_reducible refine (of_1 _).mono ?_); rintro e w1 ⟨rfl, hw1⟩)
    | fail)
  have hS := ((Sep.start w).below hw1).alloc 44 engL1
  unfold engL1 at *
  generalize hW2 : w1.alloc (.cells #[.func (.func 13) #[] #[], .func (.func 16) #[] #[], .func (.func 18) #[] #[], .func (.func 19) #[] #[], .func (.func 20) #[] #[]] 44) = w2 at *
  generalize w1.heap.size = g at *
  clear hW2
  obtain ⟨y0, -, -, -, -⟩ := (show OBlk w2 g 44 [.func (.func 13) #[] #[], .func (.func 16) #[] #[], .func (.func 18) #[] #[], .func (.func 19) #[] #[], .func (.func 20) #[] #[]] from hS.head).cells5'
  have hf2 := hf _ (hS.belowOld (v := w) (by simp))
  clear hS hf
  go_wp2_with fail
  refine hf2.mono ?_
  unfold NdNewQ1
  rintro e w3 (⟨p, rfl, hR⟩ | ⟨z, hz, rfl, hB⟩)
  · go_wp2_with fail
    go_ret2
    exact .inl ⟨p, rfl, hR⟩
  · go_wp2_with fail
    go_ret2
    exact .inr ⟨z, hz, rfl, hB⟩
set_option maxRecDepth 20000 in
set_option maxHeartbeats 1000000 in
theorem made2_ok (p : Nat) (w : World) : Calls Try.prog 22 #[.pointer (some ⟨p, 0, none⟩), .int .i64 0] w fun e w' => e = .returned (.tuple #[ndV2 p, .int .i64 0]) ∧ w = w' := by
  go_enter Try.func22, Try.ntmps22
  go_wp2_with fail
  go_ret2
  exact ⟨rfl, rfl⟩
set_option maxRecDepth 20000 in
set_option maxHeartbeats 1000000 in
theorem made2_no (v : Value) (z : Int) (hz : z ≠ 0) (w : World) : Calls Try.prog 22 #[v, .int .i64 z] w fun e w' => e = .returned (.tuple #[.nilIface, .int .i64 z]) ∧ w = w' := by
  have hq : (z != 0) = true := by simp only [bne, beq_eq_false_iff_ne.2 hz]; rfl
  clear hz
  go_enter Try.func22, Try.ntmps22
  go_wp2_with fail
  go_ret2
  exact ⟨rfl, rfl⟩
/-- What an engine's New tells. -/
def NewQ2 (R : Nat → World → Prop) (B : Int → World → Prop) (e : Ending) (w' : World) : Prop := (∃ p, e = .returned (.tuple #[.pointer (some ⟨p, 0, none⟩), .int .i64 0]) ∧ R p w') ∨ (∃ z, z ≠ 0 ∧ e = .returned (.tuple #[.pointer none, .int .i64 z]) ∧ B z w')
def NdNewQ2 (R : Nat → World → Prop) (B : Int → World → Prop) (e : Ending) (w' : World) : Prop := (∃ p, e = .returned (.tuple #[ndV2 p, .int .i64 0]) ∧ R p w') ∨ (∃ z, z ≠ 0 ∧ e = .returned (.tuple #[.nilIface, .int .i64 z]) ∧ B z w')
set_option maxRecDepth 20000 in
set_option maxHeartbeats 1000000 in
theorem ofNew2 (kind P : Int) (w : World) (R : Nat → World → Prop) (B : Int → World → Prop) (h : Calls Try.prog 23 #[.int .i64 kind, .int .i64 P] w (NewQ2 R B)) : Calls Try.prog 21 #[.int .i64 kind, .int .i64 P] w (NdNewQ2 R B) := by
  go_enter Try.func21, Try.ntmps21
  go_wp2_with fail
  refine h.mono ?_
  unfold NewQ2
  rintro e w' (⟨p, rfl, hR⟩ | ⟨z, hz, rfl, hB⟩)
  · go_wp2_with (first
      | (go_at_call 22; (with_reducible refine (made2_ok p _).mono ?_); rintro e w2 ⟨rfl, rfl⟩)
      | fail)
    go_ret2
    exact .inl ⟨p, rfl, hR⟩
  · go_wp2_with (first
      | (go_at_call 22; (with_reducible refine (made2_no _ z hz _).mono ?_); rintro e w2 ⟨rfl, rfl⟩)
      | fail)
    go_ret2
    exact .inr ⟨z, hz, rfl, hB⟩
/-- What an engine's Open tells. -/
def OpenQ2 (R : Nat → World → Prop) (B : Int → World → Prop) (e : Ending) (w' : World) : Prop := (∃ p, e = .returned (.tuple #[.pointer (some ⟨p, 0, none⟩), .int .i64 0]) ∧ R p w') ∨ (∃ z, z ≠ 0 ∧ e = .returned (.tuple #[.pointer none, .int .i64 z]) ∧ B z w')
def NdOpenQ2 (R : Nat → World → Prop) (B : Int → World → Prop) (e : Ending) (w' : World) : Prop := (∃ p, e = .returned (.tuple #[ndV2 p, .int .i64 0]) ∧ R p w') ∨ (∃ z, z ≠ 0 ∧ e = .returned (.tuple #[.nilIface, .int .i64 z]) ∧ B z w')
set_option maxRecDepth 20000 in
set_option maxHeartbeats 1000000 in
theorem ofOpen2 (vb : Value) (w : World) (R : Nat → World → Prop) (B : Int → World → Prop) (h : Calls Try.prog 25 #[vb] w (OpenQ2 R B)) : Calls Try.prog 24 #[vb] w (NdOpenQ2 R B) := by
  go_enter Try.func24, Try.ntmps24
  go_wp2_with fail
  refine h.mono ?_
  unfold OpenQ2
  rintro e w' (⟨p, rfl, hR⟩ | ⟨z, hz, rfl, hB⟩)
  · go_wp2_with (first
      | (go_at_call 22; (with_reducible refine (made2_ok p _).mono ?_); rintro e w2 ⟨rfl, rfl⟩)
      | fail)
    go_ret2
    exact .inl ⟨p, rfl, hR⟩
  · go_wp2_with (first
      | (go_at_call 22; (with_reducible refine (made2_no _ z hz _).mono ?_); rintro e w2 ⟨rfl, rfl⟩)
      | fail)
    go_ret2
    exact .inr ⟨z, hz, rfl, hB⟩
set_option maxRecDepth 20000 in
set_option maxHeartbeats 1000000 in
theorem NdNew_2 (kind P : Int) (w : World) (R : Nat → World → Prop) (B : Int → World → Prop) (h : ∀ W, Below w.heap.size w W → Calls Try.prog 23 #[.int .i64 kind, .int .i64 P] W (NewQ2 R B)) : Calls Try.prog 5 #[.int .i64 2, .int .i64 kind, .int .i64 P] w (NdNewQ2 R B) := by
  have hsf := st_func
  have hf := fun W hW => ofNew2 kind P W R B (h W hW)
  clear h
  go_enter Try.func5, Try.ntmps5
  go_upto_region 2 with (first
    | (go_at_call 10; (with_reducible refine (of_2 _).mono ?_); rintro e w1 ⟨rfl, hw1⟩)
    | fail)
  have hS := ((Sep.start w).below hw1).alloc 44 engL2
  unfold engL2 at *
  generalize hW2 : w1.alloc (.cells #[.func (.func 21) #[] #[], .func (.func 24) #[] #[], .func (.func 26) #[] #[], .func (.func 27) #[] #[], .func (.func 28) #[] #[]] 44) = w2 at *
  generalize w1.heap.size = g at *
  clear hW2
  obtain ⟨y0, -, -, -, -⟩ := (show OBlk w2 g 44 [.func (.func 21) #[] #[], .func (.func 24) #[] #[], .func (.func 26) #[] #[], .func (.func 27) #[] #[], .func (.func 28) #[] #[]] from hS.head).cells5'
  have hf2 := hf _ (hS.belowOld (v := w) (by simp))
  clear hS hf
  go_wp2_with fail
  refine hf2.mono ?_
  unfold NdNewQ2
  rintro e w3 (⟨p, rfl, hR⟩ | ⟨z, hz, rfl, hB⟩)
  · go_wp2_with fail
    go_ret2
    exact .inl ⟨p, rfl, hR⟩
  · go_wp2_with fail
    go_ret2
    exact .inr ⟨z, hz, rfl, hB⟩
set_option maxRecDepth 20000 in
set_option maxHeartbeats 1000000 in
theorem NdNew_no (n kind P : Int) (h1 : n ≠ 1) (h2 : n ≠ 2) (w : World) : Calls Try.prog 5 #[.int .i64 n, .int .i64 kind, .int .i64 P] w fun e w' => e = .returned (.tuple #[.nilIface, .int .i64 80]) ∧ Below w.heap.size w w' := by
  have hf := of_no n h1 h2 w
  have hsn := st_nilFunc
  clear h1 h2
  go_enter Try.func5, Try.ntmps5
  go_wp2_with (first
    | (go_at_call 10; (with_reducible refine hf.mono ?_); rintro e w1 ⟨rfl, hw1⟩)
    | fail)
  go_ret2
  exact ⟨rfl, hw1.alloc hw1.size _⟩
end Go.Proofs.Ytfcnkpofcekmgaa

-- node.which, Open: walks.
namespace Go.Proofs.Ytfcnkpofcekmgaa
open Go.RowKit
/-- The engine's byte. -/
def egB (b : List UInt8) : Nat := (b.getD 1 0).toNat
theorem egB_at {w : World} {A : Option Addr} {n c : Nat} {b : List UInt8} (hv : RdB w (.slice A n c) b) (h2 : 2 ≤ b.length) : ∃ ad, A = some ad ∧ w.cell? ⟨ad.block, ad.off + 1, none⟩ = some (.int .u8 (egB b : Int)) ∧ egB b < 256 := by
  obtain ⟨ad, rfl, h⟩ := hv.at_ (j := 1) (by omega)
  refine ⟨ad, rfl, ?_, (b.getD 1 0).toNat_lt⟩
  have e : b.getD 1 0 = b[1] := by rw [List.getD, List.getElem?_eq_getElem (by omega)]; rfl
  unfold egB
  rw [e]; exact h
set_option maxRecDepth 20000 in
set_option maxHeartbeats 1000000 in
theorem which_1 (v : Value) (b : List UInt8) (w : World) (hv : RdB w v b) (h2 : 2 ≤ b.length) (he : egB b = 1) : Calls Try.prog 11 #[v] w fun e w' => e = .returned (.tuple #[.agg #[.func (.func 13) #[] #[], .func (.func 16) #[] #[], .func (.func 18) #[] #[], .func (.func 19) #[] #[], .func (.func 20) #[] #[]], .bool true]) ∧ Below w.heap.size w w' := by
  obtain ⟨A, c, rfl, hm⟩ := hv.form
  have i1 : ¬ (b.length : Int) < 2 := by omega
  have i2 : (1 : Int) < (b.length : Int) := by omega
  have i3 : 1 < b.length := by omega
  obtain ⟨ad, rfl, hc, hlt⟩ := egB_at hv h2
  have e1 : IntKind.i64.wrap (egB b : Int) = (egB b : Int) := by rw [IntKind.wrap_i64]; omega
  rw [he] at hc e1
  have hof := of_1
  have hcb := World.block_lt_of_cell? w _ hc
  clear h2
  have hS := (Sep.start w).alloc 44 engL0
  have hsf := st_func
  have hsn := st_nilFunc
  unfold engL0 at *
  have hc1 := (hS.old_cell (v := w) (by simp) _ hcb).trans hc
  go_enter Try.func11, Try.ntmps11
  go_upto_region 1 with (fail)
  generalize hW1 : w.alloc (.cells #[.nilFunc, .nilFunc, .nilFunc, .nilFunc, .nilFunc] 44) = w1 at *
  generalize w.heap.size = g at *
  clear hW1
  have hof := hof w1
  go_wp2_with fail
  refine hof.mono ?_
  rintro e w2 ⟨rfl, hw2⟩
  have hS := hS.below hw2
  have HS := Lib.hid (hS.set5' (.func (.func 13) #[] #[]) (.func (.func 16) #[] #[]) (.func (.func 18) #[] #[]) (.func (.func 19) #[] #[]) (.func (.func 20) #[] #[]))
  have hO : OBlk w2 g 44 [.nilFunc, .nilFunc, .nilFunc, .nilFunc, .nilFunc] := hS.head
  obtain ⟨y0, y1, y2, y3, y4⟩ := hO.cells5'
  obtain ⟨f0, f1, f2, f3, f4⟩ := hO.froz5'
  clear hS hO
  go_wp2_with fail
  have hO2 : OBlk _ g 44 [.func (.func 13) #[] #[], .func (.func 16) #[] #[], .func (.func 18) #[] #[], .func (.func 19) #[] #[], .func (.func 20) #[] #[]] := HS.out.head
  obtain ⟨e0, e1, e2, e3, e4⟩ := hO2.cells5'
  refine bodyPost_ret (v := .tuple #[.agg #[.func (.func 13) #[] #[], .func (.func 16) #[] #[], .func (.func 18) #[] #[], .func (.func 19) #[] #[], .func (.func 20) #[] #[]], .bool true]) ?_ rfl ?_
  · simp [results, Try.results11, go_sem, e0, e1, e2, e3, e4]
  · exact ⟨rfl, HS.out.belowOld (v := w) (by simp)⟩
set_option maxRecDepth 20000 in
set_option maxHeartbeats 1000000 in
theorem which_2 (v : Value) (b : List UInt8) (w : World) (hv : RdB w v b) (h2 : 2 ≤ b.length) (he : egB b = 2) : Calls Try.prog 11 #[v] w fun e w' => e = .returned (.tuple #[.agg #[.func (.func 21) #[] #[], .func (.func 24) #[] #[], .func (.func 26) #[] #[], .func (.func 27) #[] #[], .func (.func 28) #[] #[]], .bool true]) ∧ Below w.heap.size w w' := by
  obtain ⟨A, c, rfl, hm⟩ := hv.form
  have i1 : ¬ (b.length : Int) < 2 := by omega
  have i2 : (1 : Int) < (b.length : Int) := by omega
  have i3 : 1 < b.length := by omega
  obtain ⟨ad, rfl, hc, hlt⟩ := egB_at hv h2
  have e1 : IntKind.i64.wrap (egB b : Int) = (egB b : Int) := by rw [IntKind.wrap_i64]; omega
  rw [he] at hc e1
  have hof := of_2
  have hcb := World.block_lt_of_cell? w _ hc
  clear h2
  have hS := (Sep.start w).alloc 44 engL0
  have hsf := st_func
  have hsn := st_nilFunc
  unfold engL0 at *
  have hc1 := (hS.old_cell (v := w) (by simp) _ hcb).trans hc
  go_enter Try.func11, Try.ntmps11
  go_upto_region 1 with (fail)
  generalize hW1 : w.alloc (.cells #[.nilFunc, .nilFunc, .nilFunc, .nilFunc, .nilFunc] 44) = w1 at *
  generalize w.heap.size = g at *
  clear hW1
  have hof := hof w1
  go_wp2_with fail
  refine hof.mono ?_
  rintro e w2 ⟨rfl, hw2⟩
  have hS := hS.below hw2
  have HS := Lib.hid (hS.set5' (.func (.func 21) #[] #[]) (.func (.func 24) #[] #[]) (.func (.func 26) #[] #[]) (.func (.func 27) #[] #[]) (.func (.func 28) #[] #[]))
  have hO : OBlk w2 g 44 [.nilFunc, .nilFunc, .nilFunc, .nilFunc, .nilFunc] := hS.head
  obtain ⟨y0, y1, y2, y3, y4⟩ := hO.cells5'
  obtain ⟨f0, f1, f2, f3, f4⟩ := hO.froz5'
  clear hS hO
  go_wp2_with fail
  have hO2 : OBlk _ g 44 [.func (.func 21) #[] #[], .func (.func 24) #[] #[], .func (.func 26) #[] #[], .func (.func 27) #[] #[], .func (.func 28) #[] #[]] := HS.out.head
  obtain ⟨e0, e1, e2, e3, e4⟩ := hO2.cells5'
  refine bodyPost_ret (v := .tuple #[.agg #[.func (.func 21) #[] #[], .func (.func 24) #[] #[], .func (.func 26) #[] #[], .func (.func 27) #[] #[], .func (.func 28) #[] #[]], .bool true]) ?_ rfl ?_
  · simp [results, Try.results11, go_sem, e0, e1, e2, e3, e4]
  · exact ⟨rfl, HS.out.belowOld (v := w) (by simp)⟩
set_option maxRecDepth 20000 in
set_option maxHeartbeats 1000000 in
theorem which_no (v : Value) (b : List UInt8) (w : World) (hv : RdB w v b) (h2 : 2 ≤ b.length) (he1 : egB b ≠ 1) (he2 : egB b ≠ 2) : Calls Try.prog 11 #[v] w fun e w' => e = .returned (.tuple #[.agg #[.nilFunc, .nilFunc, .nilFunc, .nilFunc, .nilFunc], .bool false]) ∧ Below w.heap.size w w' := by
  obtain ⟨A, c, rfl, hm⟩ := hv.form
  have i1 : ¬ (b.length : Int) < 2 := by omega
  have i2 : (1 : Int) < (b.length : Int) := by omega
  have i3 : 1 < b.length := by omega
  obtain ⟨ad, rfl, hc, hlt⟩ := egB_at hv h2
  have e1 : IntKind.i64.wrap (egB b : Int) = (egB b : Int) := by rw [IntKind.wrap_i64]; omega
  have hof := fun W => of_no (egB b : Int) (by omega) (by omega) W
  clear he1 he2
  generalize egB b = k at *
  have hcb := World.block_lt_of_cell? w _ hc
  clear h2
  have hS := (Sep.start w).alloc 44 engL0
  have hsf := st_func
  have hsn := st_nilFunc
  unfold engL0 at *
  have hc1 := (hS.old_cell (v := w) (by simp) _ hcb).trans hc
  go_enter Try.func11, Try.ntmps11
  go_upto_region 1 with (fail)
  generalize hW1 : w.alloc (.cells #[.nilFunc, .nilFunc, .nilFunc, .nilFunc, .nilFunc] 44) = w1 at *
  generalize w.heap.size = g at *
  clear hW1
  have hof := hof w1
  go_wp2_with fail
  refine hof.mono ?_
  rintro e w2 ⟨rfl, hw2⟩
  have hS := hS.below hw2
  have HS := Lib.hid (hS.set5' (.nilFunc) (.nilFunc) (.nilFunc) (.nilFunc) (.nilFunc))
  have hO : OBlk w2 g 44 [.nilFunc, .nilFunc, .nilFunc, .nilFunc, .nilFunc] := hS.head
  obtain ⟨y0, y1, y2, y3, y4⟩ := hO.cells5'
  obtain ⟨f0, f1, f2, f3, f4⟩ := hO.froz5'
  clear hS hO
  go_wp2_with fail
  have hO2 : OBlk _ g 44 [.nilFunc, .nilFunc, .nilFunc, .nilFunc, .nilFunc] := HS.out.head
  obtain ⟨e0, e1, e2, e3, e4⟩ := hO2.cells5'
  refine bodyPost_ret (v := .tuple #[.agg #[.nilFunc, .nilFunc, .nilFunc, .nilFunc, .nilFunc], .bool false]) ?_ rfl ?_
  · simp [results, Try.results11, go_sem, e0, e1, e2, e3, e4]
  · exact ⟨rfl, HS.out.belowOld (v := w) (by simp)⟩
set_option maxRecDepth 20000 in
set_option maxHeartbeats 1000000 in
theorem which_short (v : Value) (b : List UInt8) (w : World) (hv : RdB w v b) (h2 : b.length < 2) : Calls Try.prog 11 #[v] w fun e w' => e = .returned (.tuple #[.agg #[.nilFunc, .nilFunc, .nilFunc, .nilFunc, .nilFunc], .bool false]) ∧ Below w.heap.size w w' := by
  obtain ⟨A, c, rfl, hm⟩ := hv.form
  have i1 : (b.length : Int) < 2 := by omega
  clear h2
  have hS := (Sep.start w).alloc 44 engL0
  have hsf := st_func
  have hsn := st_nilFunc
  unfold engL0 at *
  go_enter Try.func11, Try.ntmps11
  go_upto_region 1 with (fail)
  generalize hW1 : w.alloc (.cells #[.nilFunc, .nilFunc, .nilFunc, .nilFunc, .nilFunc] 44) = w1 at *
  generalize w.heap.size = g at *
  clear hW1
  have HS := Lib.hid (hS.set5' (.nilFunc) (.nilFunc) (.nilFunc) (.nilFunc) (.nilFunc))
  have hO : OBlk w1 g 44 [.nilFunc, .nilFunc, .nilFunc, .nilFunc, .nilFunc] := hS.head
  obtain ⟨y0, y1, y2, y3, y4⟩ := hO.cells5'
  obtain ⟨f0, f1, f2, f3, f4⟩ := hO.froz5'
  clear hS hO
  go_wp2_with fail
  have hO2 : OBlk _ g 44 [.nilFunc, .nilFunc, .nilFunc, .nilFunc, .nilFunc] := HS.out.head
  obtain ⟨e0, e1, e2, e3, e4⟩ := hO2.cells5'
  refine bodyPost_ret (v := .tuple #[.agg #[.nilFunc, .nilFunc, .nilFunc, .nilFunc, .nilFunc], .bool false]) ?_ rfl ?_
  · simp [results, Try.results11, go_sem, e0, e1, e2, e3, e4]
  · exact ⟨rfl, HS.out.belowOld (v := w) (by simp)⟩
set_option maxRecDepth 20000 in
set_option maxHeartbeats 1000000 in
theorem NdOpen_1 (v : Value) (b : List UInt8) (w : World) (hv : RdB w v b) (h2 : 2 ≤ b.length) (he : egB b = 1) (R : Nat → World → Prop) (B : Int → World → Prop) (h : ∀ W, Below w.heap.size w W → Calls Try.prog 17 #[v] W (OpenQ1 R B)) : Calls Try.prog 7 #[v] w (NdOpenQ1 R B) := by
  have hf := fun W hW => ofOpen1 v W R B (h W hW)
  have hwh := which_1 v b w hv h2 he
  have hsf := st_func
  obtain ⟨A, c, rfl, hm⟩ := hv.form
  clear h
  go_enter Try.func7, Try.ntmps7
  go_upto_region 2 with (first
    | (go_at_call 11; (with_reducible refine hwh.mono ?_); rintro e w1 ⟨rfl, hw1⟩)
    | fail)
  have hS := ((Sep.start w).below hw1).alloc 44 engL1
  unfold engL1 at *
  generalize hW2 : w1.alloc (.cells #[.func (.func 13) #[] #[], .func (.func 16) #[] #[], .func (.func 18) #[] #[], .func (.func 19) #[] #[], .func (.func 20) #[] #[]] 44) = w2 at *
  generalize w1.heap.size = g at *
  clear hW2
  obtain ⟨-, y1, -, -, -⟩ := (show OBlk w2 g 44 [.func (.func 13) #[] #[], .func (.func 16) #[] #[], .func (.func 18) #[] #[], .func (.func 19) #[] #[], .func (.func 20) #[] #[]] from hS.head).cells5'
  have hf2 := hf _ (hS.belowOld (v := w) (by simp))
  clear hS hf
  go_wp2_with fail
  refine hf2.mono ?_
  unfold NdOpenQ1
  rintro e w3 (⟨p, rfl, hR⟩ | ⟨z, hz, rfl, hB⟩)
  · go_wp2_with fail
    go_ret2
    exact .inl ⟨p, rfl, hR⟩
  · go_wp2_with fail
    go_ret2
    exact .inr ⟨z, hz, rfl, hB⟩
set_option maxRecDepth 20000 in
set_option maxHeartbeats 1000000 in
theorem NdOpen_2 (v : Value) (b : List UInt8) (w : World) (hv : RdB w v b) (h2 : 2 ≤ b.length) (he : egB b = 2) (R : Nat → World → Prop) (B : Int → World → Prop) (h : ∀ W, Below w.heap.size w W → Calls Try.prog 25 #[v] W (OpenQ2 R B)) : Calls Try.prog 7 #[v] w (NdOpenQ2 R B) := by
  have hf := fun W hW => ofOpen2 v W R B (h W hW)
  have hwh := which_2 v b w hv h2 he
  have hsf := st_func
  obtain ⟨A, c, rfl, hm⟩ := hv.form
  clear h
  go_enter Try.func7, Try.ntmps7
  go_upto_region 2 with (first
    | (go_at_call 11; (with_reducible refine hwh.mono ?_); rintro e w1 ⟨rfl, hw1⟩)
    | fail)
  have hS := ((Sep.start w).below hw1).alloc 44 engL2
  unfold engL2 at *
  generalize hW2 : w1.alloc (.cells #[.func (.func 21) #[] #[], .func (.func 24) #[] #[], .func (.func 26) #[] #[], .func (.func 27) #[] #[], .func (.func 28) #[] #[]] 44) = w2 at *
  generalize w1.heap.size = g at *
  clear hW2
  obtain ⟨-, y1, -, -, -⟩ := (show OBlk w2 g 44 [.func (.func 21) #[] #[], .func (.func 24) #[] #[], .func (.func 26) #[] #[], .func (.func 27) #[] #[], .func (.func 28) #[] #[]] from hS.head).cells5'
  have hf2 := hf _ (hS.belowOld (v := w) (by simp))
  clear hS hf
  go_wp2_with fail
  refine hf2.mono ?_
  unfold NdOpenQ2
  rintro e w3 (⟨p, rfl, hR⟩ | ⟨z, hz, rfl, hB⟩)
  · go_wp2_with fail
    go_ret2
    exact .inl ⟨p, rfl, hR⟩
  · go_wp2_with fail
    go_ret2
    exact .inr ⟨z, hz, rfl, hB⟩
set_option maxRecDepth 20000 in
set_option maxHeartbeats 1000000 in
theorem NdOpen_no (v : Value) (b : List UInt8) (w : World) (hv : RdB w v b) (hn : b.length < 2 ∨ egB b ≠ 1 ∧ egB b ≠ 2) : Calls Try.prog 7 #[v] w fun e w' => e = .returned (.tuple #[.nilIface, .int .i64 60]) ∧ Below w.heap.size w w' := by
  have hwh : Calls Try.prog 11 #[v] w fun e w' => e = .returned (.tuple #[.agg #[.nilFunc, .nilFunc, .nilFunc, .nilFunc, .nilFunc], .bool false]) ∧ Below w.heap.size w w' := by
    rcases Nat.lt_or_ge b.length 2 with h | h
    · exact which_short v b w hv h
    · rcases hn with h' | ⟨h1, h2⟩
      · omega
      · exact which_no v b w hv h h1 h2
  obtain ⟨A, c, rfl, hm⟩ := hv.form
  have hsn := st_nilFunc
  clear hn
  go_enter Try.func7, Try.ntmps7
  go_wp2_with (first
    | (go_at_call 11; (with_reducible refine hwh.mono ?_); rintro e w1 ⟨rfl, hw1⟩)
    | fail)
  go_ret2
  exact ⟨rfl, hw1.alloc hw1.size _⟩
end Go.Proofs.Ytfcnkpofcekmgaa

-- node.New, node.Open, in words of pieces.
namespace Go.Proofs.Ytfcnkpofcekmgaa
open Go.RowKit
set_option maxRecDepth 20000 in
set_option maxHeartbeats 1000000 in
theorem PNew_bad3 (kind Q : Int) (hq : -9223372036854775808 ≤ Q ∧ Q ≤ 9223372036854775807) (hk : (isKindB kind && isPowB Q) = false) (w : World) : Calls Try.prog 15 #[.int .i64 kind, .int .i64 Q] w fun e w' =>
    e = .returned (.tuple #[.pointer none, .int .i64 1]) ∧ w = w' := by
  cases hk2 : isKindB kind with
  | false => exact PNew_bad kind Q hk2 w
  | true =>
    rw [hk2, Bool.true_and] at hk
    have hKi := fun W => isKind_any kind W
    have hPa := fun W => isPage_any Q hq W
    rw [hk2] at hKi
    rw [hk] at hPa
    clear hk hk2
    go_enter Try.func15, Try.ntmps15
    go_wp2_with (first | (go_at_call 29; refine (hKi _).mono ?_; rintro e w1 ⟨rfl, rfl⟩) | (go_at_call 30; refine (hPa _).mono ?_; rintro e w1 ⟨rfl, rfl⟩) | fail)
    go_ret2
    exact ⟨rfl, rfl⟩
section
variable {w0 w : World} {L : List Ent} {kind : Int} {P : Nat}
theorem NdNewOk1 (hS : Sep w0 w L) (hk : isKindB kind = true) (hp : isPowB (P : Int) = true) : Calls Try.prog 5 #[.int .i64 1, .int .i64 kind, .int .i64 (P : Int)] w fun e w' => ∃ p, e = .returned (.tuple #[ndV1 p, .int .i64 0]) ∧ NdP1 w0 w' L p P kind ⟨[], [], 0⟩ := by
  refine (NdNew_1 kind (P : Int) w (fun p w' => NdP1 w0 w' L p P kind ⟨[], [], 0⟩) (fun _ _ => False) (fun W hW => ?_)).mono ?_
  · refine (PNew_ok kind P hk hp W).mono ?_
    rintro e w' ⟨p, rfl, hpl, hA, hb⟩
    have h1 : Sep w0 w' (blkE p 61 [.int .i64 kind, .int .i64 (P : Int), .int .i64 8, .slice none 0 0] :: L) := (hS.below hW).new hb hA.blk (fun g hg => by have hg' : g = p := hg; subst hg'; exact ⟨hpl, hA.blk.lt⟩)
    exact .inl ⟨p, rfl, .slice none 0 0, [], rfl, by simp [RngC], Sep.pgClose (l := []) (Sep.sw1 (Sep.nilC h1))⟩
  · rintro e w' (⟨p, rfl, h⟩ | ⟨_, _, _, h⟩)
    · exact ⟨p, rfl, h⟩
    · exact h.elim
theorem NdNewOk2 (hS : Sep w0 w L) (hk : isKindB kind = true) (hp : isPowB (P : Int) = true) : Calls Try.prog 5 #[.int .i64 2, .int .i64 kind, .int .i64 (P : Int)] w fun e w' => ∃ p, e = .returned (.tuple #[ndV2 p, .int .i64 0]) ∧ NdP2 w0 w' L p P kind ⟨[], [], 0⟩ := by
  refine (NdNew_2 kind (P : Int) w (fun p w' => NdP2 w0 w' L p P kind ⟨[], [], 0⟩) (fun _ _ => False) (fun W hW => ?_)).mono ?_
  · refine (KNew_ok kind P hk hp (hS.below hW)).mono ?_
    rintro e w' ⟨p, rfl, h⟩
    exact .inl ⟨p, rfl, h⟩
  · rintro e w' (⟨p, rfl, h⟩ | ⟨_, _, _, h⟩)
    · exact ⟨p, rfl, h⟩
    · exact h.elim
theorem NdNewBad1 (Q : Int) (hq : i64r Q) (hk : (isKindB kind && isPowB Q) = false) (w : World) : Calls Try.prog 5 #[.int .i64 1, .int .i64 kind, .int .i64 Q] w fun e w' => e = .returned (.tuple #[.nilIface, .int .i64 1]) ∧ Below w.heap.size w w' := by
  refine (NdNew_1 kind Q w (fun _ _ => False) (fun z w' => z = 1 ∧ Below w.heap.size w w') (fun W hW => ?_)).mono ?_
  · refine (PNew_bad3 kind Q hq hk W).mono ?_
    rintro e w' ⟨rfl, rfl⟩
    exact .inr ⟨1, by decide, rfl, rfl, hW⟩
  · rintro e w' (⟨p, _, h⟩ | ⟨z, _, rfl, rfl, h⟩)
    · exact h.elim
    · exact ⟨rfl, h⟩
theorem NdNewBad2 (Q : Int) (hq : i64r Q) (hk : (isKindB kind && isPowB Q) = false) (w : World) : Calls Try.prog 5 #[.int .i64 2, .int .i64 kind, .int .i64 Q] w fun e w' => e = .returned (.tuple #[.nilIface, .int .i64 1]) ∧ Below w.heap.size w w' := by
  refine (NdNew_2 kind Q w (fun _ _ => False) (fun z w' => z = 1 ∧ Below w.heap.size w w') (fun W hW => ?_)).mono ?_
  · refine (KNew_bad kind Q hq hk W).mono ?_
    rintro e w' ⟨rfl, rfl⟩
    exact .inr ⟨1, by decide, rfl, rfl, hW⟩
  · rintro e w' (⟨p, _, h⟩ | ⟨z, _, rfl, rfl, h⟩)
    · exact h.elim
    · exact ⟨rfl, h⟩
/-- Open of bytes of an engine: a page, or nothing. -/
theorem NdOpn1 {v : Value} {b : List UInt8} (hS : Sep w0 w L) (hv : RdB w v b) (h2 : 2 ≤ b.length) (he : egB b = 1) : Calls Try.prog 7 #[v] w fun e w' =>
    (∃ p kind l, isPln b kind l ∧ e = .returned (.tuple #[ndV1 p, .int .i64 0]) ∧ NdP1 w0 w' L p b.length kind ⟨l, [], 0⟩) ∨ ((∀ kind l, ¬ isPln b kind l) ∧ e = .returned (.tuple #[.nilIface, .int .i64 60]) ∧ Sep w0 w' L) := by
  refine (NdOpen_1 v b w hv h2 he (fun p w' => ∃ kind l, isPln b kind l ∧ NdP1 w0 w' L p b.length kind ⟨l, [], 0⟩) (fun z w' => z = 60 ∧ (∀ kind l, ¬ isPln b kind l) ∧ Sep w0 w' L) (fun W hW => ?_)).mono ?_
  · refine (POpen_sep (hS.below hW) (hv.below hW (Nat.le_refl _))).mono ?_
    rintro e w' (⟨kind, l, p, u, hp, hr, rfl, h⟩ | ⟨hn, rfl, h⟩)
    · exact .inl ⟨p, rfl, kind, pcs l, hp, u, l, rfl, hr, h⟩
    · exact .inr ⟨60, by decide, rfl, rfl, hn, h⟩
  · rintro e w' (⟨p, rfl, kind, l, hp, h⟩ | ⟨z, _, rfl, rfl, hn, h⟩)
    · exact .inl ⟨p, kind, l, hp, rfl, h⟩
    · exact .inr ⟨hn, rfl, h⟩
theorem NdOpn2 {v : Value} {b : List UInt8} (hS : Sep w0 w L) (hv : RdB w v b) (h2 : 2 ≤ b.length) (he : egB b = 2) : Calls Try.prog 7 #[v] w fun e w' =>
    (∃ p kind l, isPk b kind l ∧ e = .returned (.tuple #[ndV2 p, .int .i64 0]) ∧ NdP2 w0 w' L p b.length kind (tidyP kind l)) ∨ ((∀ kind l, ¬ isPk b kind l) ∧ e = .returned (.tuple #[.nilIface, .int .i64 60]) ∧ Sep w0 w' L) := by
  refine (NdOpen_2 v b w hv h2 he (fun p w' => ∃ kind l, isPk b kind l ∧ NdP2 w0 w' L p b.length kind (tidyP kind l)) (fun z w' => z = 60 ∧ (∀ kind l, ¬ isPk b kind l) ∧ Sep w0 w' L) (fun W hW => ?_)).mono ?_
  · refine (KOpen_sep (hS.below hW) v b (hv.below hW (Nat.le_refl _))).mono ?_
    rintro e w' (⟨p, kind, l, hp, rfl, h⟩ | ⟨hn, rfl, h⟩)
    · exact .inl ⟨p, rfl, kind, l, hp, h⟩
    · exact .inr ⟨60, by decide, rfl, rfl, hn, h⟩
  · rintro e w' (⟨p, rfl, kind, l, hp, h⟩ | ⟨z, _, rfl, rfl, hn, h⟩)
    · exact .inl ⟨p, kind, l, hp, rfl, h⟩
    · exact .inr ⟨hn, rfl, h⟩
end
end Go.Proofs.Ytfcnkpofcekmgaa

-- espalierlaw08.value: the walk.
namespace Go.Proofs.Ytfcnkpofcekmgaa
open Go.RowKit
set_option maxRecDepth 20000 in
set_option maxHeartbeats 1000000 in
theorem value_sep {w0 w : World} {L : List Ent} (hS : Sep w0 w L) (key val : List UInt8) (hk : key.length ≤ 1000) (hl : val.length ≤ 1000) : Calls Try.prog 6 #[.string ⟨key.toArray⟩, .string ⟨val.toArray⟩] w fun e w' =>
    ∃ y : CV, e = .returned (cellV y) ∧ y.c = ⟨key, 1, val, 0, 0⟩ ∧ Sep w0 w' (bytesE y.kv y.c.key :: bytesE y.vv y.c.val :: L) := by
  have hS1 := hS.alloc 31 [.slice none 0 0, .int .i64 0, .slice none 0 0, .int .i64 0, .int .i64 0]
  clear hS
  go_enter Try.func6, Try.ntmps6
  go_upto_region 1 with (fail)
  generalize hW1 : w.alloc (.cells #[.slice none 0 0, .int .i64 0, .slice none 0 0, .int .i64 0, .int .i64 0] 31) = w1 at *
  generalize w.heap.size = g at *
  clear hW1
  have z1 : (⟨key.toArray⟩ : ByteArray).size = key.length := by simp [ByteArray.size]
  have z2 : (⟨val.toArray⟩ : ByteArray).size = val.length := by simp [ByteArray.size]
  obtain ⟨c2, w2, q2, ho2, hb2, -⟩ := run_string_B w1 ⟨key.toArray⟩ (by rw [z1]; simp only [maxLen]; omega)
  obtain ⟨c3, w3, q3, ho3, hb3, -⟩ := run_string_B w2 ⟨val.toArray⟩ (by rw [z2]; simp only [maxLen]; omega)
  rw [z1] at q2 ho2
  rw [z2] at q3 ho3
  have ho2 : OwB w2 w1.heap.size (.slice (some ⟨w1.heap.size, 0, none⟩) key.length c2) key := ho2
  have ho3 : OwB w3 w2.heap.size (.slice (some ⟨w2.heap.size, 0, none⟩) val.length c3) val := ho3
  have hS2 := hS1.bytes hb2 ho2 (Nat.le_refl _)
  have hS3 := (hS2.bytes hb3 ho3 (Nat.le_refl _)).sw2
  generalize w1.heap.size = g2 at *
  generalize w2.heap.size = g3 at *
  obtain ⟨y0, y1, y2, y3, y4⟩ := cells5 hS3.blk
  obtain ⟨f0, f1, f2, f3, f4⟩ := froz5 hS3.blk
  have HS := Lib.hid (hS3.set5 (.slice (some ⟨g2, 0, none⟩) key.length c2) (.int .i64 1) (.slice (some ⟨g3, 0, none⟩) val.length c3) (.int .i64 0) (.int .i64 0))
  clear hS1 hS2 hS3 ho2 ho3 hb2 hb3 z1 z2
  go_wp2_with fail
  obtain ⟨e0, e1, e2, e3, e4⟩ := cells5 HS.out.blk
  refine bodyPost_ret (v := .agg #[.slice (some ⟨g2, 0, none⟩) key.length c2, .int .i64 1, .slice (some ⟨g3, 0, none⟩) val.length c3, .int .i64 0, .int .i64 0]) ?_ rfl ?_
  · simp [results, Try.results6, go_sem, e0, e1, e2, e3, e4]
  · exact ⟨⟨.slice (some ⟨g2, 0, none⟩) key.length c2, .slice (some ⟨g3, 0, none⟩) val.length c3, ⟨key, 1, val, 0, 0⟩⟩, rfl, rfl, HS.out.tail.sw1⟩
end Go.Proofs.Ytfcnkpofcekmgaa

-- node.isPage, MostKey, MostValue: walks.
namespace Go.Proofs.Ytfcnkpofcekmgaa
open Go.RowKit
set_option maxRecDepth 20000 in
set_option maxHeartbeats 1000000 in
theorem NdIsPage_any (p : Int) (hp : -9223372036854775808 ≤ p ∧ p ≤ 9223372036854775807) (w : World) : Calls Try.prog 12 #[.int .i64 p] w fun e w' => e = .returned (.bool (isPowB p)) ∧ w = w' := by
  by_cases h1 : p < 512
  · have HV := Lib.hid (isPowB_out (.inl h1))
    go_enter Try.func12, Try.ntmps12
    go_wp2_with fail
    go_ret
    rw [HV.out]
    exact ⟨rfl, rfl⟩
  by_cases h2 : 65536 < p
  · have HV := Lib.hid (isPowB_out (.inr h2))
    go_enter Try.func12, Try.ntmps12
    go_wp2_with fail
    go_ret
    rw [HV.out]
    exact ⟨rfl, rfl⟩
  have hq := pow_eq p (by omega) (by omega)
  go_enter Try.func12, Try.ntmps12
  go_wp2_with fail
  go_ret
  exact ⟨rfl, rfl⟩
set_option maxRecDepth 20000 in
set_option maxHeartbeats 1000000 in
theorem NdMostKey_ok (P : Nat) (hp : isPowB (P : Int) = true) (w : World) : Calls Try.prog 8 #[.int .i64 (P : Int)] w fun e w' => e = .returned (.int .i64 ((P / 8 : Nat) : Int)) ∧ w = w' := by
  have hr := isPowB_range hp
  have hi := NdIsPage_any (P : Int) (by omega) w
  rw [hp] at hi
  have e1 : IntKind.i64.wrap ((P : Int) / 8) = (P : Int) / 8 := by rw [IntKind.wrap_i64]; omega
  have e2 : IntKind.i64.wrap ((P : Int) / 16) = (P : Int) / 16 := by rw [IntKind.wrap_i64]; omega
  have e3 : IntKind.i64.wrap ((P : Int) / 16 * 3) = (P : Int) / 16 * 3 := by rw [IntKind.wrap_i64]; omega
  clear hp
  go_enter Try.func8, Try.ntmps8
  go_wp2_with (first
    | (go_at_call 12; (with_reducible refine hi.mono ?_); rintro e w1 ⟨rfl, rfl⟩)
    | fail)
  go_ret
  exact ⟨rfl, rfl⟩
set_option maxRecDepth 20000 in
set_option maxHeartbeats 1000000 in
theorem NdMostKey_no (p : Int) (hr : -9223372036854775808 ≤ p ∧ p ≤ 9223372036854775807) (hp : isPowB p = false) (w : World) : Calls Try.prog 8 #[.int .i64 p] w fun e w' => e = .returned (.int .i64 0) ∧ w = w' := by
  have hi := NdIsPage_any p hr w
  rw [hp] at hi
  clear hp
  go_enter Try.func8, Try.ntmps8
  go_wp2_with (first
    | (go_at_call 12; (with_reducible refine hi.mono ?_); rintro e w1 ⟨rfl, rfl⟩)
    | fail)
  go_ret
  exact ⟨rfl, rfl⟩
set_option maxRecDepth 20000 in
set_option maxHeartbeats 1000000 in
theorem NdMostValue_ok (P : Nat) (hp : isPowB (P : Int) = true) (w : World) : Calls Try.prog 9 #[.int .i64 (P : Int)] w fun e w' => e = .returned (.int .i64 ((P / 16 * 3 : Nat) : Int)) ∧ w = w' := by
  have hr := isPowB_range hp
  have hi := NdIsPage_any (P : Int) (by omega) w
  rw [hp] at hi
  have e1 : IntKind.i64.wrap ((P : Int) / 8) = (P : Int) / 8 := by rw [IntKind.wrap_i64]; omega
  have e2 : IntKind.i64.wrap ((P : Int) / 16) = (P : Int) / 16 := by rw [IntKind.wrap_i64]; omega
  have e3 : IntKind.i64.wrap ((P : Int) / 16 * 3) = (P : Int) / 16 * 3 := by rw [IntKind.wrap_i64]; omega
  clear hp
  go_enter Try.func9, Try.ntmps9
  go_wp2_with (first
    | (go_at_call 12; (with_reducible refine hi.mono ?_); rintro e w1 ⟨rfl, rfl⟩)
    | fail)
  go_ret
  exact ⟨rfl, rfl⟩
set_option maxRecDepth 20000 in
set_option maxHeartbeats 1000000 in
theorem NdMostValue_no (p : Int) (hr : -9223372036854775808 ≤ p ∧ p ≤ 9223372036854775807) (hp : isPowB p = false) (w : World) : Calls Try.prog 9 #[.int .i64 p] w fun e w' => e = .returned (.int .i64 0) ∧ w = w' := by
  have hi := NdIsPage_any p hr w
  rw [hp] at hi
  clear hp
  go_enter Try.func9, Try.ntmps9
  go_wp2_with (first
    | (go_at_call 12; (with_reducible refine hi.mono ?_); rintro e w1 ⟨rfl, rfl⟩)
    | fail)
  go_ret
  exact ⟨rfl, rfl⟩
end Go.Proofs.Ytfcnkpofcekmgaa

-- Bytes made of a constant.
namespace Go.Proofs.Ytfcnkpofcekmgaa
open Go.RowKit
theorem conv_id (w : World) (C : Array Value) (n c g : Nat) (hg : g = w.heap.size) : (convert 29 29 (.slice (some ⟨g, 0, none⟩) n c)).run Try.prog (w.alloc (.cells C 5)) = .ok (.slice (some ⟨g, 0, none⟩) n c) (w.alloc (.cells C 5 (C.size, C.size + 1))) := by
  subst hg; exact Lib.run_convert_bytes_const w _ _ C n c Try.underlying29 Try.underlying5
theorem RdB.litm (w : World) (l : List UInt8) (cells : Array Value) (T : TypeId) (fr : Nat × Nat) (n : Nat) (h : cells = (bvs l).toArray) (hn : l.length = n) (hm : n ≤ maxLen) : RdB (w.alloc (.cells cells T fr)) (.slice (some ⟨w.heap.size, 0, none⟩) n n) l := by
  subst h; subst hn
  refine ⟨_, _, rfl, Nat.le_refl _, hm, fun j hj => ⟨_, rfl, ?_⟩⟩
  rw [add_row, Nat.zero_add, World.cell?_alloc_mark]
  have := bvs_get' l j hj
  simpa using this
end Go.Proofs.Ytfcnkpofcekmgaa

-- A piece: bytes of a block, as they are read.
namespace Go.Proofs.Ytfcnkpofcekmgaa
open Go.RowKit
/-- Bytes of a block, as they are read. -/
def litE (g n : Nat) (l : List UInt8) : Ent :=
  ⟨fun b => b = g, fun w => RdB w (.slice (some ⟨g, 0, none⟩) n n) l, fun {w w'} h k => by
    obtain ⟨A, c, hv, h1, h2, h3⟩ := k
    refine ⟨A, c, hv, h1, h2, fun j hj => ?_⟩
    obtain ⟨ad, hA, hc⟩ := h3 j hj
    refine ⟨ad, hA, ?_⟩
    obtain rfl : (⟨g, 0, none⟩ : Addr) = ad := by
      injection hv with hv1
      rw [← hv1] at hA
      injection hA
    rw [add_row] at hc ⊢
    rw [World.cell?_of_block (h g rfl)]
    exact hc⟩
theorem Sep.lit {w0 w : World} {L : List Ent} (h : Sep w0 w L) (l : List UInt8) (cells : Array Value) (T : TypeId) (fr : Nat × Nat) (n : Nat) (hc : cells = (bvs l).toArray) (hn : l.length = n) (hm : n ≤ maxLen) : Sep w0 (w.alloc (.cells cells T fr)) (litE w.heap.size n l :: L) :=
  h.new ((Below.refl _ _).alloc (Nat.le_refl _) _) (RdB.litm w l cells T fr n hc hn hm) (fun g hg => by have hg' : g = w.heap.size := hg; rw [World.size_alloc]; omega)
end Go.Proofs.Ytfcnkpofcekmgaa

-- espalierlaw08.awake: the walk.
namespace Go.Proofs.Ytfcnkpofcekmgaa
open Go.RowKit
theorem nodeT : Try.prog.underlying 24 = some (.interface (Try.prog.methodsAt 24)) := by kernel_rfl
theorem XIn.own {L : List Ent} {y : CV} (h1 : bytesE y.kv y.c.key ∈ L) (h2 : bytesE y.vv y.c.val ∈ L) (hr : RngY y.c) (s1 : y.c.key.length ≤ 140737488355328) (s2 : y.c.val.length ≤ 140737488355328) : XIn L y :=
  ⟨⟨_, h1, fun _ h => OwB.rd h⟩, ⟨_, h2, fun _ h => OwB.rd h⟩, hr.1, hr.2.1, hr.2.2, s1, s2⟩
theorem nA_r : RngY nA := by refine ⟨?_, ?_, ?_⟩ <;> (show _ ≤ _ ∧ _ ≤ _; simp only [nA]; omega)
theorem nB_r : RngY nB := by refine ⟨?_, ?_, ?_⟩ <;> (show _ ≤ _ ∧ _ ≤ _; simp only [nB]; omega)
section
variable {w0 w : World} {L : List Ent} {p q : Nat}
theorem aw_ins {s : KP} {y : CV} {c : PC} (hP : NdP1 w0 w L p 512 2 s) (hI : NdI1 2 512 s) (hy : y.c = c) (h1 : bytesE y.kv y.c.key ∈ L) (h2 : bytesE y.vv y.c.val ∈ L) (hr : RngY c) (s1 : c.key.length ≤ 10) (s2 : c.val.length ≤ 10) (hz : insZ1 2 512 s 0 0 c = 0) :
    Calls Try.prog 84 #[.pointer (some ⟨p, 0, none⟩), .int .i64 0, cellV y] w fun e w' => e = .returned (.int .i64 0) ∧ NdP1 w0 w' L p 512 2 (insS1 2 512 s 0 0 c) := by
  subst hy
  have h := NdIns1 hP hI (.inl rfl) (by omega) y (XIn.own h1 h2 hr (by omega) (by omega)) 0 (by unfold i64r; omega)
  rw [hz] at h
  exact h
theorem aw_ins2 {y : CV} {c : PC} (hP : NdP2 w0 w L p 512 2 n0) (hy : y.c = c) (h1 : bytesE y.kv y.c.key ∈ L) (h2 : bytesE y.vv y.c.val ∈ L) (hr : RngY c) (s1 : c.key.length ≤ 10) (s2 : c.val.length ≤ 10) (hz : insZ2 2 512 n0 0 0 c = 0) :
    Calls Try.prog 101 #[.pointer (some ⟨p, 0, none⟩), .int .i64 0, cellV y] w fun e w' => e = .returned (.int .i64 0) ∧ NdP2 w0 w' L p 512 2 (insS2 2 512 n0 0 0 c) := by
  subst hy
  have h := NdIns2 hP nd_I2 (.inl rfl) (by omega) y (XIn.own h1 h2 hr (by omega) (by omega)) 0 (by unfold i64r; omega)
  rw [hz] at h
  exact h
end
theorem aw_open {w0 w : World} {L : List Ent} {v : Value} {s : KP} (hS : Sep w0 w (bytesE v (laidF 2 s.l 512) :: L)) (hI : NdI1 2 512 s) :
    Calls Try.prog 7 #[v] w fun e w' => ∃ p, e = .returned (.tuple #[ndV1 p, .int .i64 0]) ∧ NdP1 w0 w' (bytesE v (laidF 2 s.l 512) :: L) p 512 2 ⟨s.l, [], 0⟩ := by
  have hll : (laidF 2 s.l 512).length = 512 := laidF_length hI.size
  have ho : OwB w 0 v (laidF 2 s.l 512) := hS.head
  have hpl : isPln (laidF 2 s.l 512) 2 s.l := ⟨by rw [hll]; decide, by decide, by rw [hll]; exact Wk.enc hI, by rw [hll]⟩
  have he : egB (laidF 2 s.l 512) = 1 := by
    unfold egB
    have h : (laidF 2 s.l 512).getD 1 0 = 1 := by unfold laidF preF; rfl
    rw [h]; rfl
  refine (NdOpn1 hS ho.rd (by omega) he).mono ?_
  rintro e w' (⟨p, kind, l, hp, rfl, hN⟩ | ⟨hn, -, -⟩)
  · obtain ⟨h1, h2⟩ := isPln_parse hp
    obtain ⟨h3, h4⟩ := isPln_parse hpl
    rw [h1] at h3
    injection h3 with h3
    subst h3
    rw [h4] at h2
    subst h2
    rw [hll] at hN
    exact ⟨p, rfl, hN⟩
  · exact absurd hpl (hn _ _)
theorem NdP1.drop2 {w0 w : World} {a b c d : Ent} {p P : Nat} {kind : Int} {s : KP} (h : NdP1 w0 w ([a, b, c] ++ [d]) p P kind s) : NdP1 w0 w (c :: [d]) p P kind s := by
  obtain ⟨E, hS, B⟩ := h.sep
  exact B _ _ (Sep.pick (L := [_, _, _, _]) [0, 3] (by decide) rfl hS)
theorem NdP1.drop2' {w0 w : World} {a b c d : Ent} {p P : Nat} {kind : Int} {s : KP} (h : NdP1 w0 w ([a, b] ++ [c, d]) p P kind s) : NdP1 w0 w (c :: [d]) p P kind s := by
  obtain ⟨E, hS, B⟩ := h.sep
  exact B _ _ (Sep.pick (L := [_, _, _, _]) [0, 3] (by decide) rfl hS)
theorem NdP2.drop2 {w0 w : World} {a b c d : Ent} {p P : Nat} {kind : Int} {s : KP} (h : NdP2 w0 w ([a, b, c] ++ [d]) p P kind s) : NdP2 w0 w (c :: [d]) p P kind s := by
  obtain ⟨E, hS, B⟩ := NdP2.sep h
  exact B _ _ (Sep.pick (L := [_, _, _, _]) [0, 3] (by decide) rfl hS)
set_option maxRecDepth 100000 in
set_option maxHeartbeats 8000000 in
theorem nawake_any (w : World) : Calls Try.prog 4 #[] w fun e w' => e = .returned (.bool true) ∧ Below w.heap.size w w' := by
  have kc := fun (w : World) (C : Array Value) (n c g : Nat) (hg : g = w.heap.size) => conv_id w C n c g hg
  have hmf : ∀ (fn : Fn) (first cap : Array Value) (w : World), (Instr.makeFunc fn first cap).run Try.prog w = .ok (.func fn first cap) w := fun _ _ _ _ => rfl
  have i1 := im1_insert
  have i2 := im1_nil
  have i3 := im1_find
  have i4 := im1_bytes
  have i5 := im1_used
  have i6 := im1_len
  have i7 := im2_insert
  have i8 := im2_nil
  have i9 := im2_len
  go_enter Try.func4, Try.ntmps4
  go_upto_region 2 with (first
    | (go_at_call 5; (with_reducible refine (NdNew_no 3 2 512 (by decide) (by decide) _).mono ?_); rintro e w1 ⟨rfl, hw1⟩)
    | fail)
  have hn1 := NdNewOk1 (kind := 2) (P := 512) ((Sep.start w).below hw1) (by decide) (by decide)
  rw [show ((512 : Nat) : Int) = 512 from rfl] at hn1
  go_upto_region 3 with (first
    | (go_at_call 5; (with_reducible refine hn1.mono ?_); rintro e w2 ⟨p, rfl, hP⟩)
    | fail)
  obtain ⟨E1, hS2, B1⟩ := hP.sep
  have hn2 := NdNewOk2 (kind := 2) (P := 512) hS2 (by decide) (by decide)
  rw [show ((512 : Nat) : Int) = 512 from rfl] at hn2
  clear hn1 hP hw1
  go_upto_region 4 with (first
    | (go_at_call 5; (with_reducible refine hn2.mono ?_); rintro e w3 ⟨q, rfl, hQ⟩)
    | fail)
  obtain ⟨E2, hS3, B2⟩ := hQ.sep
  have hv := value_sep hS3.drew [98] [120] (by simp) (by simp)
  have hI1 := fun (W : World) (y : CV) (hy : y.c = nB) (h : Sep w W (bytesE y.kv y.c.key :: bytesE y.vv y.c.val :: E2 :: [E1, oldE w])) => aw_ins (s := n0) (B1 _ _ (h.sw [_, _, _])) nd_I1 hy (by simp) (by simp) nB_r (by decide) (by decide) nd_z1
  have HI1 := Lib.hid hI1
  have hI2 := fun (W : World) (M : List Ent) (y : CV) (hy : y.c = nA) (h1 : bytesE y.kv y.c.key ∈ M) (h2 : bytesE y.vv y.c.val ∈ M) (h : Sep w W (E2 :: M)) => aw_ins2 (B2 _ _ h) hy h1 h2 nA_r (by decide) (by decide) nd_k1
  have HI2 := Lib.hid hI2
  clear hI1 hI2
  clear hn2 hQ hS2 B1 B2
  go_upto_region 6 with (fail)
  go_cut [7] (fun z wx => z = .int .i64 0 ∧ NdP1 w wx (E2 :: [oldE w]) p 512 2 (insS1 2 512 n0 0 0 nB))
  case first =>
    go_region_held3 (fun _ => True) (exact trivial) (first
      | (go_at_call 6; (with_reducible refine hv.mono ?_); rintro e w4 ⟨y, rfl, hy0, hS4⟩; have hy : y.c = nB := hy0)
      | (go_at_call 84; (with_reducible refine (HI1.out _ y hy hS4).mono ?_); rintro e w5 ⟨rfl, hP5⟩; have hP6 := NdP1.drop2 hP5)
      | fail)
    all_goals
      go_wp2_with fail
      go_meet
      exact ⟨rfl, hP6⟩
  case rest =>
  obtain ⟨rfl, hP5⟩ := hcut
  obtain ⟨E3, hS5, B3⟩ := hP5.sep
  have hv := value_sep hS5.drew [97] [121] (by simp) (by simp)
  have hI3 := fun (W : World) (y : CV) (hy : y.c = nA) (h : Sep w W (bytesE y.kv y.c.key :: bytesE y.vv y.c.val :: E3 :: [E2, oldE w])) => aw_ins (s := insS1 2 512 n0 0 0 nB) (B3 _ _ (h.sw [_, _])) (nd_I1.ins 0 (by omega) nB) hy (by simp) (by simp) nA_r (by decide) (by decide) nd_z2
  have HI3 := Lib.hid hI3
  clear hP5 B3 HI1 hS3 hI3
  go_upto_region 7 with (fail)
  go_cut [8] (fun z wx => z = .int .i64 0 ∧ NdP1 w wx (E2 :: [oldE w]) p 512 2 (insS1 2 512 (insS1 2 512 n0 0 0 nB) 0 0 nA))
  case first =>
    go_region_held3 (fun _ => True) (exact trivial) (first
      | (go_at_call 6; (with_reducible refine hv.mono ?_); rintro e w6 ⟨y2, rfl, hy0, hS7⟩; have hy2 : y2.c = nA := hy0)
      | (go_at_call 84; (with_reducible refine (HI3.out _ y2 hy2 hS7).mono ?_); rintro e w7 ⟨rfl, hP7⟩; have hP8 := NdP1.drop2' hP7)
      | fail)
    all_goals
      go_wp2_with fail
      go_meet
      exact ⟨rfl, hP8⟩
  case rest =>
  obtain ⟨rfl, hP7⟩ := hcut
  have hI7 : NdI1 2 512 (insS1 2 512 (insS1 2 512 n0 0 0 nB) 0 0 nA) := (nd_I1.ins 0 (by omega) nB).ins 0 (by omega) nA
  have hl7 := nd_s2
  have hu7 := nd_usd
  generalize insS1 2 512 (insS1 2 512 n0 0 0 nB) 0 0 nA = s2 at *
  obtain ⟨E4, hS9, B4⟩ := hP7.sep
  have HB4 := Lib.hid B4
  have HI7 := Lib.hid hI7
  have HL7 := Lib.hid hl7
  have HU7 := Lib.hid hu7
  have hS10 := hS9.lit [98] #[.int .u8 98] 5 (1, 2) 1 rfl rfl (by decide)
  have hfi := NdFnd1 (B4 _ _ (hS10.sw1)) hI7 (by omega) (.slice (some ⟨wc.heap.size, 0, none⟩) 1 1) [98] (show RdB _ _ _ from hS10.head)
  rw [hl7, nd_find.1, nd_find.2, show ((1 : Nat) : Int) = 1 from rfl] at hfi
  clear hP7 hS9 B4 HI3 hv hS5 hI7 hl7 hu7
  go_upto_region 9 with (first
    | (go_at_call 83; (with_reducible refine hfi.mono ?_); rintro e w8 ⟨rfl, hw8⟩)
    | fail)
  have hS11 := (hS10.below hw8).tail
  have hv := value_sep hS11.drew [97] [121] (by simp) (by simp)
  clear hS10 hfi hw8
  go_upto_region 9 with (fail)
  go_cut [11] (fun z wx => z = .int .i64 0 ∧ NdP2 w wx (E4 :: [oldE w]) q 512 2 (insS2 2 512 n0 0 0 nA))
  case first =>
    go_region_held3 (fun _ => True) (exact trivial) (first
      | (go_at_call 6; (with_reducible refine hv.mono ?_); rintro e w9 ⟨y3, rfl, hy0, hS12⟩; have hy3 : y3.c = nA := hy0)
      | (go_at_call 101; (with_reducible refine (HI2.out _ _ y3 hy3 (by simp) (by simp) (hS12.sw [_, _, _])).mono ?_); rintro e w10 ⟨rfl, hQ10⟩; have hQ11 := NdP2.drop2 hQ10)
      | fail)
    all_goals
      go_wp2_with fail
      go_meet
      exact ⟨rfl, hQ11⟩
  case rest =>
  obtain ⟨rfl, hQ10⟩ := hcut
  obtain ⟨E5, hS13, B5⟩ := hQ10.sep
  have HB5 := Lib.hid B5
  have hby := NdByt1 (HB4.out _ _ hS13.sw1) HI7.out (by decide) (by decide)
  clear hv hS11 hQ10 B5 HI2 hS13
  go_upto_region 11 with (first
    | (go_at_call 81; (with_reducible refine hby.mono ?_); rintro e w11 ⟨bv, rfl, hP11⟩; obtain ⟨E6, hS14, B6⟩ := hP11.sep)
    | (go_at_call 7; (with_reducible refine (aw_open (hS14.sw1) HI7.out).mono ?_); rintro e w12 ⟨o, rfl, hO12⟩)
    | fail)
  obtain ⟨E7, hS15, B7⟩ := hO12.sep
  have hS16 : Sep w w12 (E7 :: E6 :: E5 :: [oldE w]) := Sep.pick (L := [_, _, _, _, _]) [0, 2, 3, 4] (by decide) rfl hS15
  have hus := NdUsd1 (B6 _ _ hS16.sw1)
  have hl1 := NdLen1 (B7 _ _ hS16)
  have hl2 := NdLen2 (HB5.out _ _ hS16.sw2)
  rw [HU7.out, show ((26 : Nat) : Int) = 26 from rfl] at hus
  rw [HL7.out, show (([nA, nB] : List PC).length : Int) = 2 from rfl] at hl1
  rw [nd_kl, show ((1 : Nat) : Int) = 1 from rfl] at hl2
  have hmk := fun W => NdMostKey_ok 512 (by decide) W
  have hmv := fun W => NdMostValue_ok 512 (by decide) W
  rw [show ((512 : Nat) : Int) = 512 from rfl, show ((512 / 8 : Nat) : Int) = 64 from rfl] at hmk
  rw [show ((512 : Nat) : Int) = 512 from rfl, show ((512 / 16 * 3 : Nat) : Int) = 96 from rfl] at hmv
  have hB := hS16.belowOld (v := w) (by simp)
  clear hby hP11 hS14 B6 hO12 hS15 B7 hS16 HB4 HB5 HL7 HU7 HI7
  go_wp2_with (first
    | (go_at_call 89; (with_reducible refine hus.mono ?_); rintro e w13 ⟨rfl, rfl⟩)
    | (go_at_call 86; (with_reducible refine hl1.mono ?_); rintro e w13 ⟨rfl, rfl⟩)
    | (go_at_call 103; (with_reducible refine hl2.mono ?_); rintro e w13 ⟨rfl, rfl⟩)
    | (go_at_call 8; (with_reducible refine (hmk _).mono ?_); rintro e w13 ⟨rfl, rfl⟩)
    | (go_at_call 9; (with_reducible refine (hmv _).mono ?_); rintro e w13 ⟨rfl, rfl⟩)
    | fail)
  go_ret
  exact ⟨rfl, hB⟩
end Go.Proofs.Ytfcnkpofcekmgaa

-- espalierlaw08.NodeNames: the walk.
namespace Go.Proofs.Ytfcnkpofcekmgaa
open Go.RowKit
set_option maxRecDepth 20000 in
set_option maxHeartbeats 1000000 in
theorem nnames_any (w : World) : Calls Try.prog 3 #[] w fun e w' => e = .returned (.bool true) ∧ Below w.heap.size w w' := by
  go_enter Try.func3, Try.ntmps3
  go_wp2_with (first
    | (go_at_call 4; (with_reducible refine (nawake_any _).mono ?_); rintro e w1 ⟨rfl, hw1⟩)
    | fail)
  go_ret
  exact ⟨rfl, hw1⟩
end Go.Proofs.Ytfcnkpofcekmgaa

-- The row's last step from 'Below' alone (the guide's small lemma 9).
namespace Go.Proofs.Ytfcnkpofcekmgaa
open Go.RowKit Go.WideShapes Go.ChangeShapes
section
variable {H : Type} {enc : TypeId × Value → H} {P : Program}
theorem post_of_below {f : Func} {s : ChangeSpec} {apart fresh handsOn again : Bool} {W W' : World} {args : Array Value} {v : Value} {ds gs : List (DataW H)} {before pa pv : List MemPlace}
    (hW : DataW.Whole enc P f.params.toList s.vars apart W args.toList ds gs before)
    (hres : ∀ (b : Nat) (sp : Nat → Bool) (hd : Bool), DataW.TrodAll enc P W' b sp hd f.resultTypes.toList (v.resultList f.resultTypes.size) (s.fn H (ds ++ gs)).results [])
    (hargs : ∀ sp : Nat → Bool, (∀ p ∈ before, sp p.block = true) → DataW.TrodAll enc P W' 0 sp true f.params.toList args.toList (s.fn H (ds ++ gs)).args pa)
    (hvars : ∀ sp : Nat → Bool, (∀ p ∈ before, sp p.block = true) → DataW.TrodVars enc P W' sp s.vars (s.fn H (ds ++ gs)).vars pv)
    (hps : before = pa ++ pv) (hb : Below W.heap.size W W')
    (hok : ∀ (j : Nat) (t : TypeId) (r : Value), f.resultTypes[j]? = some t → (v.resultList f.resultTypes.size)[j]? = some r → Value.okWide P W' .any 0 t r) :
    s.post enc P f apart fresh handsOn again W args v W' := by
  have hlt : ∀ p ∈ before, p.block < W.heap.size := fun p hp => hW.lt p hp
  have hold : ∀ p ∈ before, (fun b => decide (b < W.heap.size)) p.block = true := fun p hp => by simpa using hlt p hp
  refine ⟨ds, gs, before, [], pa, pv, hW, hres _ _ _, hargs _ hold, hvars _ hold, World.keptBut_mono (fun p hp => ⟨hp, ?_⟩) (hb.frame (· ∈ before)), fun _ => ?_⟩
  · rw [hps, List.mem_append] at hp
    exact Or.inr hp
  · obtain ⟨_, _, _, _, _, hz, hn⟩ := hW
    refine ⟨hok, _, _, ([] ++ pa) ++ pv, ⟨[] ++ pa, pv, trodAll_append (hargs _ (fun _ _ => rfl)) (hres _ _ _), hvars _ (fun _ _ => rfl), rfl, ?_, ?_⟩, ?_⟩
    · intro b off hp
      have hin : MemPlace.cell b off ∈ before := by rw [hps]; simpa using hp
      rw [hb.frozen (hlt _ hin)]
      exact hz b off hin
    · intro ha
      have := hn ha
      rw [hps] at this
      simpa using this
    · intro p hp _
      rw [hps]
      simpa using hp
end
end Go.Proofs.Ytfcnkpofcekmgaa
