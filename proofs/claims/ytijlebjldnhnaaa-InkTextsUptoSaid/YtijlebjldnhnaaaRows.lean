/-
  No cell of these rows narrows 'for every input' (looked for: loops, veiled, ifaces, maps, wideKeys, modest, calm, conditions, laid).
  DERIVED. THE GIVEN ROWS OF THIS SEAT. 10 by the template 'for every input the law returns true; each argument reads behind the call as it read before'; 0 by the template 'total and deterministic' (their statements: YtijlebjldnhnaaaTotals.lean).
  GIVEN WITH THE SEED: the statements are not yours to turn. If you find one false, say at which input.
  Laid BY PROGRAM, IN A SANDBOX (cutbox-rows.mjs): the forced cells as the released guide's own fill.sh prints them over the translation 0feb2fd5258a5e68… (all of the seat's roots in one cut). By AI agents, Wed Nov 11 2026. No macro, syntax, notation, axiom, sorry.
-/
import Derived.Test.YtijlebjldnhnaaaChecked
import GoSem.Claim
import GoSem.ClaimJoined
import GoSem.ClaimMapViews
import Derived.JoinedTies
import Derived.KernelRfl
namespace Go.Proofs.Ytijlebjldnhnaaa
/- THE CELL 'sum', in the pinned program and in every row, IS THE sha256 OF THE DUMP (.gsa) THAT YtijlebjldnhnaaaProg.lean LOADS. Nothing in Lean hashes anything: it is a label: what it is worth is what the hold of that sum in a sandbox is worth. -/
noncomputable def Try.pinned : Pinned := { name := "ytijlebjldnhnaaa", sum := "0feb2fd5258a5e68e616fbb6f089526856aceb1ce0f1ad3e416c7d271c55db8c", checked := Try.checked }
namespace Rows
def none {H : Type} : Left H := { results := [], args := [] }

/-- 'espalierlaw01.InkNumbers': WHATEVER THE INPUT: true; the input reads as it did. -/
def inkNumbersSpec : ChangeSpec := { name := "inkNumbers", fn := fun _ => fun
  | [] => { results := [.lit (.bool true)], args := [] }
  | _ => none }
def inkNumbersRow : OpenClaim := { program := "ytijlebjldnhnaaa", sum := "0feb2fd5258a5e68e616fbb6f089526856aceb1ce0f1ad3e416c7d271c55db8c", func := "espalier/espalierlaw01.InkNumbers", spec := "inkNumbers", inPlace := ["internal/bytealg.Count", "internal/bytealg.IndexByte", "internal/bytealg.Index", "internal/bytealg.Compare"], named := ["internal/bytealg.MaxLen"], apart := false }
def InkNumbersSaid : Prop := inkNumbersRow.holds Try.pinned (OpenSpec.ofChange inkNumbersSpec)

/-- ITS FALSE NEIGHBOUR: 'it returns false'. Refute it at one input. -/
def inkNumbersWrong : ChangeSpec := { name := "inkNumbers", fn := fun _ => fun
  | [] => { results := [.lit (.bool false)], args := [] }
  | _ => none }
def InkNumbersWrongFalsely : Prop := inkNumbersRow.holds Try.pinned (OpenSpec.ofChange inkNumbersWrong)

/-- 'espalierlaw01.InkWrites': WHATEVER THE INPUT: true; the input reads as it did. -/
def inkWritesSpec : ChangeSpec := { name := "inkWrites", fn := fun _ => fun
  | [d1, d2, d3] => { results := [.lit (.bool true)], args := [d1, d2, d3] }
  | _ => none }
def inkWritesRow : OpenClaim := { program := "ytijlebjldnhnaaa", sum := "0feb2fd5258a5e68e616fbb6f089526856aceb1ce0f1ad3e416c7d271c55db8c", func := "espalier/espalierlaw01.InkWrites", spec := "inkWrites", inPlace := ["internal/bytealg.Count", "internal/bytealg.IndexByte", "internal/bytealg.Index", "internal/bytealg.Compare"], named := ["internal/bytealg.MaxLen"], apart := false }
def InkWritesSaid : Prop := inkWritesRow.holds Try.pinned (OpenSpec.ofChange inkWritesSpec)

/-- ITS FALSE NEIGHBOUR: 'it returns false'. Refute it at one input. -/
def inkWritesWrong : ChangeSpec := { name := "inkWrites", fn := fun _ => fun
  | [d1, d2, d3] => { results := [.lit (.bool false)], args := [d1, d2, d3] }
  | _ => none }
def InkWritesWrongFalsely : Prop := inkWritesRow.holds Try.pinned (OpenSpec.ofChange inkWritesWrong)

/-- 'espalierlaw01.InkReads': WHATEVER THE INPUT: true; the input reads as it did. -/
def inkReadsSpec : ChangeSpec := { name := "inkReads", fn := fun _ => fun
  | [d1, d2, d3] => { results := [.lit (.bool true)], args := [d1, d2, d3] }
  | _ => none }
def inkReadsRow : OpenClaim := { program := "ytijlebjldnhnaaa", sum := "0feb2fd5258a5e68e616fbb6f089526856aceb1ce0f1ad3e416c7d271c55db8c", func := "espalier/espalierlaw01.InkReads", spec := "inkReads", inPlace := ["internal/bytealg.Count", "internal/bytealg.IndexByte", "internal/bytealg.Index", "internal/bytealg.Compare"], named := ["internal/bytealg.MaxLen"], apart := false }
def InkReadsSaid : Prop := inkReadsRow.holds Try.pinned (OpenSpec.ofChange inkReadsSpec)

/-- ITS FALSE NEIGHBOUR: 'it returns false'. Refute it at one input. -/
def inkReadsWrong : ChangeSpec := { name := "inkReads", fn := fun _ => fun
  | [d1, d2, d3] => { results := [.lit (.bool false)], args := [d1, d2, d3] }
  | _ => none }
def InkReadsWrongFalsely : Prop := inkReadsRow.holds Try.pinned (OpenSpec.ofChange inkReadsWrong)

/-- 'espalierlaw01.InkBack': WHATEVER THE INPUT: true; the input reads as it did. -/
def inkBackSpec : ChangeSpec := { name := "inkBack", fn := fun _ => fun
  | [d1, d2, d3, d4, d5] => { results := [.lit (.bool true)], args := [d1, d2, d3, d4, d5] }
  | _ => none }
def inkBackRow : OpenClaim := { program := "ytijlebjldnhnaaa", sum := "0feb2fd5258a5e68e616fbb6f089526856aceb1ce0f1ad3e416c7d271c55db8c", func := "espalier/espalierlaw01.InkBack", spec := "inkBack", inPlace := ["internal/bytealg.Count", "internal/bytealg.IndexByte", "internal/bytealg.Index", "internal/bytealg.Compare"], named := ["internal/bytealg.MaxLen"], apart := false }
def InkBackSaid : Prop := inkBackRow.holds Try.pinned (OpenSpec.ofChange inkBackSpec)

/-- ITS FALSE NEIGHBOUR: 'it returns false'. Refute it at one input. -/
def inkBackWrong : ChangeSpec := { name := "inkBack", fn := fun _ => fun
  | [d1, d2, d3, d4, d5] => { results := [.lit (.bool false)], args := [d1, d2, d3, d4, d5] }
  | _ => none }
def InkBackWrongFalsely : Prop := inkBackRow.holds Try.pinned (OpenSpec.ofChange inkBackWrong)

/-- 'espalierlaw01.InkOne': WHATEVER THE INPUT: true; the input reads as it did. -/
def inkOneSpec : ChangeSpec := { name := "inkOne", fn := fun _ => fun
  | [d] => { results := [.lit (.bool true)], args := [d] }
  | _ => none }
def inkOneRow : OpenClaim := { program := "ytijlebjldnhnaaa", sum := "0feb2fd5258a5e68e616fbb6f089526856aceb1ce0f1ad3e416c7d271c55db8c", func := "espalier/espalierlaw01.InkOne", spec := "inkOne", inPlace := ["internal/bytealg.Count", "internal/bytealg.IndexByte", "internal/bytealg.Index", "internal/bytealg.Compare"], named := ["internal/bytealg.MaxLen"], apart := false }
def InkOneSaid : Prop := inkOneRow.holds Try.pinned (OpenSpec.ofChange inkOneSpec)

/-- ITS FALSE NEIGHBOUR: 'it returns false'. Refute it at one input. -/
def inkOneWrong : ChangeSpec := { name := "inkOne", fn := fun _ => fun
  | [d] => { results := [.lit (.bool false)], args := [d] }
  | _ => none }
def InkOneWrongFalsely : Prop := inkOneRow.holds Try.pinned (OpenSpec.ofChange inkOneWrong)

/-- 'espalierlaw01.InkOrder': WHATEVER THE INPUT: true; the input reads as it did. -/
def inkOrderSpec : ChangeSpec := { name := "inkOrder", fn := fun _ => fun
  | [d1, d2, d3, d4] => { results := [.lit (.bool true)], args := [d1, d2, d3, d4] }
  | _ => none }
def inkOrderRow : OpenClaim := { program := "ytijlebjldnhnaaa", sum := "0feb2fd5258a5e68e616fbb6f089526856aceb1ce0f1ad3e416c7d271c55db8c", func := "espalier/espalierlaw01.InkOrder", spec := "inkOrder", inPlace := ["internal/bytealg.Count", "internal/bytealg.IndexByte", "internal/bytealg.Index", "internal/bytealg.Compare"], named := ["internal/bytealg.MaxLen"], apart := false }
def InkOrderSaid : Prop := inkOrderRow.holds Try.pinned (OpenSpec.ofChange inkOrderSpec)

/-- ITS FALSE NEIGHBOUR: 'it returns false'. Refute it at one input. -/
def inkOrderWrong : ChangeSpec := { name := "inkOrder", fn := fun _ => fun
  | [d1, d2, d3, d4] => { results := [.lit (.bool false)], args := [d1, d2, d3, d4] }
  | _ => none }
def InkOrderWrongFalsely : Prop := inkOrderRow.holds Try.pinned (OpenSpec.ofChange inkOrderWrong)

/-- 'espalierlaw01.InkTexts': WHATEVER THE INPUT: true; the input reads as it did. -/
def inkTextsSpec : ChangeSpec := { name := "inkTexts", fn := fun _ => fun
  | [d1, d2, d3] => { results := [.lit (.bool true)], args := [d1, d2, d3] }
  | _ => none }
def inkTextsRow : OpenClaim := { program := "ytijlebjldnhnaaa", sum := "0feb2fd5258a5e68e616fbb6f089526856aceb1ce0f1ad3e416c7d271c55db8c", func := "espalier/espalierlaw01.InkTexts", spec := "inkTexts", inPlace := ["internal/bytealg.Count", "internal/bytealg.IndexByte", "internal/bytealg.Index", "internal/bytealg.Compare"], named := ["internal/bytealg.MaxLen"], apart := false }
def InkTextsSaid : Prop := inkTextsRow.holds Try.pinned (OpenSpec.ofChange inkTextsSpec)

/-- ITS FALSE NEIGHBOUR: 'it returns false'. Refute it at one input. -/
def inkTextsWrong : ChangeSpec := { name := "inkTexts", fn := fun _ => fun
  | [d1, d2, d3] => { results := [.lit (.bool false)], args := [d1, d2, d3] }
  | _ => none }
def InkTextsWrongFalsely : Prop := inkTextsRow.holds Try.pinned (OpenSpec.ofChange inkTextsWrong)

/-- 'espalierlaw01.InkBetween': WHATEVER THE INPUT: true; the input reads as it did. -/
def inkBetweenSpec : ChangeSpec := { name := "inkBetween", fn := fun _ => fun
  | [d1, d2, d3] => { results := [.lit (.bool true)], args := [d1, d2, d3] }
  | _ => none }
def inkBetweenRow : OpenClaim := { program := "ytijlebjldnhnaaa", sum := "0feb2fd5258a5e68e616fbb6f089526856aceb1ce0f1ad3e416c7d271c55db8c", func := "espalier/espalierlaw01.InkBetween", spec := "inkBetween", inPlace := ["internal/bytealg.Count", "internal/bytealg.IndexByte", "internal/bytealg.Index", "internal/bytealg.Compare"], named := ["internal/bytealg.MaxLen"], apart := false }
def InkBetweenSaid : Prop := inkBetweenRow.holds Try.pinned (OpenSpec.ofChange inkBetweenSpec)

/-- ITS FALSE NEIGHBOUR: 'it returns false'. Refute it at one input. -/
def inkBetweenWrong : ChangeSpec := { name := "inkBetween", fn := fun _ => fun
  | [d1, d2, d3] => { results := [.lit (.bool false)], args := [d1, d2, d3] }
  | _ => none }
def InkBetweenWrongFalsely : Prop := inkBetweenRow.holds Try.pinned (OpenSpec.ofChange inkBetweenWrong)

/-- 'espalierlaw01.InkSums': WHATEVER THE INPUT: true; the input reads as it did. -/
def inkSumsSpec : ChangeSpec := { name := "inkSums", fn := fun _ => fun
  | [d] => { results := [.lit (.bool true)], args := [d] }
  | _ => none }
def inkSumsRow : OpenClaim := { program := "ytijlebjldnhnaaa", sum := "0feb2fd5258a5e68e616fbb6f089526856aceb1ce0f1ad3e416c7d271c55db8c", func := "espalier/espalierlaw01.InkSums", spec := "inkSums", inPlace := ["internal/bytealg.Count", "internal/bytealg.IndexByte", "internal/bytealg.Index", "internal/bytealg.Compare"], named := ["internal/bytealg.MaxLen"], apart := false }
def InkSumsSaid : Prop := inkSumsRow.holds Try.pinned (OpenSpec.ofChange inkSumsSpec)

/-- ITS FALSE NEIGHBOUR: 'it returns false'. Refute it at one input. -/
def inkSumsWrong : ChangeSpec := { name := "inkSums", fn := fun _ => fun
  | [d] => { results := [.lit (.bool false)], args := [d] }
  | _ => none }
def InkSumsWrongFalsely : Prop := inkSumsRow.holds Try.pinned (OpenSpec.ofChange inkSumsWrong)

/-- 'espalierlaw01.InkTurned': WHATEVER THE INPUT: true; the input reads as it did. -/
def inkTurnedSpec : ChangeSpec := { name := "inkTurned", fn := fun _ => fun
  | [d1, d2, d3] => { results := [.lit (.bool true)], args := [d1, d2, d3] }
  | _ => none }
def inkTurnedRow : OpenClaim := { program := "ytijlebjldnhnaaa", sum := "0feb2fd5258a5e68e616fbb6f089526856aceb1ce0f1ad3e416c7d271c55db8c", func := "espalier/espalierlaw01.InkTurned", spec := "inkTurned", inPlace := ["internal/bytealg.Count", "internal/bytealg.IndexByte", "internal/bytealg.Index", "internal/bytealg.Compare"], named := ["internal/bytealg.MaxLen"], apart := false }
def InkTurnedSaid : Prop := inkTurnedRow.holds Try.pinned (OpenSpec.ofChange inkTurnedSpec)

/-- ITS FALSE NEIGHBOUR: 'it returns false'. Refute it at one input. -/
def inkTurnedWrong : ChangeSpec := { name := "inkTurned", fn := fun _ => fun
  | [d1, d2, d3] => { results := [.lit (.bool false)], args := [d1, d2, d3] }
  | _ => none }
def InkTurnedWrongFalsely : Prop := inkTurnedRow.holds Try.pinned (OpenSpec.ofChange inkTurnedWrong)

/- THE SECOND FORM. 'bulk': how many values and letters a reading holds, each counted each time it is reached (what is shared counts as often as it is met; a slice's spare places count too). A statement '..UptoSaid' is the law's where the arguments, and the package variables that the reading takes, are together of bulk at most 1048576: NARROWER than '..Said'. Prove '..Said' where nothing that the law and all that it calls make is longer than what came in: it says more and counts as full. Else prove '..UptoSaid'. A law counts once. -/
mutual
def uptoBulk {H : Type} : DataW H → Nat
  | .lit (.string bytes) => bytes.length + 1
  | .lit _ => 1
  | .nil => 1
  | .ptr d => uptoBulk d + 1
  | .slice elems spare => uptoBulkAll elems + uptoBulkAll spare + 1
  | .agg parts => uptoBulkAll parts + 1
  | .iface _ d => uptoBulk d + 1
  | .map entries => uptoBulkEntries entries + 1
  | .held _ => 1
def uptoBulkAll {H : Type} : List (DataW H) → Nat
  | [] => 0
  | d :: r => uptoBulk d + uptoBulkAll r
def uptoBulkEntries {H : Type} : List (Lit × DataW H) → Nat
  | [] => 0
  | x :: r => uptoBulkEntry x + uptoBulkEntries r
def uptoBulkEntry {H : Type} : Lit × DataW H → Nat
  | (.string bytes, d) => bytes.length + uptoBulk d + 1
  | (_, d) => uptoBulk d + 1
 end
def uptoSmall : (H : Type) → List (DataW H) → Bool := fun _ ds => decide (uptoBulkAll ds ≤ 1048576)
def OpenSpec.upto (s : _root_.Go.ChangeSpec) : _root_.Go.OpenSpec := { _root_.Go.OpenSpec.ofChange s with cond := some uptoSmall }

/-- 'espalierlaw01.InkNumbers', WHERE WHAT IT READS IS OF BULK AT MOST 1048576: true; the input reads as it did. -/
def inkNumbersUptoRow : OpenClaim := { program := "ytijlebjldnhnaaa", sum := "0feb2fd5258a5e68e616fbb6f089526856aceb1ce0f1ad3e416c7d271c55db8c", func := "espalier/espalierlaw01.InkNumbers", spec := "inkNumbers", inPlace := ["internal/bytealg.Count", "internal/bytealg.IndexByte", "internal/bytealg.Index", "internal/bytealg.Compare"], named := ["internal/bytealg.MaxLen"], apart := false, narrowed := true }
def InkNumbersUptoSaid : Prop := inkNumbersUptoRow.holds Try.pinned (OpenSpec.upto inkNumbersSpec)

/-- 'espalierlaw01.InkWrites', WHERE WHAT IT READS IS OF BULK AT MOST 1048576: true; the input reads as it did. -/
def inkWritesUptoRow : OpenClaim := { program := "ytijlebjldnhnaaa", sum := "0feb2fd5258a5e68e616fbb6f089526856aceb1ce0f1ad3e416c7d271c55db8c", func := "espalier/espalierlaw01.InkWrites", spec := "inkWrites", inPlace := ["internal/bytealg.Count", "internal/bytealg.IndexByte", "internal/bytealg.Index", "internal/bytealg.Compare"], named := ["internal/bytealg.MaxLen"], apart := false, narrowed := true }
def InkWritesUptoSaid : Prop := inkWritesUptoRow.holds Try.pinned (OpenSpec.upto inkWritesSpec)

/-- 'espalierlaw01.InkReads', WHERE WHAT IT READS IS OF BULK AT MOST 1048576: true; the input reads as it did. -/
def inkReadsUptoRow : OpenClaim := { program := "ytijlebjldnhnaaa", sum := "0feb2fd5258a5e68e616fbb6f089526856aceb1ce0f1ad3e416c7d271c55db8c", func := "espalier/espalierlaw01.InkReads", spec := "inkReads", inPlace := ["internal/bytealg.Count", "internal/bytealg.IndexByte", "internal/bytealg.Index", "internal/bytealg.Compare"], named := ["internal/bytealg.MaxLen"], apart := false, narrowed := true }
def InkReadsUptoSaid : Prop := inkReadsUptoRow.holds Try.pinned (OpenSpec.upto inkReadsSpec)

/-- 'espalierlaw01.InkBack', WHERE WHAT IT READS IS OF BULK AT MOST 1048576: true; the input reads as it did. -/
def inkBackUptoRow : OpenClaim := { program := "ytijlebjldnhnaaa", sum := "0feb2fd5258a5e68e616fbb6f089526856aceb1ce0f1ad3e416c7d271c55db8c", func := "espalier/espalierlaw01.InkBack", spec := "inkBack", inPlace := ["internal/bytealg.Count", "internal/bytealg.IndexByte", "internal/bytealg.Index", "internal/bytealg.Compare"], named := ["internal/bytealg.MaxLen"], apart := false, narrowed := true }
def InkBackUptoSaid : Prop := inkBackUptoRow.holds Try.pinned (OpenSpec.upto inkBackSpec)

/-- 'espalierlaw01.InkOne', WHERE WHAT IT READS IS OF BULK AT MOST 1048576: true; the input reads as it did. -/
def inkOneUptoRow : OpenClaim := { program := "ytijlebjldnhnaaa", sum := "0feb2fd5258a5e68e616fbb6f089526856aceb1ce0f1ad3e416c7d271c55db8c", func := "espalier/espalierlaw01.InkOne", spec := "inkOne", inPlace := ["internal/bytealg.Count", "internal/bytealg.IndexByte", "internal/bytealg.Index", "internal/bytealg.Compare"], named := ["internal/bytealg.MaxLen"], apart := false, narrowed := true }
def InkOneUptoSaid : Prop := inkOneUptoRow.holds Try.pinned (OpenSpec.upto inkOneSpec)

/-- 'espalierlaw01.InkOrder', WHERE WHAT IT READS IS OF BULK AT MOST 1048576: true; the input reads as it did. -/
def inkOrderUptoRow : OpenClaim := { program := "ytijlebjldnhnaaa", sum := "0feb2fd5258a5e68e616fbb6f089526856aceb1ce0f1ad3e416c7d271c55db8c", func := "espalier/espalierlaw01.InkOrder", spec := "inkOrder", inPlace := ["internal/bytealg.Count", "internal/bytealg.IndexByte", "internal/bytealg.Index", "internal/bytealg.Compare"], named := ["internal/bytealg.MaxLen"], apart := false, narrowed := true }
def InkOrderUptoSaid : Prop := inkOrderUptoRow.holds Try.pinned (OpenSpec.upto inkOrderSpec)

/-- 'espalierlaw01.InkTexts', WHERE WHAT IT READS IS OF BULK AT MOST 1048576: true; the input reads as it did. -/
def inkTextsUptoRow : OpenClaim := { program := "ytijlebjldnhnaaa", sum := "0feb2fd5258a5e68e616fbb6f089526856aceb1ce0f1ad3e416c7d271c55db8c", func := "espalier/espalierlaw01.InkTexts", spec := "inkTexts", inPlace := ["internal/bytealg.Count", "internal/bytealg.IndexByte", "internal/bytealg.Index", "internal/bytealg.Compare"], named := ["internal/bytealg.MaxLen"], apart := false, narrowed := true }
def InkTextsUptoSaid : Prop := inkTextsUptoRow.holds Try.pinned (OpenSpec.upto inkTextsSpec)

/-- 'espalierlaw01.InkBetween', WHERE WHAT IT READS IS OF BULK AT MOST 1048576: true; the input reads as it did. -/
def inkBetweenUptoRow : OpenClaim := { program := "ytijlebjldnhnaaa", sum := "0feb2fd5258a5e68e616fbb6f089526856aceb1ce0f1ad3e416c7d271c55db8c", func := "espalier/espalierlaw01.InkBetween", spec := "inkBetween", inPlace := ["internal/bytealg.Count", "internal/bytealg.IndexByte", "internal/bytealg.Index", "internal/bytealg.Compare"], named := ["internal/bytealg.MaxLen"], apart := false, narrowed := true }
def InkBetweenUptoSaid : Prop := inkBetweenUptoRow.holds Try.pinned (OpenSpec.upto inkBetweenSpec)

/-- 'espalierlaw01.InkSums', WHERE WHAT IT READS IS OF BULK AT MOST 1048576: true; the input reads as it did. -/
def inkSumsUptoRow : OpenClaim := { program := "ytijlebjldnhnaaa", sum := "0feb2fd5258a5e68e616fbb6f089526856aceb1ce0f1ad3e416c7d271c55db8c", func := "espalier/espalierlaw01.InkSums", spec := "inkSums", inPlace := ["internal/bytealg.Count", "internal/bytealg.IndexByte", "internal/bytealg.Index", "internal/bytealg.Compare"], named := ["internal/bytealg.MaxLen"], apart := false, narrowed := true }
def InkSumsUptoSaid : Prop := inkSumsUptoRow.holds Try.pinned (OpenSpec.upto inkSumsSpec)

/-- 'espalierlaw01.InkTurned', WHERE WHAT IT READS IS OF BULK AT MOST 1048576: true; the input reads as it did. -/
def inkTurnedUptoRow : OpenClaim := { program := "ytijlebjldnhnaaa", sum := "0feb2fd5258a5e68e616fbb6f089526856aceb1ce0f1ad3e416c7d271c55db8c", func := "espalier/espalierlaw01.InkTurned", spec := "inkTurned", inPlace := ["internal/bytealg.Count", "internal/bytealg.IndexByte", "internal/bytealg.Index", "internal/bytealg.Compare"], named := ["internal/bytealg.MaxLen"], apart := false, narrowed := true }
def InkTurnedUptoSaid : Prop := inkTurnedUptoRow.holds Try.pinned (OpenSpec.upto inkTurnedSpec)

end Rows
end Go.Proofs.Ytijlebjldnhnaaa
