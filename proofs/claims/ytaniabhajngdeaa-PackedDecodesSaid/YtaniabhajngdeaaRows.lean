/-
  No cell of these rows narrows 'for every input' (looked for: loops, veiled, ifaces, maps, wideKeys, modest, calm, conditions, laid).
  DERIVED. THE GIVEN ROWS OF THIS SEAT. 7 by the template 'for every input the law returns true; each argument reads behind the call as it read before'; 0 by the template 'total and deterministic' (their statements: YtaniabhajngdeaaTotals.lean).
  GIVEN WITH THE SEED: the statements are not yours to turn. If you find one false, say at which input.
  Laid BY PROGRAM, IN A SANDBOX (cutbox-rows.mjs): the forced cells as the released guide's own fill.sh prints them over the translation b8c1706a02fe6065… (all of the seat's roots in one cut). By AI agents, Wed Nov 11 2026. No macro, syntax, notation, axiom, sorry.
-/
import Derived.Test.YtaniabhajngdeaaChecked
import GoSem.Claim
import GoSem.ClaimJoined
import GoSem.ClaimMapViews
import Derived.JoinedTies
import Derived.KernelRfl
namespace Go.Proofs.Ytaniabhajngdeaa
/- THE CELL 'sum', in the pinned program and in every row, IS THE sha256 OF THE DUMP (.gsa) THAT YtaniabhajngdeaaProg.lean LOADS. Nothing in Lean hashes anything: it is a label: what it is worth is what the hold of that sum in a sandbox is worth. -/
noncomputable def Try.pinned : Pinned := { name := "ytaniabhajngdeaa", sum := "b8c1706a02fe60652981dbaaae262fcbb406b481da2dadb1d330eb0ed6f044b0", checked := Try.checked }
namespace Rows
def none {H : Type} : Left H := { results := [], args := [] }

/-- 'espalierlaw07.PackedNumbers': WHATEVER THE INPUT: true; the input reads as it did. -/
def packedNumbersSpec : ChangeSpec := { name := "packedNumbers", fn := fun _ => fun
  | [] => { results := [.lit (.bool true)], args := [] }
  | _ => none }
def packedNumbersRow : OpenClaim := { program := "ytaniabhajngdeaa", sum := "b8c1706a02fe60652981dbaaae262fcbb406b481da2dadb1d330eb0ed6f044b0", func := "espalier/espalierlaw07.PackedNumbers", spec := "packedNumbers", inPlace := ["internal/bytealg.Compare", "slices.overlaps[espalier/api.Cell]"], unfollowed := true, recurses := true, apart := false }
def PackedNumbersSaid : Prop := packedNumbersRow.holds Try.pinned (OpenSpec.ofChange packedNumbersSpec)

/-- ITS FALSE NEIGHBOUR: 'it returns false'. Refute it at one input. -/
def packedNumbersWrong : ChangeSpec := { name := "packedNumbers", fn := fun _ => fun
  | [] => { results := [.lit (.bool false)], args := [] }
  | _ => none }
def PackedNumbersWrongFalsely : Prop := packedNumbersRow.holds Try.pinned (OpenSpec.ofChange packedNumbersWrong)

/-- 'espalierlaw07.PackedSizes': WHATEVER THE INPUT: true; the input reads as it did. -/
def packedSizesSpec : ChangeSpec := { name := "packedSizes", fn := fun _ => fun
  | [d1, d2] => { results := [.lit (.bool true)], args := [d1, d2] }
  | _ => none }
def packedSizesRow : OpenClaim := { program := "ytaniabhajngdeaa", sum := "b8c1706a02fe60652981dbaaae262fcbb406b481da2dadb1d330eb0ed6f044b0", func := "espalier/espalierlaw07.PackedSizes", spec := "packedSizes", inPlace := ["internal/bytealg.Compare", "slices.overlaps[espalier/api.Cell]"], unfollowed := true, recurses := true, apart := false }
def PackedSizesSaid : Prop := packedSizesRow.holds Try.pinned (OpenSpec.ofChange packedSizesSpec)

/-- ITS FALSE NEIGHBOUR: 'it returns false'. Refute it at one input. -/
def packedSizesWrong : ChangeSpec := { name := "packedSizes", fn := fun _ => fun
  | [d1, d2] => { results := [.lit (.bool false)], args := [d1, d2] }
  | _ => none }
def PackedSizesWrongFalsely : Prop := packedSizesRow.holds Try.pinned (OpenSpec.ofChange packedSizesWrong)

/-- 'espalierlaw07.PackedEncodes': WHATEVER THE INPUT: true; the input reads as it did. -/
def packedEncodesSpec : ChangeSpec := { name := "packedEncodes", fn := fun _ => fun
  | [d1, d2, d3] => { results := [.lit (.bool true)], args := [d1, d2, d3] }
  | _ => none }
def packedEncodesRow : OpenClaim := { program := "ytaniabhajngdeaa", sum := "b8c1706a02fe60652981dbaaae262fcbb406b481da2dadb1d330eb0ed6f044b0", func := "espalier/espalierlaw07.PackedEncodes", spec := "packedEncodes", inPlace := ["internal/bytealg.Compare", "slices.overlaps[espalier/api.Cell]"], unfollowed := true, recurses := true, apart := false }
def PackedEncodesSaid : Prop := packedEncodesRow.holds Try.pinned (OpenSpec.ofChange packedEncodesSpec)

/-- ITS FALSE NEIGHBOUR: 'it returns false'. Refute it at one input. -/
def packedEncodesWrong : ChangeSpec := { name := "packedEncodes", fn := fun _ => fun
  | [d1, d2, d3] => { results := [.lit (.bool false)], args := [d1, d2, d3] }
  | _ => none }
def PackedEncodesWrongFalsely : Prop := packedEncodesRow.holds Try.pinned (OpenSpec.ofChange packedEncodesWrong)

/-- 'espalierlaw07.PackedBack': WHATEVER THE INPUT: true; the input reads as it did. -/
def packedBackSpec : ChangeSpec := { name := "packedBack", fn := fun _ => fun
  | [d1, d2, d3, d4] => { results := [.lit (.bool true)], args := [d1, d2, d3, d4] }
  | _ => none }
def packedBackRow : OpenClaim := { program := "ytaniabhajngdeaa", sum := "b8c1706a02fe60652981dbaaae262fcbb406b481da2dadb1d330eb0ed6f044b0", func := "espalier/espalierlaw07.PackedBack", spec := "packedBack", inPlace := ["internal/bytealg.Compare", "slices.overlaps[espalier/api.Cell]"], unfollowed := true, recurses := true, apart := false }
def PackedBackSaid : Prop := packedBackRow.holds Try.pinned (OpenSpec.ofChange packedBackSpec)

/-- ITS FALSE NEIGHBOUR: 'it returns false'. Refute it at one input. -/
def packedBackWrong : ChangeSpec := { name := "packedBack", fn := fun _ => fun
  | [d1, d2, d3, d4] => { results := [.lit (.bool false)], args := [d1, d2, d3, d4] }
  | _ => none }
def PackedBackWrongFalsely : Prop := packedBackRow.holds Try.pinned (OpenSpec.ofChange packedBackWrong)

/-- 'espalierlaw07.PackedThree': WHATEVER THE INPUT: true; the input reads as it did. -/
def packedThreeSpec : ChangeSpec := { name := "packedThree", fn := fun _ => fun
  | [d1, d2, d3] => { results := [.lit (.bool true)], args := [d1, d2, d3] }
  | _ => none }
def packedThreeRow : OpenClaim := { program := "ytaniabhajngdeaa", sum := "b8c1706a02fe60652981dbaaae262fcbb406b481da2dadb1d330eb0ed6f044b0", func := "espalier/espalierlaw07.PackedThree", spec := "packedThree", inPlace := ["internal/bytealg.Compare", "slices.overlaps[espalier/api.Cell]"], unfollowed := true, recurses := true, apart := false }
def PackedThreeSaid : Prop := packedThreeRow.holds Try.pinned (OpenSpec.ofChange packedThreeSpec)

/-- ITS FALSE NEIGHBOUR: 'it returns false'. Refute it at one input. -/
def packedThreeWrong : ChangeSpec := { name := "packedThree", fn := fun _ => fun
  | [d1, d2, d3] => { results := [.lit (.bool false)], args := [d1, d2, d3] }
  | _ => none }
def PackedThreeWrongFalsely : Prop := packedThreeRow.holds Try.pinned (OpenSpec.ofChange packedThreeWrong)

/-- 'espalierlaw07.PackedDecodes': WHATEVER THE INPUT: true; the input reads as it did. -/
def packedDecodesSpec : ChangeSpec := { name := "packedDecodes", fn := fun _ => fun
  | [d] => { results := [.lit (.bool true)], args := [d] }
  | _ => none }
def packedDecodesRow : OpenClaim := { program := "ytaniabhajngdeaa", sum := "b8c1706a02fe60652981dbaaae262fcbb406b481da2dadb1d330eb0ed6f044b0", func := "espalier/espalierlaw07.PackedDecodes", spec := "packedDecodes", inPlace := ["internal/bytealg.Compare", "slices.overlaps[espalier/api.Cell]"], unfollowed := true, recurses := true, apart := false }
def PackedDecodesSaid : Prop := packedDecodesRow.holds Try.pinned (OpenSpec.ofChange packedDecodesSpec)

/-- ITS FALSE NEIGHBOUR: 'it returns false'. Refute it at one input. -/
def packedDecodesWrong : ChangeSpec := { name := "packedDecodes", fn := fun _ => fun
  | [d] => { results := [.lit (.bool false)], args := [d] }
  | _ => none }
def PackedDecodesWrongFalsely : Prop := packedDecodesRow.holds Try.pinned (OpenSpec.ofChange packedDecodesWrong)

/-- 'espalierlaw07.PackedLists': WHATEVER THE INPUT: true; the input reads as it did. -/
def packedListsSpec : ChangeSpec := { name := "packedLists", fn := fun _ => fun
  | [d1, d2, d3] => { results := [.lit (.bool true)], args := [d1, d2, d3] }
  | _ => none }
def packedListsRow : OpenClaim := { program := "ytaniabhajngdeaa", sum := "b8c1706a02fe60652981dbaaae262fcbb406b481da2dadb1d330eb0ed6f044b0", func := "espalier/espalierlaw07.PackedLists", spec := "packedLists", inPlace := ["internal/bytealg.Compare", "slices.overlaps[espalier/api.Cell]"], unfollowed := true, recurses := true, apart := false }
def PackedListsSaid : Prop := packedListsRow.holds Try.pinned (OpenSpec.ofChange packedListsSpec)

/-- ITS FALSE NEIGHBOUR: 'it returns false'. Refute it at one input. -/
def packedListsWrong : ChangeSpec := { name := "packedLists", fn := fun _ => fun
  | [d1, d2, d3] => { results := [.lit (.bool false)], args := [d1, d2, d3] }
  | _ => none }
def PackedListsWrongFalsely : Prop := packedListsRow.holds Try.pinned (OpenSpec.ofChange packedListsWrong)

/- THE SECOND FORM. 'bulk': how many values and letters a reading holds, each counted each time it is reached (what is shared counts as often as it is met; a slice's spare places count too). A statement '..UptoSaid' is the law's where the arguments, and the package variables that the reading takes, are together of bulk at most 1048576: NARROWER than '..Said'. Prove '..Said' where nothing that the law and all that it calls make is longer than what came in: it says more and counts as full. Else prove '..UptoSaid'. A law counts once. -/
mutual
def uptoBulk {H : Type} : DataW H → Nat
  | .lit (.string bytes) => bytes.length + 1
  | .lit _ => 1
  | .nil => 1
  | .ptr d => uptoBulk d + 1
  | .slice elems spare => uptoBulkAll elems + uptoBulkAll spare + 1
  | .agg parts => uptoBulkAll parts + 1
  | .iface _ d => uptoBulk d + 1
  | .map entries => uptoBulkEntries entries + 1
  | .held _ => 1
def uptoBulkAll {H : Type} : List (DataW H) → Nat
  | [] => 0
  | d :: r => uptoBulk d + uptoBulkAll r
def uptoBulkEntries {H : Type} : List (Lit × DataW H) → Nat
  | [] => 0
  | x :: r => uptoBulkEntry x + uptoBulkEntries r
def uptoBulkEntry {H : Type} : Lit × DataW H → Nat
  | (.string bytes, d) => bytes.length + uptoBulk d + 1
  | (_, d) => uptoBulk d + 1
 end
def uptoSmall : (H : Type) → List (DataW H) → Bool := fun _ ds => decide (uptoBulkAll ds ≤ 1048576)
def OpenSpec.upto (s : _root_.Go.ChangeSpec) : _root_.Go.OpenSpec := { _root_.Go.OpenSpec.ofChange s with cond := some uptoSmall }

/-- 'espalierlaw07.PackedNumbers', WHERE WHAT IT READS IS OF BULK AT MOST 1048576: true; the input reads as it did. -/
def packedNumbersUptoRow : OpenClaim := { program := "ytaniabhajngdeaa", sum := "b8c1706a02fe60652981dbaaae262fcbb406b481da2dadb1d330eb0ed6f044b0", func := "espalier/espalierlaw07.PackedNumbers", spec := "packedNumbers", inPlace := ["internal/bytealg.Compare", "slices.overlaps[espalier/api.Cell]"], unfollowed := true, recurses := true, apart := false, narrowed := true }
def PackedNumbersUptoSaid : Prop := packedNumbersUptoRow.holds Try.pinned (OpenSpec.upto packedNumbersSpec)

/-- 'espalierlaw07.PackedSizes', WHERE WHAT IT READS IS OF BULK AT MOST 1048576: true; the input reads as it did. -/
def packedSizesUptoRow : OpenClaim := { program := "ytaniabhajngdeaa", sum := "b8c1706a02fe60652981dbaaae262fcbb406b481da2dadb1d330eb0ed6f044b0", func := "espalier/espalierlaw07.PackedSizes", spec := "packedSizes", inPlace := ["internal/bytealg.Compare", "slices.overlaps[espalier/api.Cell]"], unfollowed := true, recurses := true, apart := false, narrowed := true }
def PackedSizesUptoSaid : Prop := packedSizesUptoRow.holds Try.pinned (OpenSpec.upto packedSizesSpec)

/-- 'espalierlaw07.PackedEncodes', WHERE WHAT IT READS IS OF BULK AT MOST 1048576: true; the input reads as it did. -/
def packedEncodesUptoRow : OpenClaim := { program := "ytaniabhajngdeaa", sum := "b8c1706a02fe60652981dbaaae262fcbb406b481da2dadb1d330eb0ed6f044b0", func := "espalier/espalierlaw07.PackedEncodes", spec := "packedEncodes", inPlace := ["internal/bytealg.Compare", "slices.overlaps[espalier/api.Cell]"], unfollowed := true, recurses := true, apart := false, narrowed := true }
def PackedEncodesUptoSaid : Prop := packedEncodesUptoRow.holds Try.pinned (OpenSpec.upto packedEncodesSpec)

/-- 'espalierlaw07.PackedBack', WHERE WHAT IT READS IS OF BULK AT MOST 1048576: true; the input reads as it did. -/
def packedBackUptoRow : OpenClaim := { program := "ytaniabhajngdeaa", sum := "b8c1706a02fe60652981dbaaae262fcbb406b481da2dadb1d330eb0ed6f044b0", func := "espalier/espalierlaw07.PackedBack", spec := "packedBack", inPlace := ["internal/bytealg.Compare", "slices.overlaps[espalier/api.Cell]"], unfollowed := true, recurses := true, apart := false, narrowed := true }
def PackedBackUptoSaid : Prop := packedBackUptoRow.holds Try.pinned (OpenSpec.upto packedBackSpec)

/-- 'espalierlaw07.PackedThree', WHERE WHAT IT READS IS OF BULK AT MOST 1048576: true; the input reads as it did. -/
def packedThreeUptoRow : OpenClaim := { program := "ytaniabhajngdeaa", sum := "b8c1706a02fe60652981dbaaae262fcbb406b481da2dadb1d330eb0ed6f044b0", func := "espalier/espalierlaw07.PackedThree", spec := "packedThree", inPlace := ["internal/bytealg.Compare", "slices.overlaps[espalier/api.Cell]"], unfollowed := true, recurses := true, apart := false, narrowed := true }
def PackedThreeUptoSaid : Prop := packedThreeUptoRow.holds Try.pinned (OpenSpec.upto packedThreeSpec)

/-- 'espalierlaw07.PackedDecodes', WHERE WHAT IT READS IS OF BULK AT MOST 1048576: true; the input reads as it did. -/
def packedDecodesUptoRow : OpenClaim := { program := "ytaniabhajngdeaa", sum := "b8c1706a02fe60652981dbaaae262fcbb406b481da2dadb1d330eb0ed6f044b0", func := "espalier/espalierlaw07.PackedDecodes", spec := "packedDecodes", inPlace := ["internal/bytealg.Compare", "slices.overlaps[espalier/api.Cell]"], unfollowed := true, recurses := true, apart := false, narrowed := true }
def PackedDecodesUptoSaid : Prop := packedDecodesUptoRow.holds Try.pinned (OpenSpec.upto packedDecodesSpec)

/-- 'espalierlaw07.PackedLists', WHERE WHAT IT READS IS OF BULK AT MOST 1048576: true; the input reads as it did. -/
def packedListsUptoRow : OpenClaim := { program := "ytaniabhajngdeaa", sum := "b8c1706a02fe60652981dbaaae262fcbb406b481da2dadb1d330eb0ed6f044b0", func := "espalier/espalierlaw07.PackedLists", spec := "packedLists", inPlace := ["internal/bytealg.Compare", "slices.overlaps[espalier/api.Cell]"], unfollowed := true, recurses := true, apart := false, narrowed := true }
def PackedListsUptoSaid : Prop := packedListsUptoRow.holds Try.pinned (OpenSpec.upto packedListsSpec)

end Rows
end Go.Proofs.Ytaniabhajngdeaa
