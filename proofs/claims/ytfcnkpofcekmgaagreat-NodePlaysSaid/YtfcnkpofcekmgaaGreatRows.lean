/-
  No cell of these rows narrows 'for every input' (looked for: loops, veiled, ifaces, maps, wideKeys, modest, calm, conditions, laid).
  DERIVED. THE GIVEN ROWS OF THIS SEAT. 4 by the template 'for every input the law returns true; each argument reads behind the call as it read before'; 0 by the template 'total and deterministic' (their statements: YtfcnkpofcekmgaaGreatTotals.lean).
  GIVEN WITH THE SEED: the statements are not yours to turn. If you find one false, say at which input.
  Laid BY PROGRAM, IN A SANDBOX (cutbox-rows.mjs): the forced cells as the released guide's own fill.sh prints them over the translation 49633c8456e35607… (all of the seat's roots in one cut). By AI agents, Wed Nov 11 2026. No macro, syntax, notation, axiom, sorry.
-/
import Derived.Test.YtfcnkpofcekmgaaGreatChecked
import GoSem.Claim
import GoSem.ClaimJoined
import GoSem.ClaimMapViews
import Derived.JoinedTies
import Derived.KernelRfl
namespace Go.Proofs.YtfcnkpofcekmgaaGreat
/- THE CELL 'sum', in the pinned program and in every row, IS THE sha256 OF THE DUMP (.gsa) THAT YtfcnkpofcekmgaaGreatProg.lean LOADS. Nothing in Lean hashes anything: it is a label: what it is worth is what the hold of that sum in a sandbox is worth. -/
noncomputable def Tryz.pinned : Pinned := { name := "ytfcnkpofcekmgaagreat", sum := "49633c8456e35607ec76547604458418a722158819fdb2d3fbcb345b95c68f8e", checked := Tryz.checked }
namespace Rows
def none {H : Type} : Left H := { results := [], args := [] }

/-- 'espalierlaw08.NodePlays': WHATEVER THE INPUT: true; the input reads as it did. -/
def nodePlaysSpec : ChangeSpec := { name := "nodePlays", fn := fun _ => fun
  | [d1, d2, d3, d4] => { results := [.lit (.bool true)], args := [d1, d2, d3, d4] }
  | _ => none }
def nodePlaysRow : OpenClaim := { program := "ytfcnkpofcekmgaagreat", sum := "49633c8456e35607ec76547604458418a722158819fdb2d3fbcb345b95c68f8e", func := "espalier/espalierlaw08.NodePlays", spec := "nodePlays", inPlace := ["internal/bytealg.Compare"], unfollowed := true, recurses := true, apart := false }
def NodePlaysSaid : Prop := nodePlaysRow.holds Tryz.pinned (OpenSpec.ofChange nodePlaysSpec)

/-- ITS FALSE NEIGHBOUR: 'it returns false'. Refute it at one input. -/
def nodePlaysWrong : ChangeSpec := { name := "nodePlays", fn := fun _ => fun
  | [d1, d2, d3, d4] => { results := [.lit (.bool false)], args := [d1, d2, d3, d4] }
  | _ => none }
def NodePlaysWrongFalsely : Prop := nodePlaysRow.holds Tryz.pinned (OpenSpec.ofChange nodePlaysWrong)

/-- 'espalierlaw08.NodeTwins': WHATEVER THE INPUT: true; the input reads as it did. -/
def nodeTwinsSpec : ChangeSpec := { name := "nodeTwins", fn := fun _ => fun
  | [d1, d2, d3] => { results := [.lit (.bool true)], args := [d1, d2, d3] }
  | _ => none }
def nodeTwinsRow : OpenClaim := { program := "ytfcnkpofcekmgaagreat", sum := "49633c8456e35607ec76547604458418a722158819fdb2d3fbcb345b95c68f8e", func := "espalier/espalierlaw08.NodeTwins", spec := "nodeTwins", inPlace := ["internal/bytealg.Compare"], unfollowed := true, recurses := true, apart := false }
def NodeTwinsSaid : Prop := nodeTwinsRow.holds Tryz.pinned (OpenSpec.ofChange nodeTwinsSpec)

/-- ITS FALSE NEIGHBOUR: 'it returns false'. Refute it at one input. -/
def nodeTwinsWrong : ChangeSpec := { name := "nodeTwins", fn := fun _ => fun
  | [d1, d2, d3] => { results := [.lit (.bool false)], args := [d1, d2, d3] }
  | _ => none }
def NodeTwinsWrongFalsely : Prop := nodeTwinsRow.holds Tryz.pinned (OpenSpec.ofChange nodeTwinsWrong)

/-- 'espalierlaw08.NodeReads': WHATEVER THE INPUT: true; the input reads as it did. -/
def nodeReadsSpec : ChangeSpec := { name := "nodeReads", fn := fun _ => fun
  | [d] => { results := [.lit (.bool true)], args := [d] }
  | _ => none }
def nodeReadsRow : OpenClaim := { program := "ytfcnkpofcekmgaagreat", sum := "49633c8456e35607ec76547604458418a722158819fdb2d3fbcb345b95c68f8e", func := "espalier/espalierlaw08.NodeReads", spec := "nodeReads", inPlace := ["internal/bytealg.Compare"], unfollowed := true, recurses := true, apart := false }
def NodeReadsSaid : Prop := nodeReadsRow.holds Tryz.pinned (OpenSpec.ofChange nodeReadsSpec)

/-- ITS FALSE NEIGHBOUR: 'it returns false'. Refute it at one input. -/
def nodeReadsWrong : ChangeSpec := { name := "nodeReads", fn := fun _ => fun
  | [d] => { results := [.lit (.bool false)], args := [d] }
  | _ => none }
def NodeReadsWrongFalsely : Prop := nodeReadsRow.holds Tryz.pinned (OpenSpec.ofChange nodeReadsWrong)

/-- 'espalierlaw08.NodeWrites': WHATEVER THE INPUT: true; the input reads as it did. -/
def nodeWritesSpec : ChangeSpec := { name := "nodeWrites", fn := fun _ => fun
  | [d1, d2, d3, d4] => { results := [.lit (.bool true)], args := [d1, d2, d3, d4] }
  | _ => none }
def nodeWritesRow : OpenClaim := { program := "ytfcnkpofcekmgaagreat", sum := "49633c8456e35607ec76547604458418a722158819fdb2d3fbcb345b95c68f8e", func := "espalier/espalierlaw08.NodeWrites", spec := "nodeWrites", inPlace := ["internal/bytealg.Compare"], unfollowed := true, recurses := true, apart := false }
def NodeWritesSaid : Prop := nodeWritesRow.holds Tryz.pinned (OpenSpec.ofChange nodeWritesSpec)

/-- ITS FALSE NEIGHBOUR: 'it returns false'. Refute it at one input. -/
def nodeWritesWrong : ChangeSpec := { name := "nodeWrites", fn := fun _ => fun
  | [d1, d2, d3, d4] => { results := [.lit (.bool false)], args := [d1, d2, d3, d4] }
  | _ => none }
def NodeWritesWrongFalsely : Prop := nodeWritesRow.holds Tryz.pinned (OpenSpec.ofChange nodeWritesWrong)

/- THE SECOND FORM. 'bulk': how many values and letters a reading holds, each counted each time it is reached (what is shared counts as often as it is met; a slice's spare places count too). A statement '..UptoSaid' is the law's where the arguments, and the package variables that the reading takes, are together of bulk at most 1048576: NARROWER than '..Said'. Prove '..Said' where nothing that the law and all that it calls make is longer than what came in: it says more and counts as full. Else prove '..UptoSaid'. A law counts once. -/
mutual
def uptoBulk {H : Type} : DataW H → Nat
  | .lit (.string bytes) => bytes.length + 1
  | .lit _ => 1
  | .nil => 1
  | .ptr d => uptoBulk d + 1
  | .slice elems spare => uptoBulkAll elems + uptoBulkAll spare + 1
  | .agg parts => uptoBulkAll parts + 1
  | .iface _ d => uptoBulk d + 1
  | .map entries => uptoBulkEntries entries + 1
  | .held _ => 1
def uptoBulkAll {H : Type} : List (DataW H) → Nat
  | [] => 0
  | d :: r => uptoBulk d + uptoBulkAll r
def uptoBulkEntries {H : Type} : List (Lit × DataW H) → Nat
  | [] => 0
  | x :: r => uptoBulkEntry x + uptoBulkEntries r
def uptoBulkEntry {H : Type} : Lit × DataW H → Nat
  | (.string bytes, d) => bytes.length + uptoBulk d + 1
  | (_, d) => uptoBulk d + 1
 end
def uptoSmall : (H : Type) → List (DataW H) → Bool := fun _ ds => decide (uptoBulkAll ds ≤ 1048576)
def OpenSpec.upto (s : _root_.Go.ChangeSpec) : _root_.Go.OpenSpec := { _root_.Go.OpenSpec.ofChange s with cond := some uptoSmall }

/-- 'espalierlaw08.NodePlays', WHERE WHAT IT READS IS OF BULK AT MOST 1048576: true; the input reads as it did. -/
def nodePlaysUptoRow : OpenClaim := { program := "ytfcnkpofcekmgaagreat", sum := "49633c8456e35607ec76547604458418a722158819fdb2d3fbcb345b95c68f8e", func := "espalier/espalierlaw08.NodePlays", spec := "nodePlays", inPlace := ["internal/bytealg.Compare"], unfollowed := true, recurses := true, apart := false, narrowed := true }
def NodePlaysUptoSaid : Prop := nodePlaysUptoRow.holds Tryz.pinned (OpenSpec.upto nodePlaysSpec)

/-- 'espalierlaw08.NodeTwins', WHERE WHAT IT READS IS OF BULK AT MOST 1048576: true; the input reads as it did. -/
def nodeTwinsUptoRow : OpenClaim := { program := "ytfcnkpofcekmgaagreat", sum := "49633c8456e35607ec76547604458418a722158819fdb2d3fbcb345b95c68f8e", func := "espalier/espalierlaw08.NodeTwins", spec := "nodeTwins", inPlace := ["internal/bytealg.Compare"], unfollowed := true, recurses := true, apart := false, narrowed := true }
def NodeTwinsUptoSaid : Prop := nodeTwinsUptoRow.holds Tryz.pinned (OpenSpec.upto nodeTwinsSpec)

/-- 'espalierlaw08.NodeReads', WHERE WHAT IT READS IS OF BULK AT MOST 1048576: true; the input reads as it did. -/
def nodeReadsUptoRow : OpenClaim := { program := "ytfcnkpofcekmgaagreat", sum := "49633c8456e35607ec76547604458418a722158819fdb2d3fbcb345b95c68f8e", func := "espalier/espalierlaw08.NodeReads", spec := "nodeReads", inPlace := ["internal/bytealg.Compare"], unfollowed := true, recurses := true, apart := false, narrowed := true }
def NodeReadsUptoSaid : Prop := nodeReadsUptoRow.holds Tryz.pinned (OpenSpec.upto nodeReadsSpec)

/-- 'espalierlaw08.NodeWrites', WHERE WHAT IT READS IS OF BULK AT MOST 1048576: true; the input reads as it did. -/
def nodeWritesUptoRow : OpenClaim := { program := "ytfcnkpofcekmgaagreat", sum := "49633c8456e35607ec76547604458418a722158819fdb2d3fbcb345b95c68f8e", func := "espalier/espalierlaw08.NodeWrites", spec := "nodeWrites", inPlace := ["internal/bytealg.Compare"], unfollowed := true, recurses := true, apart := false, narrowed := true }
def NodeWritesUptoSaid : Prop := nodeWritesUptoRow.holds Tryz.pinned (OpenSpec.upto nodeWritesSpec)

end Rows
end Go.Proofs.YtfcnkpofcekmgaaGreat
