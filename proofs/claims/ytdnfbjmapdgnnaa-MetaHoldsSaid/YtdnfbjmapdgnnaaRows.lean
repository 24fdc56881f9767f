/-
  No cell of these rows narrows 'for every input' (looked for: loops, veiled, ifaces, maps, wideKeys, modest, calm, conditions, laid).
  DERIVED. THE GIVEN ROWS OF THIS SEAT. 4 by the template 'for every input the law returns true; each argument reads behind the call as it read before'; 0 by the template 'total and deterministic' (their statements: YtdnfbjmapdgnnaaTotals.lean).
  GIVEN WITH THE SEED: the statements are not yours to turn. If you find one false, say at which input.
  Laid BY PROGRAM, IN A SANDBOX (cutbox-rows.mjs): the forced cells as the released guide's own fill.sh prints them over the translation 1120115fa3276ba3… (all of the seat's roots in one cut). By AI agents, Wed Nov 11 2026. No macro, syntax, notation, axiom, sorry.
-/
import Derived.Test.YtdnfbjmapdgnnaaChecked
import GoSem.Claim
import GoSem.ClaimJoined
import GoSem.ClaimMapViews
import Derived.JoinedTies
import Derived.KernelRfl
namespace Go.Proofs.Ytdnfbjmapdgnnaa
/- THE CELL 'sum', in the pinned program and in every row, IS THE sha256 OF THE DUMP (.gsa) THAT YtdnfbjmapdgnnaaProg.lean LOADS. Nothing in Lean hashes anything: it is a label: what it is worth is what the hold of that sum in a sandbox is worth. -/
noncomputable def Try.pinned : Pinned := { name := "ytdnfbjmapdgnnaa", sum := "1120115fa3276ba30f53c0bf793344cd2a4ae6a869cbd2f0ba0907ec523ce54a", checked := Try.checked }
namespace Rows
def none {H : Type} : Left H := { results := [], args := [] }

/-- 'espalierlaw05.MetaNames': WHATEVER THE INPUT: true; the input reads as it did. -/
def metaNamesSpec : ChangeSpec := { name := "metaNames", fn := fun _ => fun
  | [] => { results := [.lit (.bool true)], args := [] }
  | _ => none }
def metaNamesRow : OpenClaim := { program := "ytdnfbjmapdgnnaa", sum := "1120115fa3276ba30f53c0bf793344cd2a4ae6a869cbd2f0ba0907ec523ce54a", func := "espalier/espalierlaw05.MetaNames", spec := "metaNames", unfollowed := true, recurses := true, apart := false }
def MetaNamesSaid : Prop := metaNamesRow.holds Try.pinned (OpenSpec.ofChange metaNamesSpec)

/-- ITS FALSE NEIGHBOUR: 'it returns false'. Refute it at one input. -/
def metaNamesWrong : ChangeSpec := { name := "metaNames", fn := fun _ => fun
  | [] => { results := [.lit (.bool false)], args := [] }
  | _ => none }
def MetaNamesWrongFalsely : Prop := metaNamesRow.holds Try.pinned (OpenSpec.ofChange metaNamesWrong)

/-- 'espalierlaw05.MetaEncodes': WHATEVER THE INPUT: true; the input reads as it did. -/
def metaEncodesSpec : ChangeSpec := { name := "metaEncodes", fn := fun _ => fun
  | [d1, d2] => { results := [.lit (.bool true)], args := [d1, d2] }
  | _ => none }
def metaEncodesRow : OpenClaim := { program := "ytdnfbjmapdgnnaa", sum := "1120115fa3276ba30f53c0bf793344cd2a4ae6a869cbd2f0ba0907ec523ce54a", func := "espalier/espalierlaw05.MetaEncodes", spec := "metaEncodes", unfollowed := true, recurses := true, apart := false }
def MetaEncodesSaid : Prop := metaEncodesRow.holds Try.pinned (OpenSpec.ofChange metaEncodesSpec)

/-- ITS FALSE NEIGHBOUR: 'it returns false'. Refute it at one input. -/
def metaEncodesWrong : ChangeSpec := { name := "metaEncodes", fn := fun _ => fun
  | [d1, d2] => { results := [.lit (.bool false)], args := [d1, d2] }
  | _ => none }
def MetaEncodesWrongFalsely : Prop := metaEncodesRow.holds Try.pinned (OpenSpec.ofChange metaEncodesWrong)

/-- 'espalierlaw05.MetaDecodes': WHATEVER THE INPUT: true; the input reads as it did. -/
def metaDecodesSpec : ChangeSpec := { name := "metaDecodes", fn := fun _ => fun
  | [d1, d2] => { results := [.lit (.bool true)], args := [d1, d2] }
  | _ => none }
def metaDecodesRow : OpenClaim := { program := "ytdnfbjmapdgnnaa", sum := "1120115fa3276ba30f53c0bf793344cd2a4ae6a869cbd2f0ba0907ec523ce54a", func := "espalier/espalierlaw05.MetaDecodes", spec := "metaDecodes", unfollowed := true, recurses := true, apart := false }
def MetaDecodesSaid : Prop := metaDecodesRow.holds Try.pinned (OpenSpec.ofChange metaDecodesSpec)

/-- ITS FALSE NEIGHBOUR: 'it returns false'. Refute it at one input. -/
def metaDecodesWrong : ChangeSpec := { name := "metaDecodes", fn := fun _ => fun
  | [d1, d2] => { results := [.lit (.bool false)], args := [d1, d2] }
  | _ => none }
def MetaDecodesWrongFalsely : Prop := metaDecodesRow.holds Try.pinned (OpenSpec.ofChange metaDecodesWrong)

/-- 'espalierlaw05.MetaHolds': WHATEVER THE INPUT: true; the input reads as it did. -/
def metaHoldsSpec : ChangeSpec := { name := "metaHolds", fn := fun _ => fun
  | [d1, d2, d3, d4] => { results := [.lit (.bool true)], args := [d1, d2, d3, d4] }
  | _ => none }
def metaHoldsRow : OpenClaim := { program := "ytdnfbjmapdgnnaa", sum := "1120115fa3276ba30f53c0bf793344cd2a4ae6a869cbd2f0ba0907ec523ce54a", func := "espalier/espalierlaw05.MetaHolds", spec := "metaHolds", unfollowed := true, recurses := true, apart := false }
def MetaHoldsSaid : Prop := metaHoldsRow.holds Try.pinned (OpenSpec.ofChange metaHoldsSpec)

/-- ITS FALSE NEIGHBOUR: 'it returns false'. Refute it at one input. -/
def metaHoldsWrong : ChangeSpec := { name := "metaHolds", fn := fun _ => fun
  | [d1, d2, d3, d4] => { results := [.lit (.bool false)], args := [d1, d2, d3, d4] }
  | _ => none }
def MetaHoldsWrongFalsely : Prop := metaHoldsRow.holds Try.pinned (OpenSpec.ofChange metaHoldsWrong)

/- THE SECOND FORM. 'bulk': how many values and letters a reading holds, each counted each time it is reached (what is shared counts as often as it is met; a slice's spare places count too). A statement '..UptoSaid' is the law's where the arguments, and the package variables that the reading takes, are together of bulk at most 1048576: NARROWER than '..Said'. Prove '..Said' where nothing that the law and all that it calls make is longer than what came in: it says more and counts as full. Else prove '..UptoSaid'. A law counts once. -/
mutual
def uptoBulk {H : Type} : DataW H → Nat
  | .lit (.string bytes) => bytes.length + 1
  | .lit _ => 1
  | .nil => 1
  | .ptr d => uptoBulk d + 1
  | .slice elems spare => uptoBulkAll elems + uptoBulkAll spare + 1
  | .agg parts => uptoBulkAll parts + 1
  | .iface _ d => uptoBulk d + 1
  | .map entries => uptoBulkEntries entries + 1
  | .held _ => 1
def uptoBulkAll {H : Type} : List (DataW H) → Nat
  | [] => 0
  | d :: r => uptoBulk d + uptoBulkAll r
def uptoBulkEntries {H : Type} : List (Lit × DataW H) → Nat
  | [] => 0
  | x :: r => uptoBulkEntry x + uptoBulkEntries r
def uptoBulkEntry {H : Type} : Lit × DataW H → Nat
  | (.string bytes, d) => bytes.length + uptoBulk d + 1
  | (_, d) => uptoBulk d + 1
 end
def uptoSmall : (H : Type) → List (DataW H) → Bool := fun _ ds => decide (uptoBulkAll ds ≤ 1048576)
def OpenSpec.upto (s : _root_.Go.ChangeSpec) : _root_.Go.OpenSpec := { _root_.Go.OpenSpec.ofChange s with cond := some uptoSmall }

/-- 'espalierlaw05.MetaNames', WHERE WHAT IT READS IS OF BULK AT MOST 1048576: true; the input reads as it did. -/
def metaNamesUptoRow : OpenClaim := { program := "ytdnfbjmapdgnnaa", sum := "1120115fa3276ba30f53c0bf793344cd2a4ae6a869cbd2f0ba0907ec523ce54a", func := "espalier/espalierlaw05.MetaNames", spec := "metaNames", unfollowed := true, recurses := true, apart := false, narrowed := true }
def MetaNamesUptoSaid : Prop := metaNamesUptoRow.holds Try.pinned (OpenSpec.upto metaNamesSpec)

/-- 'espalierlaw05.MetaEncodes', WHERE WHAT IT READS IS OF BULK AT MOST 1048576: true; the input reads as it did. -/
def metaEncodesUptoRow : OpenClaim := { program := "ytdnfbjmapdgnnaa", sum := "1120115fa3276ba30f53c0bf793344cd2a4ae6a869cbd2f0ba0907ec523ce54a", func := "espalier/espalierlaw05.MetaEncodes", spec := "metaEncodes", unfollowed := true, recurses := true, apart := false, narrowed := true }
def MetaEncodesUptoSaid : Prop := metaEncodesUptoRow.holds Try.pinned (OpenSpec.upto metaEncodesSpec)

/-- 'espalierlaw05.MetaDecodes', WHERE WHAT IT READS IS OF BULK AT MOST 1048576: true; the input reads as it did. -/
def metaDecodesUptoRow : OpenClaim := { program := "ytdnfbjmapdgnnaa", sum := "1120115fa3276ba30f53c0bf793344cd2a4ae6a869cbd2f0ba0907ec523ce54a", func := "espalier/espalierlaw05.MetaDecodes", spec := "metaDecodes", unfollowed := true, recurses := true, apart := false, narrowed := true }
def MetaDecodesUptoSaid : Prop := metaDecodesUptoRow.holds Try.pinned (OpenSpec.upto metaDecodesSpec)

/-- 'espalierlaw05.MetaHolds', WHERE WHAT IT READS IS OF BULK AT MOST 1048576: true; the input reads as it did. -/
def metaHoldsUptoRow : OpenClaim := { program := "ytdnfbjmapdgnnaa", sum := "1120115fa3276ba30f53c0bf793344cd2a4ae6a869cbd2f0ba0907ec523ce54a", func := "espalier/espalierlaw05.MetaHolds", spec := "metaHolds", unfollowed := true, recurses := true, apart := false, narrowed := true }
def MetaHoldsUptoSaid : Prop := metaHoldsUptoRow.holds Try.pinned (OpenSpec.upto metaHoldsSpec)

end Rows
end Go.Proofs.Ytdnfbjmapdgnnaa
