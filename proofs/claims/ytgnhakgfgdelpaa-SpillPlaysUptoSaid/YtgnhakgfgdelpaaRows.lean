/-
  No cell of these rows narrows 'for every input' (looked for: loops, veiled, ifaces, maps, wideKeys, modest, calm, conditions, laid).
  DERIVED. THE GIVEN ROWS OF THIS SEAT. 6 by the template 'for every input the law returns true; each argument reads behind the call as it read before'; 0 by the template 'total and deterministic' (their statements: YtgnhakgfgdelpaaTotals.lean).
  GIVEN WITH THE SEED: the statements are not yours to turn. If you find one false, say at which input.
  Laid BY PROGRAM, IN A SANDBOX (cutbox-rows.mjs): the forced cells as the released guide's own fill.sh prints them over the translation 227bb8d1de228f60… (all of the seat's roots in one cut). By AI agents, Wed Nov 11 2026. No macro, syntax, notation, axiom, sorry.
-/
import Derived.Test.YtgnhakgfgdelpaaChecked
import GoSem.Claim
import GoSem.ClaimJoined
import GoSem.ClaimMapViews
import Derived.JoinedTies
import Derived.KernelRfl
namespace Go.Proofs.Ytgnhakgfgdelpaa
/- THE CELL 'sum', in the pinned program and in every row, IS THE sha256 OF THE DUMP (.gsa) THAT YtgnhakgfgdelpaaProg.lean LOADS. Nothing in Lean hashes anything: it is a label: what it is worth is what the hold of that sum in a sandbox is worth. -/
noncomputable def Try.pinned : Pinned := { name := "ytgnhakgfgdelpaa", sum := "227bb8d1de228f60e999f98ebd3fa940ecc93ce53fcc8142aa9f2a48d31c8daa", checked := Try.checked }
namespace Rows
def none {H : Type} : Left H := { results := [], args := [] }

/-- 'espalierlaw09.SpillNames': WHATEVER THE INPUT: true; the input reads as it did. -/
def spillNamesSpec : ChangeSpec := { name := "spillNames", fn := fun _ => fun
  | [] => { results := [.lit (.bool true)], args := [] }
  | _ => none }
def spillNamesRow : OpenClaim := { program := "ytgnhakgfgdelpaa", sum := "227bb8d1de228f60e999f98ebd3fa940ecc93ce53fcc8142aa9f2a48d31c8daa", func := "espalier/espalierlaw09.SpillNames", spec := "spillNames", unfollowed := true, recurses := true, apart := false }
def SpillNamesSaid : Prop := spillNamesRow.holds Try.pinned (OpenSpec.ofChange spillNamesSpec)

/-- ITS FALSE NEIGHBOUR: 'it returns false'. Refute it at one input. -/
def spillNamesWrong : ChangeSpec := { name := "spillNames", fn := fun _ => fun
  | [] => { results := [.lit (.bool false)], args := [] }
  | _ => none }
def SpillNamesWrongFalsely : Prop := spillNamesRow.holds Try.pinned (OpenSpec.ofChange spillNamesWrong)

/-- 'espalierlaw09.SpillPages': WHATEVER THE INPUT: true; the input reads as it did. -/
def spillPagesSpec : ChangeSpec := { name := "spillPages", fn := fun _ => fun
  | [d1, d2] => { results := [.lit (.bool true)], args := [d1, d2] }
  | _ => none }
def spillPagesRow : OpenClaim := { program := "ytgnhakgfgdelpaa", sum := "227bb8d1de228f60e999f98ebd3fa940ecc93ce53fcc8142aa9f2a48d31c8daa", func := "espalier/espalierlaw09.SpillPages", spec := "spillPages", unfollowed := true, recurses := true, apart := false }
def SpillPagesSaid : Prop := spillPagesRow.holds Try.pinned (OpenSpec.ofChange spillPagesSpec)

/-- ITS FALSE NEIGHBOUR: 'it returns false'. Refute it at one input. -/
def spillPagesWrong : ChangeSpec := { name := "spillPages", fn := fun _ => fun
  | [d1, d2] => { results := [.lit (.bool false)], args := [d1, d2] }
  | _ => none }
def SpillPagesWrongFalsely : Prop := spillPagesRow.holds Try.pinned (OpenSpec.ofChange spillPagesWrong)

/-- 'espalierlaw09.SpillEncodes': WHATEVER THE INPUT: true; the input reads as it did. -/
def spillEncodesSpec : ChangeSpec := { name := "spillEncodes", fn := fun _ => fun
  | [d1, d2, d3] => { results := [.lit (.bool true)], args := [d1, d2, d3] }
  | _ => none }
def spillEncodesRow : OpenClaim := { program := "ytgnhakgfgdelpaa", sum := "227bb8d1de228f60e999f98ebd3fa940ecc93ce53fcc8142aa9f2a48d31c8daa", func := "espalier/espalierlaw09.SpillEncodes", spec := "spillEncodes", unfollowed := true, recurses := true, apart := false }
def SpillEncodesSaid : Prop := spillEncodesRow.holds Try.pinned (OpenSpec.ofChange spillEncodesSpec)

/-- ITS FALSE NEIGHBOUR: 'it returns false'. Refute it at one input. -/
def spillEncodesWrong : ChangeSpec := { name := "spillEncodes", fn := fun _ => fun
  | [d1, d2, d3] => { results := [.lit (.bool false)], args := [d1, d2, d3] }
  | _ => none }
def SpillEncodesWrongFalsely : Prop := spillEncodesRow.holds Try.pinned (OpenSpec.ofChange spillEncodesWrong)

/-- 'espalierlaw09.SpillDecodes': WHATEVER THE INPUT: true; the input reads as it did. -/
def spillDecodesSpec : ChangeSpec := { name := "spillDecodes", fn := fun _ => fun
  | [d1, d2] => { results := [.lit (.bool true)], args := [d1, d2] }
  | _ => none }
def spillDecodesRow : OpenClaim := { program := "ytgnhakgfgdelpaa", sum := "227bb8d1de228f60e999f98ebd3fa940ecc93ce53fcc8142aa9f2a48d31c8daa", func := "espalier/espalierlaw09.SpillDecodes", spec := "spillDecodes", unfollowed := true, recurses := true, apart := false }
def SpillDecodesSaid : Prop := spillDecodesRow.holds Try.pinned (OpenSpec.ofChange spillDecodesSpec)

/-- ITS FALSE NEIGHBOUR: 'it returns false'. Refute it at one input. -/
def spillDecodesWrong : ChangeSpec := { name := "spillDecodes", fn := fun _ => fun
  | [d1, d2] => { results := [.lit (.bool false)], args := [d1, d2] }
  | _ => none }
def SpillDecodesWrongFalsely : Prop := spillDecodesRow.holds Try.pinned (OpenSpec.ofChange spillDecodesWrong)

/-- 'espalierlaw09.SpillBack': WHATEVER THE INPUT: true; the input reads as it did. -/
def spillBackSpec : ChangeSpec := { name := "spillBack", fn := fun _ => fun
  | [d1, d2, d3] => { results := [.lit (.bool true)], args := [d1, d2, d3] }
  | _ => none }
def spillBackRow : OpenClaim := { program := "ytgnhakgfgdelpaa", sum := "227bb8d1de228f60e999f98ebd3fa940ecc93ce53fcc8142aa9f2a48d31c8daa", func := "espalier/espalierlaw09.SpillBack", spec := "spillBack", unfollowed := true, recurses := true, apart := false }
def SpillBackSaid : Prop := spillBackRow.holds Try.pinned (OpenSpec.ofChange spillBackSpec)

/-- ITS FALSE NEIGHBOUR: 'it returns false'. Refute it at one input. -/
def spillBackWrong : ChangeSpec := { name := "spillBack", fn := fun _ => fun
  | [d1, d2, d3] => { results := [.lit (.bool false)], args := [d1, d2, d3] }
  | _ => none }
def SpillBackWrongFalsely : Prop := spillBackRow.holds Try.pinned (OpenSpec.ofChange spillBackWrong)

/-- 'espalierlaw09.SpillPlays': WHATEVER THE INPUT: true; the input reads as it did. -/
def spillPlaysSpec : ChangeSpec := { name := "spillPlays", fn := fun _ => fun
  | [d1, d2, d3] => { results := [.lit (.bool true)], args := [d1, d2, d3] }
  | _ => none }
def spillPlaysRow : OpenClaim := { program := "ytgnhakgfgdelpaa", sum := "227bb8d1de228f60e999f98ebd3fa940ecc93ce53fcc8142aa9f2a48d31c8daa", func := "espalier/espalierlaw09.SpillPlays", spec := "spillPlays", unfollowed := true, recurses := true, apart := false }
def SpillPlaysSaid : Prop := spillPlaysRow.holds Try.pinned (OpenSpec.ofChange spillPlaysSpec)

/-- ITS FALSE NEIGHBOUR: 'it returns false'. Refute it at one input. -/
def spillPlaysWrong : ChangeSpec := { name := "spillPlays", fn := fun _ => fun
  | [d1, d2, d3] => { results := [.lit (.bool false)], args := [d1, d2, d3] }
  | _ => none }
def SpillPlaysWrongFalsely : Prop := spillPlaysRow.holds Try.pinned (OpenSpec.ofChange spillPlaysWrong)

/- THE SECOND FORM. 'bulk': how many values and letters a reading holds, each counted each time it is reached (what is shared counts as often as it is met; a slice's spare places count too). A statement '..UptoSaid' is the law's where the arguments, and the package variables that the reading takes, are together of bulk at most 1048576: NARROWER than '..Said'. Prove '..Said' where nothing that the law and all that it calls make is longer than what came in: it says more and counts as full. Else prove '..UptoSaid'. A law counts once. -/
mutual
def uptoBulk {H : Type} : DataW H → Nat
  | .lit (.string bytes) => bytes.length + 1
  | .lit _ => 1
  | .nil => 1
  | .ptr d => uptoBulk d + 1
  | .slice elems spare => uptoBulkAll elems + uptoBulkAll spare + 1
  | .agg parts => uptoBulkAll parts + 1
  | .iface _ d => uptoBulk d + 1
  | .map entries => uptoBulkEntries entries + 1
  | .held _ => 1
def uptoBulkAll {H : Type} : List (DataW H) → Nat
  | [] => 0
  | d :: r => uptoBulk d + uptoBulkAll r
def uptoBulkEntries {H : Type} : List (Lit × DataW H) → Nat
  | [] => 0
  | x :: r => uptoBulkEntry x + uptoBulkEntries r
def uptoBulkEntry {H : Type} : Lit × DataW H → Nat
  | (.string bytes, d) => bytes.length + uptoBulk d + 1
  | (_, d) => uptoBulk d + 1
 end
def uptoSmall : (H : Type) → List (DataW H) → Bool := fun _ ds => decide (uptoBulkAll ds ≤ 1048576)
def OpenSpec.upto (s : _root_.Go.ChangeSpec) : _root_.Go.OpenSpec := { _root_.Go.OpenSpec.ofChange s with cond := some uptoSmall }

/-- 'espalierlaw09.SpillNames', WHERE WHAT IT READS IS OF BULK AT MOST 1048576: true; the input reads as it did. -/
def spillNamesUptoRow : OpenClaim := { program := "ytgnhakgfgdelpaa", sum := "227bb8d1de228f60e999f98ebd3fa940ecc93ce53fcc8142aa9f2a48d31c8daa", func := "espalier/espalierlaw09.SpillNames", spec := "spillNames", unfollowed := true, recurses := true, apart := false, narrowed := true }
def SpillNamesUptoSaid : Prop := spillNamesUptoRow.holds Try.pinned (OpenSpec.upto spillNamesSpec)

/-- 'espalierlaw09.SpillPages', WHERE WHAT IT READS IS OF BULK AT MOST 1048576: true; the input reads as it did. -/
def spillPagesUptoRow : OpenClaim := { program := "ytgnhakgfgdelpaa", sum := "227bb8d1de228f60e999f98ebd3fa940ecc93ce53fcc8142aa9f2a48d31c8daa", func := "espalier/espalierlaw09.SpillPages", spec := "spillPages", unfollowed := true, recurses := true, apart := false, narrowed := true }
def SpillPagesUptoSaid : Prop := spillPagesUptoRow.holds Try.pinned (OpenSpec.upto spillPagesSpec)

/-- 'espalierlaw09.SpillEncodes', WHERE WHAT IT READS IS OF BULK AT MOST 1048576: true; the input reads as it did. -/
def spillEncodesUptoRow : OpenClaim := { program := "ytgnhakgfgdelpaa", sum := "227bb8d1de228f60e999f98ebd3fa940ecc93ce53fcc8142aa9f2a48d31c8daa", func := "espalier/espalierlaw09.SpillEncodes", spec := "spillEncodes", unfollowed := true, recurses := true, apart := false, narrowed := true }
def SpillEncodesUptoSaid : Prop := spillEncodesUptoRow.holds Try.pinned (OpenSpec.upto spillEncodesSpec)

/-- 'espalierlaw09.SpillDecodes', WHERE WHAT IT READS IS OF BULK AT MOST 1048576: true; the input reads as it did. -/
def spillDecodesUptoRow : OpenClaim := { program := "ytgnhakgfgdelpaa", sum := "227bb8d1de228f60e999f98ebd3fa940ecc93ce53fcc8142aa9f2a48d31c8daa", func := "espalier/espalierlaw09.SpillDecodes", spec := "spillDecodes", unfollowed := true, recurses := true, apart := false, narrowed := true }
def SpillDecodesUptoSaid : Prop := spillDecodesUptoRow.holds Try.pinned (OpenSpec.upto spillDecodesSpec)

/-- 'espalierlaw09.SpillBack', WHERE WHAT IT READS IS OF BULK AT MOST 1048576: true; the input reads as it did. -/
def spillBackUptoRow : OpenClaim := { program := "ytgnhakgfgdelpaa", sum := "227bb8d1de228f60e999f98ebd3fa940ecc93ce53fcc8142aa9f2a48d31c8daa", func := "espalier/espalierlaw09.SpillBack", spec := "spillBack", unfollowed := true, recurses := true, apart := false, narrowed := true }
def SpillBackUptoSaid : Prop := spillBackUptoRow.holds Try.pinned (OpenSpec.upto spillBackSpec)

/-- 'espalierlaw09.SpillPlays', WHERE WHAT IT READS IS OF BULK AT MOST 1048576: true; the input reads as it did. -/
def spillPlaysUptoRow : OpenClaim := { program := "ytgnhakgfgdelpaa", sum := "227bb8d1de228f60e999f98ebd3fa940ecc93ce53fcc8142aa9f2a48d31c8daa", func := "espalier/espalierlaw09.SpillPlays", spec := "spillPlays", unfollowed := true, recurses := true, apart := false, narrowed := true }
def SpillPlaysUptoSaid : Prop := spillPlaysUptoRow.holds Try.pinned (OpenSpec.upto spillPlaysSpec)

end Rows
end Go.Proofs.Ytgnhakgfgdelpaa
