/-
  No cell of these rows narrows 'for every input' (looked for: loops, veiled, ifaces, maps, wideKeys, modest, calm, conditions, laid).
  DERIVED. THE GIVEN ROWS OF THIS SEAT. 7 by the template 'for every input the law returns true; each argument reads behind the call as it read before'; 0 by the template 'total and deterministic' (their statements: YtonbcipofakpjaaTotals.lean).
  GIVEN WITH THE SEED: the statements are not yours to turn. If you find one false, say at which input.
  Laid BY PROGRAM, IN A SANDBOX (cutbox-rows.mjs): the forced cells as the released guide's own fill.sh prints them over the translation 881bcf581b91ceac… (all of the seat's roots in one cut). By AI agents, Wed Nov 11 2026. No macro, syntax, notation, axiom, sorry.
-/
import Derived.Test.YtonbcipofakpjaaChecked
import GoSem.Claim
import GoSem.ClaimJoined
import GoSem.ClaimMapViews
import Derived.JoinedTies
import Derived.KernelRfl
namespace Go.Proofs.Ytonbcipofakpjaa
/- THE CELL 'sum', in the pinned program and in every row, IS THE sha256 OF THE DUMP (.gsa) THAT YtonbcipofakpjaaProg.lean LOADS. Nothing in Lean hashes anything: it is a label: what it is worth is what the hold of that sum in a sandbox is worth. -/
noncomputable def Try.pinned : Pinned := { name := "ytonbcipofakpjaa", sum := "881bcf581b91ceacc6b04535e76c46548751c2243f9e1ba7ab54aca386caab1d", checked := Try.checked }
namespace Rows
def none {H : Type} : Left H := { results := [], args := [] }

/-- 'espalierlaw06.PlainNames': WHATEVER THE INPUT: true; the input reads as it did. -/
def plainNamesSpec : ChangeSpec := { name := "plainNames", fn := fun _ => fun
  | [] => { results := [.lit (.bool true)], args := [] }
  | _ => none }
def plainNamesRow : OpenClaim := { program := "ytonbcipofakpjaa", sum := "881bcf581b91ceacc6b04535e76c46548751c2243f9e1ba7ab54aca386caab1d", func := "espalier/espalierlaw06.PlainNames", spec := "plainNames", inPlace := ["internal/bytealg.Compare", "slices.overlaps[espalier/api.Cell]"], apart := false }
def PlainNamesSaid : Prop := plainNamesRow.holds Try.pinned (OpenSpec.ofChange plainNamesSpec)

/-- ITS FALSE NEIGHBOUR: 'it returns false'. Refute it at one input. -/
def plainNamesWrong : ChangeSpec := { name := "plainNames", fn := fun _ => fun
  | [] => { results := [.lit (.bool false)], args := [] }
  | _ => none }
def PlainNamesWrongFalsely : Prop := plainNamesRow.holds Try.pinned (OpenSpec.ofChange plainNamesWrong)

/-- 'espalierlaw06.PlainEncodes': WHATEVER THE INPUT: true; the input reads as it did. -/
def plainEncodesSpec : ChangeSpec := { name := "plainEncodes", fn := fun _ => fun
  | [d1, d2, d3] => { results := [.lit (.bool true)], args := [d1, d2, d3] }
  | _ => none }
def plainEncodesRow : OpenClaim := { program := "ytonbcipofakpjaa", sum := "881bcf581b91ceacc6b04535e76c46548751c2243f9e1ba7ab54aca386caab1d", func := "espalier/espalierlaw06.PlainEncodes", spec := "plainEncodes", inPlace := ["internal/bytealg.Compare", "slices.overlaps[espalier/api.Cell]"], apart := false }
def PlainEncodesSaid : Prop := plainEncodesRow.holds Try.pinned (OpenSpec.ofChange plainEncodesSpec)

/-- ITS FALSE NEIGHBOUR: 'it returns false'. Refute it at one input. -/
def plainEncodesWrong : ChangeSpec := { name := "plainEncodes", fn := fun _ => fun
  | [d1, d2, d3] => { results := [.lit (.bool false)], args := [d1, d2, d3] }
  | _ => none }
def PlainEncodesWrongFalsely : Prop := plainEncodesRow.holds Try.pinned (OpenSpec.ofChange plainEncodesWrong)

/-- 'espalierlaw06.PlainThree': WHATEVER THE INPUT: true; the input reads as it did. -/
def plainThreeSpec : ChangeSpec := { name := "plainThree", fn := fun _ => fun
  | [d1, d2, d3] => { results := [.lit (.bool true)], args := [d1, d2, d3] }
  | _ => none }
def plainThreeRow : OpenClaim := { program := "ytonbcipofakpjaa", sum := "881bcf581b91ceacc6b04535e76c46548751c2243f9e1ba7ab54aca386caab1d", func := "espalier/espalierlaw06.PlainThree", spec := "plainThree", inPlace := ["internal/bytealg.Compare", "slices.overlaps[espalier/api.Cell]"], apart := false }
def PlainThreeSaid : Prop := plainThreeRow.holds Try.pinned (OpenSpec.ofChange plainThreeSpec)

/-- ITS FALSE NEIGHBOUR: 'it returns false'. Refute it at one input. -/
def plainThreeWrong : ChangeSpec := { name := "plainThree", fn := fun _ => fun
  | [d1, d2, d3] => { results := [.lit (.bool false)], args := [d1, d2, d3] }
  | _ => none }
def PlainThreeWrongFalsely : Prop := plainThreeRow.holds Try.pinned (OpenSpec.ofChange plainThreeWrong)

/-- 'espalierlaw06.PlainBack': WHATEVER THE INPUT: true; the input reads as it did. -/
def plainBackSpec : ChangeSpec := { name := "plainBack", fn := fun _ => fun
  | [d1, d2, d3] => { results := [.lit (.bool true)], args := [d1, d2, d3] }
  | _ => none }
def plainBackRow : OpenClaim := { program := "ytonbcipofakpjaa", sum := "881bcf581b91ceacc6b04535e76c46548751c2243f9e1ba7ab54aca386caab1d", func := "espalier/espalierlaw06.PlainBack", spec := "plainBack", inPlace := ["internal/bytealg.Compare", "slices.overlaps[espalier/api.Cell]"], apart := false }
def PlainBackSaid : Prop := plainBackRow.holds Try.pinned (OpenSpec.ofChange plainBackSpec)

/-- ITS FALSE NEIGHBOUR: 'it returns false'. Refute it at one input. -/
def plainBackWrong : ChangeSpec := { name := "plainBack", fn := fun _ => fun
  | [d1, d2, d3] => { results := [.lit (.bool false)], args := [d1, d2, d3] }
  | _ => none }
def PlainBackWrongFalsely : Prop := plainBackRow.holds Try.pinned (OpenSpec.ofChange plainBackWrong)

/-- 'espalierlaw06.PlainTotal': WHATEVER THE INPUT: true; the input reads as it did. -/
def plainTotalSpec : ChangeSpec := { name := "plainTotal", fn := fun _ => fun
  | [d1, d2] => { results := [.lit (.bool true)], args := [d1, d2] }
  | _ => none }
def plainTotalRow : OpenClaim := { program := "ytonbcipofakpjaa", sum := "881bcf581b91ceacc6b04535e76c46548751c2243f9e1ba7ab54aca386caab1d", func := "espalier/espalierlaw06.PlainTotal", spec := "plainTotal", inPlace := ["internal/bytealg.Compare", "slices.overlaps[espalier/api.Cell]"], apart := false }
def PlainTotalSaid : Prop := plainTotalRow.holds Try.pinned (OpenSpec.ofChange plainTotalSpec)

/-- ITS FALSE NEIGHBOUR: 'it returns false'. Refute it at one input. -/
def plainTotalWrong : ChangeSpec := { name := "plainTotal", fn := fun _ => fun
  | [d1, d2] => { results := [.lit (.bool false)], args := [d1, d2] }
  | _ => none }
def PlainTotalWrongFalsely : Prop := plainTotalRow.holds Try.pinned (OpenSpec.ofChange plainTotalWrong)

/-- 'espalierlaw06.PlainDecodes': WHATEVER THE INPUT: true; the input reads as it did. -/
def plainDecodesSpec : ChangeSpec := { name := "plainDecodes", fn := fun _ => fun
  | [d1, d2] => { results := [.lit (.bool true)], args := [d1, d2] }
  | _ => none }
def plainDecodesRow : OpenClaim := { program := "ytonbcipofakpjaa", sum := "881bcf581b91ceacc6b04535e76c46548751c2243f9e1ba7ab54aca386caab1d", func := "espalier/espalierlaw06.PlainDecodes", spec := "plainDecodes", inPlace := ["internal/bytealg.Compare", "slices.overlaps[espalier/api.Cell]"], apart := false }
def PlainDecodesSaid : Prop := plainDecodesRow.holds Try.pinned (OpenSpec.ofChange plainDecodesSpec)

/-- ITS FALSE NEIGHBOUR: 'it returns false'. Refute it at one input. -/
def plainDecodesWrong : ChangeSpec := { name := "plainDecodes", fn := fun _ => fun
  | [d1, d2] => { results := [.lit (.bool false)], args := [d1, d2] }
  | _ => none }
def PlainDecodesWrongFalsely : Prop := plainDecodesRow.holds Try.pinned (OpenSpec.ofChange plainDecodesWrong)

/-- 'espalierlaw06.PlainWorks': WHATEVER THE INPUT: true; the input reads as it did. -/
def plainWorksSpec : ChangeSpec := { name := "plainWorks", fn := fun _ => fun
  | [d1, d2, d3] => { results := [.lit (.bool true)], args := [d1, d2, d3] }
  | _ => none }
def plainWorksRow : OpenClaim := { program := "ytonbcipofakpjaa", sum := "881bcf581b91ceacc6b04535e76c46548751c2243f9e1ba7ab54aca386caab1d", func := "espalier/espalierlaw06.PlainWorks", spec := "plainWorks", inPlace := ["internal/bytealg.Compare", "slices.overlaps[espalier/api.Cell]"], apart := false }
def PlainWorksSaid : Prop := plainWorksRow.holds Try.pinned (OpenSpec.ofChange plainWorksSpec)

/-- ITS FALSE NEIGHBOUR: 'it returns false'. Refute it at one input. -/
def plainWorksWrong : ChangeSpec := { name := "plainWorks", fn := fun _ => fun
  | [d1, d2, d3] => { results := [.lit (.bool false)], args := [d1, d2, d3] }
  | _ => none }
def PlainWorksWrongFalsely : Prop := plainWorksRow.holds Try.pinned (OpenSpec.ofChange plainWorksWrong)

/- THE SECOND FORM. 'bulk': how many values and letters a reading holds, each counted each time it is reached (what is shared counts as often as it is met; a slice's spare places count too). A statement '..UptoSaid' is the law's where the arguments, and the package variables that the reading takes, are together of bulk at most 1048576: NARROWER than '..Said'. Prove '..Said' where nothing that the law and all that it calls make is longer than what came in: it says more and counts as full. Else prove '..UptoSaid'. A law counts once. -/
mutual
def uptoBulk {H : Type} : DataW H → Nat
  | .lit (.string bytes) => bytes.length + 1
  | .lit _ => 1
  | .nil => 1
  | .ptr d => uptoBulk d + 1
  | .slice elems spare => uptoBulkAll elems + uptoBulkAll spare + 1
  | .agg parts => uptoBulkAll parts + 1
  | .iface _ d => uptoBulk d + 1
  | .map entries => uptoBulkEntries entries + 1
  | .held _ => 1
def uptoBulkAll {H : Type} : List (DataW H) → Nat
  | [] => 0
  | d :: r => uptoBulk d + uptoBulkAll r
def uptoBulkEntries {H : Type} : List (Lit × DataW H) → Nat
  | [] => 0
  | x :: r => uptoBulkEntry x + uptoBulkEntries r
def uptoBulkEntry {H : Type} : Lit × DataW H → Nat
  | (.string bytes, d) => bytes.length + uptoBulk d + 1
  | (_, d) => uptoBulk d + 1
 end
def uptoSmall : (H : Type) → List (DataW H) → Bool := fun _ ds => decide (uptoBulkAll ds ≤ 1048576)
def OpenSpec.upto (s : _root_.Go.ChangeSpec) : _root_.Go.OpenSpec := { _root_.Go.OpenSpec.ofChange s with cond := some uptoSmall }

/-- 'espalierlaw06.PlainNames', WHERE WHAT IT READS IS OF BULK AT MOST 1048576: true; the input reads as it did. -/
def plainNamesUptoRow : OpenClaim := { program := "ytonbcipofakpjaa", sum := "881bcf581b91ceacc6b04535e76c46548751c2243f9e1ba7ab54aca386caab1d", func := "espalier/espalierlaw06.PlainNames", spec := "plainNames", inPlace := ["internal/bytealg.Compare", "slices.overlaps[espalier/api.Cell]"], apart := false, narrowed := true }
def PlainNamesUptoSaid : Prop := plainNamesUptoRow.holds Try.pinned (OpenSpec.upto plainNamesSpec)

/-- 'espalierlaw06.PlainEncodes', WHERE WHAT IT READS IS OF BULK AT MOST 1048576: true; the input reads as it did. -/
def plainEncodesUptoRow : OpenClaim := { program := "ytonbcipofakpjaa", sum := "881bcf581b91ceacc6b04535e76c46548751c2243f9e1ba7ab54aca386caab1d", func := "espalier/espalierlaw06.PlainEncodes", spec := "plainEncodes", inPlace := ["internal/bytealg.Compare", "slices.overlaps[espalier/api.Cell]"], apart := false, narrowed := true }
def PlainEncodesUptoSaid : Prop := plainEncodesUptoRow.holds Try.pinned (OpenSpec.upto plainEncodesSpec)

/-- 'espalierlaw06.PlainThree', WHERE WHAT IT READS IS OF BULK AT MOST 1048576: true; the input reads as it did. -/
def plainThreeUptoRow : OpenClaim := { program := "ytonbcipofakpjaa", sum := "881bcf581b91ceacc6b04535e76c46548751c2243f9e1ba7ab54aca386caab1d", func := "espalier/espalierlaw06.PlainThree", spec := "plainThree", inPlace := ["internal/bytealg.Compare", "slices.overlaps[espalier/api.Cell]"], apart := false, narrowed := true }
def PlainThreeUptoSaid : Prop := plainThreeUptoRow.holds Try.pinned (OpenSpec.upto plainThreeSpec)

/-- 'espalierlaw06.PlainBack', WHERE WHAT IT READS IS OF BULK AT MOST 1048576: true; the input reads as it did. -/
def plainBackUptoRow : OpenClaim := { program := "ytonbcipofakpjaa", sum := "881bcf581b91ceacc6b04535e76c46548751c2243f9e1ba7ab54aca386caab1d", func := "espalier/espalierlaw06.PlainBack", spec := "plainBack", inPlace := ["internal/bytealg.Compare", "slices.overlaps[espalier/api.Cell]"], apart := false, narrowed := true }
def PlainBackUptoSaid : Prop := plainBackUptoRow.holds Try.pinned (OpenSpec.upto plainBackSpec)

/-- 'espalierlaw06.PlainTotal', WHERE WHAT IT READS IS OF BULK AT MOST 1048576: true; the input reads as it did. -/
def plainTotalUptoRow : OpenClaim := { program := "ytonbcipofakpjaa", sum := "881bcf581b91ceacc6b04535e76c46548751c2243f9e1ba7ab54aca386caab1d", func := "espalier/espalierlaw06.PlainTotal", spec := "plainTotal", inPlace := ["internal/bytealg.Compare", "slices.overlaps[espalier/api.Cell]"], apart := false, narrowed := true }
def PlainTotalUptoSaid : Prop := plainTotalUptoRow.holds Try.pinned (OpenSpec.upto plainTotalSpec)

/-- 'espalierlaw06.PlainDecodes', WHERE WHAT IT READS IS OF BULK AT MOST 1048576: true; the input reads as it did. -/
def plainDecodesUptoRow : OpenClaim := { program := "ytonbcipofakpjaa", sum := "881bcf581b91ceacc6b04535e76c46548751c2243f9e1ba7ab54aca386caab1d", func := "espalier/espalierlaw06.PlainDecodes", spec := "plainDecodes", inPlace := ["internal/bytealg.Compare", "slices.overlaps[espalier/api.Cell]"], apart := false, narrowed := true }
def PlainDecodesUptoSaid : Prop := plainDecodesUptoRow.holds Try.pinned (OpenSpec.upto plainDecodesSpec)

/-- 'espalierlaw06.PlainWorks', WHERE WHAT IT READS IS OF BULK AT MOST 1048576: true; the input reads as it did. -/
def plainWorksUptoRow : OpenClaim := { program := "ytonbcipofakpjaa", sum := "881bcf581b91ceacc6b04535e76c46548751c2243f9e1ba7ab54aca386caab1d", func := "espalier/espalierlaw06.PlainWorks", spec := "plainWorks", inPlace := ["internal/bytealg.Compare", "slices.overlaps[espalier/api.Cell]"], apart := false, narrowed := true }
def PlainWorksUptoSaid : Prop := plainWorksUptoRow.holds Try.pinned (OpenSpec.upto plainWorksSpec)

end Rows
end Go.Proofs.Ytonbcipofakpjaa
