/- Texts joined: packed.Page.Set -/
import Derived.Test.YtfcnkpofcekmgaaGreatNR15
-- packed.Page.Set: the walk.
namespace Go.Proofs.YtfcnkpofcekmgaaGreat
open Go.RowKit
section
variable {w0 w : World} {L : List Ent} {p P used waste bx ug ng : Nat} {kind : Int} {U PV N B KA VA K2 V2 : Option Addr} {uc pvc n3 c7 ka va kc vc : Nat} {l : List CV} {pre key val : List UInt8} {ck pg ct : Int}
end
end Go.Proofs.YtfcnkpofcekmgaaGreat
