/- Texts joined: packed.Page.Remove; node.Node -/
import Derived.Test.YtfcnkpofcekmgaaGreatNR3
import Derived.Test.YtfcnkpofcekmgaaGreatNR16
-- packed.Page.Remove: the walk.
namespace Go.Proofs.YtfcnkpofcekmgaaGreat
open Go.RowKit
section
variable {w0 w : World} {L : List Ent} {p P used waste ug : Nat} {kind : Int} {U PV N B : Option Addr} {uc pvc n3 c7 : Nat} {l : List CV} {pre : List UInt8}
end
end Go.Proofs.YtfcnkpofcekmgaaGreat

-- node.Node: its methods, behind an interface.
namespace Go.Proofs.YtfcnkpofcekmgaaGreat
open Go.RowKit
abbrev ndV1 (p : Nat) : Value := .iface 106 (.pointer (some ⟨p, 0, none⟩))
theorem im1_kind (p : Value) (k : Nat) (w : World) : (method (k + 1) 106 p "Kind").run Tryz.prog w = .ok (202, p) w := by kernel_rfl
theorem im1_len (p : Value) (k : Nat) (w : World) : (method (k + 1) 106 p "Len").run Tryz.prog w = .ok (203, p) w := by kernel_rfl
theorem im1_used (p : Value) (k : Nat) (w : World) : (method (k + 1) 106 p "Used").run Tryz.prog w = .ok (206, p) w := by kernel_rfl
theorem im1_bytes (p : Value) (k : Nat) (w : World) : (method (k + 1) 106 p "Bytes").run Tryz.prog w = .ok (198, p) w := by kernel_rfl
theorem im1_cell (p : Value) (k : Nat) (w : World) : (method (k + 1) 106 p "Cell").run Tryz.prog w = .ok (199, p) w := by kernel_rfl
theorem im1_find (p : Value) (k : Nat) (w : World) : (method (k + 1) 106 p "Find").run Tryz.prog w = .ok (200, p) w := by kernel_rfl
theorem im1_insert (p : Value) (k : Nat) (w : World) : (method (k + 1) 106 p "Insert").run Tryz.prog w = .ok (201, p) w := by kernel_rfl
theorem im1_nil (a : Addr) (k : Nat) (w : World) : (nilAhead (k + 1) 106 (.pointer (some a)) "Insert").run Tryz.prog w = .ok (some false) w := by kernel_rfl
abbrev ndV2 (p : Nat) : Value := .iface 111 (.pointer (some ⟨p, 0, none⟩))
theorem im2_kind (p : Value) (k : Nat) (w : World) : (method (k + 1) 111 p "Kind").run Tryz.prog w = .ok (220, p) w := by kernel_rfl
theorem im2_len (p : Value) (k : Nat) (w : World) : (method (k + 1) 111 p "Len").run Tryz.prog w = .ok (221, p) w := by kernel_rfl
theorem im2_used (p : Value) (k : Nat) (w : World) : (method (k + 1) 111 p "Used").run Tryz.prog w = .ok (224, p) w := by kernel_rfl
theorem im2_bytes (p : Value) (k : Nat) (w : World) : (method (k + 1) 111 p "Bytes").run Tryz.prog w = .ok (216, p) w := by kernel_rfl
theorem im2_cell (p : Value) (k : Nat) (w : World) : (method (k + 1) 111 p "Cell").run Tryz.prog w = .ok (217, p) w := by kernel_rfl
theorem im2_insert (p : Value) (k : Nat) (w : World) : (method (k + 1) 111 p "Insert").run Tryz.prog w = .ok (219, p) w := by kernel_rfl
theorem im2_nil (a : Addr) (k : Nat) (w : World) : (nilAhead (k + 1) 111 (.pointer (some a)) "Insert").run Tryz.prog w = .ok (some false) w := by kernel_rfl
end Go.Proofs.YtfcnkpofcekmgaaGreat
