/- Calls through api.Room, whose value is a bench. -/
import Derived.Test.YtgnhakgfgdelpaaBen4
import Derived.Test.YtgnhakgfgdelpaaSpDec
namespace Go.Proofs.Ytgnhakgfgdelpaa
open Go.RowKit Go.Maps
abbrev roomV (gb : Nat) : Value := .iface 41 (.pointer (some ⟨gb, 0, none⟩))
theorem rm_size (p : Value) (k : Nat) (w : World) : (method (k + 1) 41 p "Size").run Try.prog w = .ok (65, p) w := by kernel_rfl
theorem rm_read (p : Value) (k : Nat) (w : World) : (method (k + 1) 41 p "Read").run Try.prog w = .ok (31, p) w := by kernel_rfl
theorem rm_alloc (p : Value) (k : Nat) (w : World) : (method (k + 1) 41 p "Alloc").run Try.prog w = .ok (70, p) w := by kernel_rfl
theorem rm_write (p : Value) (k : Nat) (w : World) : (method (k + 1) 41 p "Write").run Try.prog w = .ok (71, p) w := by kernel_rfl
theorem rm_free (p : Value) (k : Nat) (w : World) : (method (k + 1) 41 p "Free").run Try.prog w = .ok (66, p) w := by kernel_rfl
theorem rm_spare (p : Value) (k : Nat) (w : World) : (method (k + 1) 41 p "Spare").run Try.prog w = .ok (69, p) w := by kernel_rfl
theorem rm_nil (a : Addr) (k : Nat) (w : World) : (nilAhead (k + 1) 41 (.pointer (some a)) "Write").run Try.prog w = .ok (some false) w := by kernel_rfl
end Go.Proofs.Ytgnhakgfgdelpaa
