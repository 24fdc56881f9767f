/- bytes.IndexByte, Count (of one byte), Compare, Clone: contracts. -/
import Derived.Test.YtonbcipofakpjaaMem3
import Derived.Test.YtonbcipofakpjaaInkTextF
import Derived.Test.YtonbcipofakpjaaInkFixed
import Derived.Lib.Bytealg
import Derived.Laws.Entries
import Derived.Laws.Externs
namespace Go.Proofs.Ytonbcipofakpjaa
open Go.RowKit
theorem run_loadB {w : World} : ∀ (l : List UInt8) (a : Addr) (acc : ByteArray), (∀ j (h : j < l.length), w.cell? (a.add j) = some (.int .u8 (l[j].toNat : Int))) →
    (Extern.Bytes.loadBytes a l.length acc).run Try.prog w = .ok ⟨acc.data ++ l.toArray⟩ w
  | [], a, acc, _ => by simp [Extern.Bytes.loadBytes]
  | x :: l, a, acc, h => by
    have h0 : w.cell? a = some (.int .u8 (x.toNat : Int)) := by
      have := h 0 (by simp)
      simpa [Addr.add] using this
    have ih := run_loadB l (a.add 1) (acc.push (x.toNat : Int).toNat.toUInt8) (fun j hj => by
      have := h (j + 1) (by simpa using hj)
      rw [add_of_add, Nat.add_comm 1 j]
      simpa using this)
    simp only [List.length_cons, Extern.Bytes.loadBytes, Sem.run_bind, run_load, h0, Result.andThen]
    rw [ih]
    congr 1
    apply ByteArray.ext
    simp [ByteArray.push]
theorem run_bytesOf {w : World} {v : Value} {l : List UInt8} (h : RdB w v l) : (Extern.Bytes.bytesOf v).run Try.prog w = .ok ⟨l.toArray⟩ w := by
  obtain ⟨A, c, rfl, h1, h2, h3⟩ := h
  cases A with
  | none =>
    have : l = [] := by
      cases l with
      | nil => rfl
      | cons x r => obtain ⟨ad, h, _⟩ := h3 0 (by simp); cases h
    subst this
    rfl
  | some a =>
    show (Extern.Bytes.loadBytes a l.length .empty).run Try.prog w = _
    rw [run_loadB l a .empty (fun j hj => by obtain ⟨ad, e, hc⟩ := h3 j hj; injection e with e; subst e; exact hc)]
    congr 1
    apply ByteArray.ext
    show (#[] : Array UInt8) ++ l.toArray = l.toArray
    simp
theorem run_bytesOf_str {w : World} (l : List UInt8) : (Extern.Bytes.bytesOf (.string ⟨l.toArray⟩)).run Try.prog w = .ok ⟨l.toArray⟩ w := rfl
theorem run_indexByte {w : World} {v : Value} {l : List UInt8} (h : RdB w v l) (c : Int) : (Extern.BytealgIndexByte.indexByte #[v, .int .u8 c]).run Try.prog w = .ok (.int .i64 (Lib.indexByte l c.toNat.toUInt8)) w := by
  have hs := Lib.run_indexByteString (P := Try.prog) ⟨l.toArray⟩ c w
  change Sem.run Try.prog (do
    let b ← Extern.Bytes.bytesOf (.string ⟨l.toArray⟩)
    let c ← Extern.Bytes.asByte (.int .u8 c)
    match (List.range b.size).find? fun i => b[i]! == c with
    | some i => pure (goInt i)
    | none => pure (goInt (-1))) w = _ at hs
  change Sem.run Try.prog (do
    let b ← Extern.Bytes.bytesOf v
    let c ← Extern.Bytes.asByte (.int .u8 c)
    match (List.range b.size).find? fun i => b[i]! == c with
    | some i => pure (goInt i)
    | none => pure (goInt (-1))) w = _
  rw [Sem.run_bind, run_bytesOf_str] at hs
  rw [Sem.run_bind, run_bytesOf h]
  exact hs
theorem run_count {w : World} {v : Value} {l : List UInt8} (h : RdB w v l) (c : Int) : (Extern.BytealgCount.count #[v, .int .u8 c]).run Try.prog w = .ok (.int .i64 (Lib.countByte l c.toNat.toUInt8)) w := by
  have hs := Lib.run_countString (P := Try.prog) ⟨l.toArray⟩ c w
  change Sem.run Try.prog (do
    let b ← Extern.Bytes.bytesOf (.string ⟨l.toArray⟩)
    let c' ← Extern.Bytes.asByte (.int .u8 c)
    pure (goInt (b.foldl (fun n x => if x == c' then n + 1 else n) (0 : Nat)))) w = _ at hs
  change Sem.run Try.prog (do
    let b ← Extern.Bytes.bytesOf v
    let c' ← Extern.Bytes.asByte (.int .u8 c)
    pure (goInt (b.foldl (fun n x => if x == c' then n + 1 else n) (0 : Nat)))) w = _
  rw [Sem.run_bind, run_bytesOf_str] at hs
  rw [Sem.run_bind, run_bytesOf h]
  exact hs
theorem ordC_lib : ∀ (a b : List UInt8), Lib.compareBytes a b = ordC a b
  | [], [] => rfl
  | [], _ :: _ => rfl
  | _ :: _, [] => rfl
  | x :: a, y :: b => by unfold Lib.compareBytes ordC; rw [ordC_lib a b]
theorem run_compare {w : World} {u v : Value} {a b : List UInt8} (h : RdB w u a) (h' : RdB w v b) : (Extern.BytealgCompare.compare #[u, v]).run Try.prog w = .ok (.int .i64 (ordC a b)) w := by
  have hs := Lib.run_compareString (P := Try.prog) ⟨a.toArray⟩ ⟨b.toArray⟩ w
  have e : Lib.compareBytes (⟨a.toArray⟩ : ByteArray).data.toList (⟨b.toArray⟩ : ByteArray).data.toList = ordC a b := ordC_lib a b
  rw [e] at hs
  change Sem.run Try.prog (do pure (goInt (Extern.BytealgCompare.cmp (← Extern.Bytes.bytesOf (.string ⟨a.toArray⟩)) (← Extern.Bytes.bytesOf (.string ⟨b.toArray⟩))))) w = _ at hs
  change Sem.run Try.prog (do pure (goInt (Extern.BytealgCompare.cmp (← Extern.Bytes.bytesOf u) (← Extern.Bytes.bytesOf v)))) w = _
  simp only [Sem.run_bind, run_bytesOf_str, Result.andThen] at hs
  simp only [Sem.run_bind, run_bytesOf h, run_bytesOf h', Result.andThen]
  exact hs
set_option maxRecDepth 100000 in
set_option maxHeartbeats 1000000 in
theorem Compare_any (u v : Value) (a b : List UInt8) (w : World) (hu : RdB w u a) (hv : RdB w v b) :
    Calls Try.prog 51 #[u, v] w fun e w' => e = .returned (.int .i64 (ordC a b)) ∧ w = w' := by
  go_enter Try.func51, Try.ntmps51
  go_wp2
  rw [run_callFunc_extern Try.func76 (by kernel_rfl) (by kernel_rfl) (by kernel_rfl) (e := Extern.BytealgCompare.compare) (by kernel_rfl), run_compare hu hv]
  simp only [Result.andThen]
  rw [Oper.upon_value]
  go_wp2
  go_ret
  exact ⟨rfl, rfl⟩
end Go.Proofs.Ytonbcipofakpjaa
