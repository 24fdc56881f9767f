/- bytes.IndexByte, Count (of one byte), Compare, Clone: contracts. -/
import Derived.Test.YtijlebjldnhnaaaMem3
import Derived.Test.YtijlebjldnhnaaaInkTextF
import Derived.Test.YtijlebjldnhnaaaInkFixed
import Derived.Lib.Bytealg
import Derived.Laws.Entries
import Derived.Laws.Externs
namespace Go.Proofs.Ytijlebjldnhnaaa
open Go.RowKit
theorem run_loadB {w : World} : ∀ (l : List UInt8) (a : Addr) (acc : ByteArray), (∀ j (h : j < l.length), w.cell? (a.add j) = some (.int .u8 (l[j].toNat : Int))) →
    (Extern.Bytes.loadBytes a l.length acc).run Try.prog w = .ok ⟨acc.data ++ l.toArray⟩ w
  | [], a, acc, _ => by simp [Extern.Bytes.loadBytes]
  | x :: l, a, acc, h => by
    have h0 : w.cell? a = some (.int .u8 (x.toNat : Int)) := by
      have := h 0 (by simp)
      simpa [Addr.add] using this
    have ih := run_loadB l (a.add 1) (acc.push (x.toNat : Int).toNat.toUInt8) (fun j hj => by
      have := h (j + 1) (by simpa using hj)
      rw [add_of_add, Nat.add_comm 1 j]
      simpa using this)
    simp only [List.length_cons, Extern.Bytes.loadBytes, Sem.run_bind, run_load, h0, Result.andThen]
    rw [ih]
    congr 1
    apply ByteArray.ext
    simp [ByteArray.push]
theorem run_bytesOf {w : World} {v : Value} {l : List UInt8} (h : RdB w v l) : (Extern.Bytes.bytesOf v).run Try.prog w = .ok ⟨l.toArray⟩ w := by
  obtain ⟨A, c, rfl, h1, h2, h3⟩ := h
  cases A with
  | none =>
    have : l = [] := by
      cases l with
      | nil => rfl
      | cons x r => obtain ⟨ad, h, _⟩ := h3 0 (by simp); cases h
    subst this
    rfl
  | some a =>
    show (Extern.Bytes.loadBytes a l.length .empty).run Try.prog w = _
    rw [run_loadB l a .empty (fun j hj => by obtain ⟨ad, e, hc⟩ := h3 j hj; injection e with e; subst e; exact hc)]
    congr 1
    apply ByteArray.ext
    show (#[] : Array UInt8) ++ l.toArray = l.toArray
    simp
theorem run_bytesOf_str {w : World} (l : List UInt8) : (Extern.Bytes.bytesOf (.string ⟨l.toArray⟩)).run Try.prog w = .ok ⟨l.toArray⟩ w := rfl
theorem run_indexByte {w : World} {v : Value} {l : List UInt8} (h : RdB w v l) (c : Int) : (Extern.BytealgIndexByte.indexByte #[v, .int .u8 c]).run Try.prog w = .ok (.int .i64 (Lib.indexByte l c.toNat.toUInt8)) w := by
  have hs := Lib.run_indexByteString (P := Try.prog) ⟨l.toArray⟩ c w
  change Sem.run Try.prog (do
    let b ← Extern.Bytes.bytesOf (.string ⟨l.toArray⟩)
    let c ← Extern.Bytes.asByte (.int .u8 c)
    match (List.range b.size).find? fun i => b[i]! == c with
    | some i => pure (goInt i)
    | none => pure (goInt (-1))) w = _ at hs
  change Sem.run Try.prog (do
    let b ← Extern.Bytes.bytesOf v
    let c ← Extern.Bytes.asByte (.int .u8 c)
    match (List.range b.size).find? fun i => b[i]! == c with
    | some i => pure (goInt i)
    | none => pure (goInt (-1))) w = _
  rw [Sem.run_bind, run_bytesOf_str] at hs
  rw [Sem.run_bind, run_bytesOf h]
  exact hs
theorem run_count {w : World} {v : Value} {l : List UInt8} (h : RdB w v l) (c : Int) : (Extern.BytealgCount.count #[v, .int .u8 c]).run Try.prog w = .ok (.int .i64 (Lib.countByte l c.toNat.toUInt8)) w := by
  have hs := Lib.run_countString (P := Try.prog) ⟨l.toArray⟩ c w
  change Sem.run Try.prog (do
    let b ← Extern.Bytes.bytesOf (.string ⟨l.toArray⟩)
    let c' ← Extern.Bytes.asByte (.int .u8 c)
    pure (goInt (b.foldl (fun n x => if x == c' then n + 1 else n) (0 : Nat)))) w = _ at hs
  change Sem.run Try.prog (do
    let b ← Extern.Bytes.bytesOf v
    let c' ← Extern.Bytes.asByte (.int .u8 c)
    pure (goInt (b.foldl (fun n x => if x == c' then n + 1 else n) (0 : Nat)))) w = _
  rw [Sem.run_bind, run_bytesOf_str] at hs
  rw [Sem.run_bind, run_bytesOf h]
  exact hs
theorem ordC_lib : ∀ (a b : List UInt8), Lib.compareBytes a b = ordC a b
  | [], [] => rfl
  | [], _ :: _ => rfl
  | _ :: _, [] => rfl
  | x :: a, y :: b => by unfold Lib.compareBytes ordC; rw [ordC_lib a b]
theorem run_compare {w : World} {u v : Value} {a b : List UInt8} (h : RdB w u a) (h' : RdB w v b) : (Extern.BytealgCompare.compare #[u, v]).run Try.prog w = .ok (.int .i64 (ordC a b)) w := by
  have hs := Lib.run_compareString (P := Try.prog) ⟨a.toArray⟩ ⟨b.toArray⟩ w
  have e : Lib.compareBytes (⟨a.toArray⟩ : ByteArray).data.toList (⟨b.toArray⟩ : ByteArray).data.toList = ordC a b := ordC_lib a b
  rw [e] at hs
  change Sem.run Try.prog (do pure (goInt (Extern.BytealgCompare.cmp (← Extern.Bytes.bytesOf (.string ⟨a.toArray⟩)) (← Extern.Bytes.bytesOf (.string ⟨b.toArray⟩))))) w = _ at hs
  change Sem.run Try.prog (do pure (goInt (Extern.BytealgCompare.cmp (← Extern.Bytes.bytesOf u) (← Extern.Bytes.bytesOf v)))) w = _
  simp only [Sem.run_bind, run_bytesOf_str, Result.andThen] at hs
  simp only [Sem.run_bind, run_bytesOf h, run_bytesOf h', Result.andThen]
  exact hs
set_option maxHeartbeats 1000000 in
theorem IndexByte_any (v : Value) (l : List UInt8) (c : Int) (w : World) (hv : RdB w v l) :
    Calls Try.prog 41 #[v, .int .u8 c] w fun e w' => e = .returned (.int .i64 (Lib.indexByte l c.toNat.toUInt8)) ∧ w = w' := by
  go_enter Try.func41, Try.ntmps41
  go_wp2
  rw [run_callFunc_extern Try.func49 (by kernel_rfl) (by kernel_rfl) (by kernel_rfl) (e := Extern.BytealgIndexByte.indexByte) (by kernel_rfl), run_indexByte hv]
  simp only [Result.andThen]
  rw [Oper.upon_value]
  go_wp2
  go_ret
  exact ⟨rfl, rfl⟩
set_option maxHeartbeats 1000000 in
theorem Compare_any (u v : Value) (a b : List UInt8) (w : World) (hu : RdB w u a) (hv : RdB w v b) :
    Calls Try.prog 45 #[u, v] w fun e w' => e = .returned (.int .i64 (ordC a b)) ∧ w = w' := by
  go_enter Try.func45, Try.ntmps45
  go_wp2
  rw [run_callFunc_extern Try.func53 (by kernel_rfl) (by kernel_rfl) (by kernel_rfl) (e := Extern.BytealgCompare.compare) (by kernel_rfl), run_compare hu hv]
  simp only [Result.andThen]
  rw [Oper.upon_value]
  go_wp2
  go_ret
  exact ⟨rfl, rfl⟩
set_option maxHeartbeats 1000000 in
/-- bytes.Count, of one byte that was just laid. -/
theorem Count_any (v : Value) (l : List UInt8) (g cap : Nat) (c : Int) (w : World) (hv : RdB w v l) (hc : w.cell? ⟨g, 0, none⟩ = some (.int .u8 c)) :
    Calls Try.prog 42 #[v, .slice (some ⟨g, 0, none⟩) 1 cap] w fun e w' => e = .returned (.int .i64 (l.count c.toNat.toUInt8 : Nat)) ∧ w = w' := by
  go_enter Try.func42, Try.ntmps42
  go_wp2
  rw [run_callFunc_extern Try.func51 (by kernel_rfl) (by kernel_rfl) (by kernel_rfl) (e := Extern.BytealgCount.count) (by kernel_rfl), run_count hv]
  simp only [Result.andThen]
  rw [Oper.upon_value]
  go_wp2
  go_ret
  exact ⟨rfl, rfl⟩
set_option maxHeartbeats 1000000 in
/-- bytes.Clone, of one byte or more. -/
theorem Clone_any (v : Value) (l : List UInt8) (w : World) (hv : RdB w v l) (h0 : 0 < l.length) (hl : l.length ≤ 140737488355328) :
    Calls Try.prog 46 #[v] w fun e w' => ∃ v', e = .returned v' ∧ OwB w' w.heap.size v' l ∧ Below w.heap.size w w' := by
  obtain ⟨A, c, rfl, hm⟩ := hv.form
  obtain ⟨ad, rfl, _⟩ := hv.at_ (j := 0) h0
  have q22 : ∀ (w : World) (a : Option Addr) (n c n' c' : Nat), (binOp .eql 24 (.slice a n c) (.slice none n' c')).run Try.prog w = .ok (.bool a.isNone) w := fun w a n c n' c' => Lib.run_eql_slice_nil w _ _ a n c n' c' Try.underlying24
  go_enter Try.func46, Try.ntmps46
  have hbase : OwB (w.alloc (.cells #[] 5)) w.heap.size (.slice (some ⟨w.heap.size, 0, none⟩) 0 0) [] := by
    have := (OBlk.new' w 5 []).owB' (base := w.heap.size) (m := []) (Nat.le_refl _) (by simp)
    exact this
  go_wp2_with (first
    | (at_builtin; refine wp_append_B rfl (.tmp 5) (.tmp 6) rfl w.heap.size _ [] rfl hbase _ l rfl (hv.alloc _) (by simp; omega) (by simp) ?_; intro v' w' ho hg hbk)
    | fail)
  go_ret
  exact ⟨v', rfl, ho, ((Below.refl w.heap.size w).alloc (Nat.le_refl _) _).grown hg (by simp) (fun k hk => Nat.le_of_eq (Option.some.inj hk))⟩
end Go.Proofs.Ytijlebjldnhnaaa
