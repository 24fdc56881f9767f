/- Texts joined: bytes.IndexByte, Count (of one byte), Compare, Clone; Cells of pages, where they lie.; Slices of cells; Blocks outside of a set stand; Owned cells; sort.Search; packed.Page's within, Find -/
import Derived.Test.YtaniabhajngdeaaKN1
import Derived.Test.YtaniabhajngdeaaKN2
import Derived.Test.YtaniabhajngdeaaKN3
import Derived.Test.YtaniabhajngdeaaKN4
import Derived.Lib.Bytealg
import Derived.Laws.Entries
import Derived.Laws.Externs
import Derived.Laws.Slices
import Derived.Maps.RangeWalk
import Derived.Maps.OwnSet
import Derived.Deep.QuietTactic
import Derived.BigQuiet
-- bytes.IndexByte, Count (of one byte), Compare, Clone: contracts.
namespace Go.Proofs.Ytaniabhajngdeaa
open Go.RowKit
theorem run_loadB {w : World} : ∀ (l : List UInt8) (a : Addr) (acc : ByteArray), (∀ j (h : j < l.length), w.cell? (a.add j) = some (.int .u8 (l[j].toNat : Int))) →
    (Extern.Bytes.loadBytes a l.length acc).run Try.prog w = .ok ⟨acc.data ++ l.toArray⟩ w
  | [], a, acc, _ => by simp [Extern.Bytes.loadBytes]
  | x :: l, a, acc, h => by
    have h0 : w.cell? a = some (.int .u8 (x.toNat : Int)) := by
      have := h 0 (by simp)
      simpa [Addr.add] using this
    have ih := run_loadB l (a.add 1) (acc.push (x.toNat : Int).toNat.toUInt8) (fun j hj => by
      have := h (j + 1) (by simpa using hj)
      rw [add_of_add, Nat.add_comm 1 j]
      simpa using this)
    simp only [List.length_cons, Extern.Bytes.loadBytes, Sem.run_bind, run_load, h0, Result.andThen]
    rw [ih]
    congr 1
    apply ByteArray.ext
    simp [ByteArray.push]
theorem run_bytesOf {w : World} {v : Value} {l : List UInt8} (h : RdB w v l) : (Extern.Bytes.bytesOf v).run Try.prog w = .ok ⟨l.toArray⟩ w := by
  obtain ⟨A, c, rfl, h1, h2, h3⟩ := h
  cases A with
  | none =>
    have : l = [] := by
      cases l with
      | nil => rfl
      | cons x r => obtain ⟨ad, h, _⟩ := h3 0 (by simp); cases h
    subst this
    rfl
  | some a =>
    show (Extern.Bytes.loadBytes a l.length .empty).run Try.prog w = _
    rw [run_loadB l a .empty (fun j hj => by obtain ⟨ad, e, hc⟩ := h3 j hj; injection e with e; subst e; exact hc)]
    congr 1
    apply ByteArray.ext
    show (#[] : Array UInt8) ++ l.toArray = l.toArray
    simp
theorem run_bytesOf_str {w : World} (l : List UInt8) : (Extern.Bytes.bytesOf (.string ⟨l.toArray⟩)).run Try.prog w = .ok ⟨l.toArray⟩ w := rfl
theorem run_indexByte {w : World} {v : Value} {l : List UInt8} (h : RdB w v l) (c : Int) : (Extern.BytealgIndexByte.indexByte #[v, .int .u8 c]).run Try.prog w = .ok (.int .i64 (Lib.indexByte l c.toNat.toUInt8)) w := by
  have hs := Lib.run_indexByteString (P := Try.prog) ⟨l.toArray⟩ c w
  change Sem.run Try.prog (do
    let b ← Extern.Bytes.bytesOf (.string ⟨l.toArray⟩)
    let c ← Extern.Bytes.asByte (.int .u8 c)
    match (List.range b.size).find? fun i => b[i]! == c with
    | some i => pure (goInt i)
    | none => pure (goInt (-1))) w = _ at hs
  change Sem.run Try.prog (do
    let b ← Extern.Bytes.bytesOf v
    let c ← Extern.Bytes.asByte (.int .u8 c)
    match (List.range b.size).find? fun i => b[i]! == c with
    | some i => pure (goInt i)
    | none => pure (goInt (-1))) w = _
  rw [Sem.run_bind, run_bytesOf_str] at hs
  rw [Sem.run_bind, run_bytesOf h]
  exact hs
theorem run_count {w : World} {v : Value} {l : List UInt8} (h : RdB w v l) (c : Int) : (Extern.BytealgCount.count #[v, .int .u8 c]).run Try.prog w = .ok (.int .i64 (Lib.countByte l c.toNat.toUInt8)) w := by
  have hs := Lib.run_countString (P := Try.prog) ⟨l.toArray⟩ c w
  change Sem.run Try.prog (do
    let b ← Extern.Bytes.bytesOf (.string ⟨l.toArray⟩)
    let c' ← Extern.Bytes.asByte (.int .u8 c)
    pure (goInt (b.foldl (fun n x => if x == c' then n + 1 else n) (0 : Nat)))) w = _ at hs
  change Sem.run Try.prog (do
    let b ← Extern.Bytes.bytesOf v
    let c' ← Extern.Bytes.asByte (.int .u8 c)
    pure (goInt (b.foldl (fun n x => if x == c' then n + 1 else n) (0 : Nat)))) w = _
  rw [Sem.run_bind, run_bytesOf_str] at hs
  rw [Sem.run_bind, run_bytesOf h]
  exact hs
theorem ordC_lib : ∀ (a b : List UInt8), Lib.compareBytes a b = ordC a b
  | [], [] => rfl
  | [], _ :: _ => rfl
  | _ :: _, [] => rfl
  | x :: a, y :: b => by unfold Lib.compareBytes ordC; rw [ordC_lib a b]
theorem run_compare {w : World} {u v : Value} {a b : List UInt8} (h : RdB w u a) (h' : RdB w v b) : (Extern.BytealgCompare.compare #[u, v]).run Try.prog w = .ok (.int .i64 (ordC a b)) w := by
  have hs := Lib.run_compareString (P := Try.prog) ⟨a.toArray⟩ ⟨b.toArray⟩ w
  have e : Lib.compareBytes (⟨a.toArray⟩ : ByteArray).data.toList (⟨b.toArray⟩ : ByteArray).data.toList = ordC a b := ordC_lib a b
  rw [e] at hs
  change Sem.run Try.prog (do pure (goInt (Extern.BytealgCompare.cmp (← Extern.Bytes.bytesOf (.string ⟨a.toArray⟩)) (← Extern.Bytes.bytesOf (.string ⟨b.toArray⟩))))) w = _ at hs
  change Sem.run Try.prog (do pure (goInt (Extern.BytealgCompare.cmp (← Extern.Bytes.bytesOf u) (← Extern.Bytes.bytesOf v)))) w = _
  simp only [Sem.run_bind, run_bytesOf_str, Result.andThen] at hs
  simp only [Sem.run_bind, run_bytesOf h, run_bytesOf h', Result.andThen]
  exact hs
set_option maxRecDepth 100000 in
set_option maxHeartbeats 1000000 in
theorem Compare_any (u v : Value) (a b : List UInt8) (w : World) (hu : RdB w u a) (hv : RdB w v b) :
    Calls Try.prog 49 #[u, v] w fun e w' => e = .returned (.int .i64 (ordC a b)) ∧ w = w' := by
  go_enter Try.func49, Try.ntmps49
  go_wp2
  rw [run_callFunc_extern Try.func83 (by kernel_rfl) (by kernel_rfl) (by kernel_rfl) (e := Extern.BytealgCompare.compare) (by kernel_rfl), run_compare hu hv]
  simp only [Result.andThen]
  rw [Oper.upon_value]
  go_wp2
  go_ret
  exact ⟨rfl, rfl⟩
end Go.Proofs.Ytaniabhajngdeaa

-- Cells of pages, where they lie.
namespace Go.Proofs.Ytaniabhajngdeaa
open Go.RowKit
structure CV where
  kv : Value
  vv : Value
  c : PC
instance : Inhabited CV := ⟨⟨.slice none 0 0, .slice none 0 0, default⟩⟩
def CV.cells (x : CV) : List Value := [x.kv, .int .i64 x.c.kind, x.vv, .int .i64 x.c.page, .int .i64 x.c.count]
def cellV (x : CV) : Value := .agg #[x.kv, .int .i64 x.c.kind, x.vv, .int .i64 x.c.page, .int .i64 x.c.count]
def i64r (n : Int) : Prop := -9223372036854775808 ≤ n ∧ n ≤ 9223372036854775807
structure CV.ok (W : World) (x : CV) : Prop where
  k : RdB W x.kv x.c.key
  v : RdB W x.vv x.c.val
  r1 : i64r x.c.kind
  r2 : i64r x.c.page
  r3 : i64r x.c.count
def flatC (l : List CV) : List Value := l.flatMap CV.cells
theorem flatC_length (l : List CV) : (flatC l).length = l.length * 5 := by
  induction l with
  | nil => rfl
  | cons x r ih =>
    have : flatC (x :: r) = x.cells ++ flatC r := rfl
    rw [this, List.length_append, ih, List.length_cons]
    show 5 + _ = _
    omega
theorem flatC_append (a b : List CV) : flatC (a ++ b) = flatC a ++ flatC b := by simp [flatC]
theorem flatC_at : ∀ (l : List CV) (i r : Nat) (hi : i < l.length), r < 5 → (flatC l)[i * 5 + r]? = l[i].cells[r]?
  | x :: s, 0, r, _, hr => by
    have : flatC (x :: s) = x.cells ++ flatC s := rfl
    rw [this, List.getElem?_append_left (by show _ < 5; omega)]
    simp
  | x :: s, i + 1, r, hi, hr => by
    have : flatC (x :: s) = x.cells ++ flatC s := rfl
    rw [this, List.getElem?_append_right (by show 5 ≤ _; omega)]
    have := flatC_at s i r (by simpa using hi) hr
    rw [show (i + 1) * 5 + r - x.cells.length = i * 5 + r by show _ - 5 = _; omega, this]
    rfl
structure RdCs (W : World) (v : Value) (l : List CV) : Prop where
  form : Rd W 5 v l.length (flatC l)
  ok : ∀ x ∈ l, x.ok W
def pcs (l : List CV) : List PC := l.map CV.c
theorem pcs_length (l : List CV) : (pcs l).length = l.length := by simp [pcs]
theorem CV.ok.below {w w' : World} {x : CV} (h : x.ok w) (hb : Below w.heap.size w w') : x.ok w' := { h with k := h.k.below hb (Nat.le_refl _), v := h.v.below hb (Nat.le_refl _) }
theorem RdCs.below {w w' : World} {v : Value} {l : List CV} (h : RdCs w v l) (hb : Below w.heap.size w w') : RdCs w' v l :=
  ⟨h.form.below hb (Nat.le_refl _), fun x hx => (h.ok x hx).below hb⟩
theorem RdCs.slice {w : World} {v : Value} {l : List CV} (h : RdCs w v l) : ∃ A c, v = .slice A l.length c ∧ l.length ≤ c ∧ c ≤ 9223372036854775807 := by
  obtain ⟨_, A, c, hv, h1, h2, _⟩ := h.form
  exact ⟨A, c, hv, h1, h2⟩
theorem RdCs.at_ {w : World} {A : Option Addr} {m c i : Nat} {l : List CV} (h : RdCs w (.slice A m c) l) (hi : i < l.length) :
    ∃ ad, A = some ad ∧ w.cell? (ad.add (i * 5)) = some l[i].kv ∧ w.cell? ⟨(ad.add (i * 5)).block, (ad.add (i * 5)).off + 1, none⟩ = some (.int .i64 l[i].c.kind) ∧ w.cell? ⟨(ad.add (i * 5)).block, (ad.add (i * 5)).off + 2, none⟩ = some l[i].vv ∧
      w.cell? ⟨(ad.add (i * 5)).block, (ad.add (i * 5)).off + 3, none⟩ = some (.int .i64 l[i].c.page) ∧ w.cell? ⟨(ad.add (i * 5)).block, (ad.add (i * 5)).off + 4, none⟩ = some (.int .i64 l[i].c.count) := by
  obtain ⟨_, A', c', hv, _, _, h3⟩ := h.form
  injection hv with hA
  subst hA
  have key : ∀ r u, r < 5 → l[i].cells[r]? = some u → ∃ ad, A = some ad ∧ w.cell? (ad.add (i * 5 + r)) = some u := fun r u hr hu => h3 (i * 5 + r) u (by rw [flatC_at l i r hi hr]; exact hu)
  obtain ⟨ad, rfl, e0⟩ := key 0 _ (by omega) rfl
  obtain ⟨_, he, e1⟩ := key 1 _ (by omega) rfl
  cases he
  obtain ⟨_, he, e2⟩ := key 2 _ (by omega) rfl
  cases he
  obtain ⟨_, he, e3⟩ := key 3 _ (by omega) rfl
  cases he
  obtain ⟨_, he, e4⟩ := key 4 _ (by omega) rfl
  cases he
  refine ⟨ad, rfl, e0, ?_, ?_, ?_, ?_⟩
  · have := e1; rw [← add_of_add] at this; exact this
  · have := e2; rw [← add_of_add] at this; exact this
  · have := e3; rw [← add_of_add] at this; exact this
  · have := e4; rw [← add_of_add] at this; exact this
/-- A cell's own block: five cells. -/
theorem cells5 {w : World} {g : Nat} {T : TypeId} {a0 a1 a2 a3 a4 : Value} (h : OBlk w g T [a0, a1, a2, a3, a4]) :
    w.cell? ⟨g, 0, none⟩ = some a0 ∧ w.cell? ⟨g, 1, none⟩ = some a1 ∧ w.cell? ⟨g, 2, none⟩ = some a2 ∧ w.cell? ⟨g, 3, none⟩ = some a3 ∧ w.cell? ⟨g, 4, none⟩ = some a4 :=
  ⟨h.cell 0, h.cell 1, h.cell 2, h.cell 3, h.cell 4⟩
/-- Owned cells. -/
structure OwCs (w : World) (base : Nat) (v : Value) (l : List CV) : Prop where
  own : Own w base 50 5 v l.length (flatC l)
  each : ∀ x ∈ l, OwB w base x.kv x.c.key ∧ OwB w base x.vv x.c.val
  rng : ∀ x ∈ l, i64r x.c.kind ∧ i64r x.c.page ∧ i64r x.c.count
  apart : ((l.flatMap fun x => [x.kv.ownBlock, x.vv.ownBlock]).filterMap id).Pairwise (· < ·)
theorem below_drewN {B : Nat} {w w' : World} (h : Below B w w') : ∀ n, Below B w (w'.drewN n)
  | 0 => h
  | n + 1 => (below_drewN h n).drew
theorem CV.form {x : CV} {w : World} (h : x.ok w) : ∃ A a B b key ck val pg ct, x = ⟨.slice A key.length a, .slice B val.length b, ⟨key, ck, val, pg, ct⟩⟩ ∧ key.length ≤ 9223372036854775807 ∧ val.length ≤ 9223372036854775807 := by
  obtain ⟨kv, vv, key, ck, val, pg, ct⟩ := x
  obtain ⟨A, ca, hkv, hka⟩ := h.k.form
  obtain ⟨B, cb, hvv, hvb⟩ := h.v.form
  simp only at hkv hvv hka hvb
  subst hkv hvv
  exact ⟨A, ca, B, cb, key, ck, val, pg, ct, rfl, hka, hvb⟩
theorem pcs_at {l : List CV} {i : Nat} (hi : i < l.length) : (pcs l)[i]'(by rw [pcs_length]; exact hi) = l[i].c := by simp [pcs]
theorem Rd.five (w : World) (a b c d e : Value) (T : TypeId) : Rd (w.alloc (.cells #[a, b, c, d, e] T)) 5 (.slice (some ⟨w.heap.size, 0, none⟩) 1 1) 1 [a, b, c, d, e] :=
  ⟨by simp, _, _, rfl, Nat.le_refl _, by simp [maxLen], fun j u hj => ⟨_, rfl, by rw [add_row, (OBlk.new w T #[a, b, c, d, e]).cell]; simpa using hj⟩⟩
theorem cell_info : (Try.prog.info? 50).map (fun i => (i.zero, i.size, i.bytes)) = some (some (.agg #[.slice none 0 0, .int .i64 0, .slice none 0 0, .int .i64 0, .int .i64 0]), 5, 72) := by kernel_rfl
end Go.Proofs.Ytaniabhajngdeaa

-- Slices of cells: pieces of them, append of pieces, cells made and stored.
namespace Go.Proofs.Ytaniabhajngdeaa
open Go.RowKit
theorem mul_sub_five (a b : Nat) : (a - b) * 5 = a * 5 - b * 5 := by omega
theorem flatC_take (l : List CV) : ∀ n, flatC (l.take n) = (flatC l).take (n * 5) := by
  intro n
  have h : flatC l = flatC (l.take n) ++ flatC (l.drop n) := by rw [← flatC_append, List.take_append_drop]
  by_cases hn : n ≤ l.length
  · rw [h, List.take_left']
    rw [flatC_length, List.length_take]; omega
  · rw [List.take_of_length_le (by omega), List.take_of_length_le (by rw [flatC_length]; omega)]
theorem flatC_drop (l : List CV) : ∀ n, flatC (l.drop n) = (flatC l).drop (n * 5) := by
  intro n
  have h : flatC l = flatC (l.take n) ++ flatC (l.drop n) := by rw [← flatC_append, List.take_append_drop]
  by_cases hn : n ≤ l.length
  · rw [h, List.drop_left']
    rw [flatC_length, List.length_take]; omega
  · rw [List.drop_of_length_le (by omega), List.drop_of_length_le (by rw [flatC_length]; omega)]; rfl
theorem Rd.cut5 {w : World} {A : Option Addr} {n c lo hi : Nat} {xs : List Value} (h : Rd w 5 (.slice A n c) n xs) (hlo : lo ≤ hi) (hhi : hi ≤ n) :
    Rd w 5 (.slice (if c = lo then A else A.map (·.add (lo * 5))) (hi - lo) (c - lo)) (hi - lo) ((xs.take (hi * 5)).drop (lo * 5)) := by
  obtain ⟨hl, A', c', hv, h1, h2, h3⟩ := h
  injection hv with hA _ hc
  subst hA; subst hc
  refine ⟨by simp only [List.length_drop, List.length_take]; omega, _, _, rfl, by omega, by omega, fun j u hj => ?_⟩
  rw [List.getElem?_drop, List.getElem?_take] at hj
  split at hj
  · obtain ⟨ad, rfl, hc⟩ := h3 _ _ hj
    rw [if_neg (by omega)]
    exact ⟨ad.add (lo * 5), rfl, by rw [add_of_add]; exact hc⟩
  · cases hj
theorem RdCs.cut {w : World} {A : Option Addr} {n c lo hi : Nat} {l : List CV} (h : RdCs w (.slice A n c) l) (hlo : lo ≤ hi) (hhi : hi ≤ l.length) :
    RdCs w (.slice (if c = lo then A else A.map (·.add (lo * 5))) (hi - lo) (c - lo)) ((l.take hi).drop lo) := by
  have hn : n = l.length := by
    obtain ⟨_, A', c', hv, _⟩ := h.form
    injection hv
  subst hn
  refine ⟨?_, fun x hx => h.ok x (List.mem_of_mem_take (List.mem_of_mem_drop hx))⟩
  have e : ((l.take hi).drop lo).length = hi - lo := by simp; omega
  rw [e, flatC_drop, flatC_take]
  exact h.form.cut5 hlo hhi
theorem RdCs.len {w : World} {A : Option Addr} {n c : Nat} {l : List CV} (h : RdCs w (.slice A n c) l) : n = l.length ∧ l.length ≤ c ∧ c ≤ 9223372036854775807 := by
  obtain ⟨_, A', c', hv, h1, h2, _⟩ := h.form
  injection hv with _ hn hc
  subst hc
  simp only [maxLen] at h2
  exact ⟨hn, h1, h2⟩
theorem Cell_elem : Try.prog.underlying 23 = some (.slice (Try.prog.elem 23)) := by kernel_rfl
theorem Cell_sizeOf (w : World) : (sizeOf (Try.prog.elem 23)).run Try.prog w = .ok 5 w := by
  have he : Try.prog.elem 23 = 50 := by kernel_rfl
  rw [he]
  obtain ⟨i, hi, hz0, hz1, hz2⟩ := info_parts cell_info
  simp [sizeOf, typeInfo, hi, hz1]
/-- x[lo:hi] -/
theorem RdCs.run_lh {w : World} {A : Option Addr} {n c : Nat} {l : List CV} (h : RdCs w (.slice A n c) l) (lo hi : Nat) (h1 : lo ≤ hi) (h2 : hi ≤ l.length) :
    ∃ A' c', (∀ w', (Instr.slice 23 (.slice A n c) (some (.int .i64 (lo : Int))) (some (.int .i64 (hi : Int))) none).run Try.prog w' = .ok (.slice A' (hi - lo) c') w') ∧ RdCs w (.slice A' (hi - lo) c') ((l.take hi).drop lo) := by
  obtain ⟨_, hc, _⟩ := h.len
  refine ⟨_, _, fun w' => ?_, h.cut h1 h2⟩
  have := run_slice_lh (P := Try.prog) w' 23 A n c Cell_elem .i64 .i64 lo hi (by omega) (by omega) (by omega)
  rw [this, Cell_sizeOf]
  simp [Result.andThen, sliced]
theorem RdCs.run_l {w : World} {A : Option Addr} {n c : Nat} {l : List CV} (h : RdCs w (.slice A n c) l) (lo : Nat) (h1 : lo ≤ l.length) :
    ∃ A' c', (∀ w', (Instr.slice 23 (.slice A n c) (some (.int .i64 (lo : Int))) none none).run Try.prog w' = .ok (.slice A' (l.length - lo) c') w') ∧ RdCs w (.slice A' (l.length - lo) c') (l.drop lo) := by
  obtain ⟨rfl, hc, _⟩ := h.len
  have hr := h.cut h1 (Nat.le_refl _)
  rw [List.take_length] at hr
  refine ⟨_, _, fun w' => ?_, hr⟩
  have := run_slice_l (P := Try.prog) w' 23 A l.length c Cell_elem .i64 lo (by omega) (by omega)
  rw [this, Cell_sizeOf]
  simp [Result.andThen, sliced]
theorem RdCs.run_h {w : World} {A : Option Addr} {n c : Nat} {l : List CV} (h : RdCs w (.slice A n c) l) (hi : Nat) (h2 : hi ≤ l.length) :
    ∃ A' c', (∀ w', (Instr.slice 23 (.slice A n c) none (some (.int .i64 (hi : Int))) none).run Try.prog w' = .ok (.slice A' hi c') w') ∧ RdCs w (.slice A' hi c') (l.take hi) := by
  obtain ⟨_, hc, _⟩ := h.len
  have hr := h.cut (Nat.zero_le hi) h2
  rw [List.drop_zero, Nat.sub_zero] at hr
  refine ⟨_, _, fun w' => ?_, hr⟩
  have := run_slice_h (P := Try.prog) w' 23 A n c Cell_elem .i64 hi (by omega) (by omega)
  rw [this, Cell_sizeOf]
  simp [Result.andThen, sliced]
theorem RdB.oneC {w : World} {v : Value} {l : List UInt8} (h : RdB w v l) : v.oneCell' = true := by
  obtain ⟨A, c, rfl, _⟩ := h.form
  rfl
theorem CV.ok.one {w : World} {x : CV} (h : x.ok w) : ∀ u ∈ x.cells, u.oneCell' = true := by
  intro u hu
  simp only [CV.cells, List.mem_cons, List.not_mem_nil, or_false] at hu
  rcases hu with rfl | rfl | rfl | rfl | rfl
  · exact h.k.oneC
  · rfl
  · exact h.v.oneC
  · rfl
  · rfl
theorem flatC_one {w : World} {l : List CV} (h : ∀ x ∈ l, x.ok w) : ∀ u ∈ flatC l, u.oneCell' = true := by
  intro u hu
  obtain ⟨x, hx, hux⟩ := List.mem_flatMap.1 hu
  exact (h x hx).one u hux
/-- A list of the call's own, of cells that are read. -/
structure OwL (w : World) (base : Nat) (v : Value) (l : List CV) : Prop where
  own : Own w base 50 5 v l.length (flatC l)
  ok : ∀ x ∈ l, x.ok w
theorem OwL.nil (w : World) (base : Nat) : OwL w base (.slice none 0 0) [] := ⟨Own.nil _ _ _ _, by simp⟩
theorem OwL.rd {w : World} {base : Nat} {v : Value} {l : List CV} (h : OwL w base v l) : RdCs w v l := ⟨h.own.rd, h.ok⟩
theorem OwL.below {w w' : World} {base : Nat} {v : Value} {l : List CV} (h : OwL w base v l) (hb : Below w.heap.size w w') : OwL w' base v l :=
  ⟨Own.below' h.own hb (Nat.le_refl _), fun x hx => (h.ok x hx).below hb⟩
section laws
variable {w : World} {ops : Array Oper} {rest : List Oper} {o : Oper} {a : Act} {Q : Exit → Act → World → Prop}
/-- append(l, m...) of cells. -/
theorem wp_append_C (hgd : o.guard = none) (s x : Operand)
    (ho : o.op = .call { callee := .builtin .append, args := #[s, x], argTypes := #[23, 23] })
    (base : Nat) (v : Value) (l : List CV) (hs : a.eval s = v) (hown : Own w base 50 5 v l.length (flatC l))
    (vx : Value) (m : List CV) (hx : a.eval x = vx) (hr : Rd w 5 vx m.length (flatC m)) (h1 : ∀ u ∈ flatC m, u.oneCell' = true) (hsm : (l.length + m.length) * 72 ≤ 140737488355328) (hbase : base ≤ w.heap.size)
    (h : ∀ v' w', Own w' base 50 5 v' (l ++ m).length (flatC (l ++ m)) → w.grownBy w' v.ownBlock → (v'.ownBlock = v.ownBlock ∨ v'.ownBlock = some w.heap.size) → wpList Try.prog ops Q rest (a.put o.dst v') w') :
    wpList Try.prog ops Q (o :: rest) a w := by
  obtain ⟨i, hi, hz0, hz1, hz2⟩ := info_parts cell_info
  refine wp_append hgd s x _ _ ho base 50 i _ 5 72 Try.underlying23 hi hz0 hz1 hz2 rfl v l.length (flatC l) hs hown vx m.length (flatC m) hx (Rd.src w Try.underlying23 (by omega) hr h1) hsm (by omega) hbase ?_
  intro v' w' h1 h2 h3
  refine h v' w' ?_ h2 h3
  rw [List.length_append, flatC_append]
  exact h1
end laws
/-- A cell of nothing but a kind. -/
def markCV (k : Int) : CV := ⟨.slice none 0 0, .slice none 0 0, ⟨[], k, [], 0, 0⟩⟩
theorem flat_made (n : Nat) : (madeCells #[.slice none 0 0, .int .i64 0, .slice none 0 0, .int .i64 0, .int .i64 0] (n * 5)).toList = flatC (List.replicate n (markCV 0)) := by
  refine List.ext_getElem? fun p => ?_
  by_cases hp : p < n * 5
  · have hi : p / 5 < (List.replicate n (markCV 0)).length := by rw [List.length_replicate]; omega
    have h := flatC_at (List.replicate n (markCV 0)) (p / 5) (p % 5) hi (by omega)
    rw [show p / 5 * 5 + p % 5 = p by omega] at h
    rw [h, List.getElem_replicate]
    unfold madeCells
    rw [Array.getElem?_toList, Array.getElem?_map]
    rw [Array.getElem?_range, if_pos (by omega)]
    have h5 : p % 5 = 0 ∨ p % 5 = 1 ∨ p % 5 = 2 ∨ p % 5 = 3 ∨ p % 5 = 4 := by omega
    show some (#[Value.slice none 0 0, .int .i64 0, .slice none 0 0, .int .i64 0, .int .i64 0][p % 5]!) = _
    rcases h5 with e | e | e | e | e <;> rw [e] <;> rfl
  · rw [List.getElem?_eq_none (by simp [size_madeCells]; omega), List.getElem?_eq_none (by rw [flatC_length, List.length_replicate]; omega)]
theorem flat_set : ∀ (L : List CV) (i : Nat) (_ : i < L.length) (x : CV),
    (((((flatC L).set (i * 5) x.kv).set (i * 5 + 1) (.int .i64 x.c.kind)).set (i * 5 + 2) x.vv).set (i * 5 + 3) (.int .i64 x.c.page)).set (i * 5 + 4) (.int .i64 x.c.count) = flatC (L.set i x)
  | y :: s, 0, _, x => by
    have e : flatC (y :: s) = y.cells ++ flatC s := rfl
    rw [e]
    rfl
  | y :: s, i + 1, hi, x => by
    have e : flatC (y :: s) = y.kv :: .int .i64 y.c.kind :: y.vv :: .int .i64 y.c.page :: .int .i64 y.c.count :: flatC s := rfl
    have ih := flat_set s i (by simpa using hi) x
    have e2 : flatC ((y :: s).set (i + 1) x) = y.kv :: .int .i64 y.c.kind :: y.vv :: .int .i64 y.c.page :: .int .i64 y.c.count :: flatC (s.set i x) := rfl
    rw [e, e2, ← ih, show (i + 1) * 5 = i * 5 + 1 + 1 + 1 + 1 + 1 by omega]
    simp only [List.set_cons_succ, Nat.add_assoc, Nat.reduceAdd]
section laws
variable {w : World} {ops : Array Oper} {rest : List Oper} {o : Oper} {a : Act} {Q : Exit → Act → World → Prop}
theorem wp_make_C (hg : o.guard = none) (l c : Operand) (hop : o.op = Op.makeSlice 23 l c)
    (L : Int) (n : Nat) (hl : a.eval l = .int .i64 L) (hc : a.eval c = .int .i64 L) (hL : L = (n : Int)) (hn : n * 72 ≤ 281474976710656)
    (hK : ∀ w', OBlk w' w.heap.size 50 (flatC (List.replicate n (markCV 0))) → Below w.heap.size w w' → w'.heap.size = w.heap.size + 1 → wpList Try.prog ops Q rest (a.put o.dst (.slice (some ⟨w.heap.size, 0, none⟩) n n)) w') :
    wpList Try.prog ops Q (o :: rest) a w := by
  obtain ⟨i, hi, hz0, hz1, hz2⟩ := info_parts cell_info
  refine wpList_plain hg fun K hK' => ?_
  have hr := run_make (P := Try.prog) w 23 50 i _ Try.underlying23 hi hz0 .i64 .i64 n n (by omega) (by omega) (by rw [hz2]; omega) (by omega)
  subst hL
  unfold Oper.wp
  simp [execOp, hop, hl, hc, hr, Result.andThen]
  refine hK' _ _ (hK _ ?_ ((Below.refl _ _).alloc (Nat.le_refl _) _) (by simp))
  have e := flat_made n
  have := OBlk.new w 50 (madeCells #[.slice none 0 0, .int .i64 0, .slice none 0 0, .int .i64 0, .int .i64 0] (n * 5))
  rw [e] at this
  simpa [Value.cells, hz1] using this
end laws
theorem set5C {w : World} {g : Nat} {L : List CV} (h : OBlk w g 50 (flatC L)) (k : Nat) (hk : k < L.length) (x : CV) :
    OBlk (((((w.setCell ⟨g, k * 5, none⟩ x.kv).setCell ⟨g, k * 5 + 1, none⟩ (.int .i64 x.c.kind)).setCell ⟨g, k * 5 + 2, none⟩ x.vv).setCell ⟨g, k * 5 + 3, none⟩ (.int .i64 x.c.page)).setCell ⟨g, k * 5 + 4, none⟩ (.int .i64 x.c.count)) g 50 (flatC (L.set k x)) := by
  rw [← flat_set L k hk x]
  exact ((((h.set (k * 5) x.kv).set (k * 5 + 1) (.int .i64 x.c.kind)).set (k * 5 + 2) x.vv).set (k * 5 + 3) (.int .i64 x.c.page)).set (k * 5 + 4) (.int .i64 x.c.count)
theorem grown5 (w : World) (g k : Nat) (a b c d e : Value) : w.grownBy (((((w.setCell ⟨g, k * 5, none⟩ a).setCell ⟨g, k * 5 + 1, none⟩ b).setCell ⟨g, k * 5 + 2, none⟩ c).setCell ⟨g, k * 5 + 3, none⟩ d).setCell ⟨g, k * 5 + 4, none⟩ e) (some g) :=
  grownBy_trans (grownBy_trans (grownBy_trans (grownBy_trans (grownBy_setCell _ _ _) (grownBy_setCell _ _ _)) (grownBy_setCell _ _ _)) (grownBy_setCell _ _ _)) (grownBy_setCell _ _ _)
theorem cellsC {w : World} {g : Nat} {L : List CV} (h : OBlk w g 50 (flatC L)) (k : Nat) (hk : k < L.length) :
    w.cell? ⟨g, k * 5, none⟩ = some L[k].kv ∧ w.cell? ⟨g, k * 5 + 1, none⟩ = some (.int .i64 L[k].c.kind) ∧ w.cell? ⟨g, k * 5 + 2, none⟩ = some L[k].vv ∧ w.cell? ⟨g, k * 5 + 3, none⟩ = some (.int .i64 L[k].c.page) ∧ w.cell? ⟨g, k * 5 + 4, none⟩ = some (.int .i64 L[k].c.count) :=
  ⟨h.cell' (j := k * 5) (flatC_at L k 0 hk (by omega)), h.cell' (j := k * 5 + 1) (flatC_at L k 1 hk (by omega)), h.cell' (j := k * 5 + 2) (flatC_at L k 2 hk (by omega)), h.cell' (j := k * 5 + 3) (flatC_at L k 3 hk (by omega)), h.cell' (j := k * 5 + 4) (flatC_at L k 4 hk (by omega))⟩
theorem frozC {w : World} {g : Nat} {L : List CV} (h : OBlk w g 50 (flatC L)) (k : Nat) (hk : k < L.length) :
    w.frozen? ⟨g, k * 5, none⟩ = false ∧ w.frozen? ⟨g, k * 5 + 1, none⟩ = false ∧ w.frozen? ⟨g, k * 5 + 2, none⟩ = false ∧ w.frozen? ⟨g, k * 5 + 3, none⟩ = false ∧ w.frozen? ⟨g, k * 5 + 4, none⟩ = false :=
  ⟨h.frozen (by rw [flatC_length]; omega), h.frozen (by rw [flatC_length]; omega), h.frozen (by rw [flatC_length]; omega), h.frozen (by rw [flatC_length]; omega), h.frozen (by rw [flatC_length]; omega)⟩
end Go.Proofs.Ytaniabhajngdeaa

-- Blocks outside of a set stand: words for what a call may write.
namespace Go.Proofs.Ytaniabhajngdeaa
open Go.RowKit
/-- Blocks outside of F stand. -/
structure Turn (F : Nat → Prop) (w w' : World) : Prop where
  os : w'.os = w.os
  tape : w'.tape = w.tape
  output : w'.output = w.output
  size : w.heap.size ≤ w'.heap.size
  block : ∀ k, k < w.heap.size → ¬ F k → w'.heap[k]? = w.heap[k]?
/-- .. and what is in F now was there, or is new. -/
structure Step (F : Nat → Prop) (w : World) (F' : Nat → Prop) (w' : World) : Prop where
  turn : Turn F w w'
  grow : ∀ k, F' k → F k ∨ w.heap.size ≤ k
section
variable {F F' F'' G : Nat → Prop} {w w' w'' : World}
theorem Turn.refl (F : Nat → Prop) (w : World) : Turn F w w := ⟨rfl, rfl, rfl, Nat.le_refl _, fun _ _ _ => rfl⟩
theorem Turn.trans (h : Turn F w w') (k : Turn F' w' w'') (hs : ∀ b, F' b → F b ∨ w.heap.size ≤ b) : Turn F w w'' :=
  ⟨k.os.trans h.os, k.tape.trans h.tape, k.output.trans h.output, Nat.le_trans h.size k.size, fun b hb hn =>
    (k.block b (Nat.lt_of_lt_of_le hb h.size) (fun h' => (hs b h').elim hn (fun h1 => by omega))).trans (h.block b hb hn)⟩
theorem Turn.mono (h : Turn F w w') (hs : ∀ b, F b → G b) : Turn G w w' := ⟨h.os, h.tape, h.output, h.size, fun b hb hn => h.block b hb (fun e => hn (hs b e))⟩
theorem Turn.of_grown {row : Option Nat} (h : w.grownBy w' row) (hr : ∀ k, row = some k → F k) : Turn F w w' :=
  ⟨h.os, h.tape, h.output, h.size, fun b hb hn => h.block b hb (fun e => hn (hr b e.symm))⟩
theorem Turn.of_below (h : Below w.heap.size w w') : Turn F w w' := ⟨h.os, h.tape, h.output, h.size, fun b hb _ => h.block b hb⟩
theorem Turn.below {B : Nat} (h : Turn F w w') (hB : B ≤ w.heap.size) (hF : ∀ b, F b → B ≤ b) : Below B w w' :=
  ⟨h.os, h.tape, h.output, h.size, fun b hb => h.block b (by omega) (fun e => by have := hF b e; omega)⟩
theorem Turn.drew (h : Turn F w w') : Turn F w w'.drew := ⟨h.os, h.tape, h.output, h.size, h.block⟩
theorem Turn.drewN (h : Turn F w w') (n : Nat) : Turn F w (w'.drewN n) := ⟨h.os, h.tape, h.output, h.size, h.block⟩
theorem Turn.grown {row : Option Nat} (h : Turn F w w') (k : w'.grownBy w'' row) (hr : ∀ b, row = some b → F b ∨ w.heap.size ≤ b) : Turn F w w'' :=
  h.trans (F' := fun b => row = some b) (Turn.of_grown k fun _ e => e) hr
theorem Turn.new (h : Turn F w w') (k : Below w.heap.size w' w'') : Turn F w w'' :=
  ⟨k.os.trans h.os, k.tape.trans h.tape, k.output.trans h.output, Nat.le_trans h.size k.size, fun b hb hn => (k.block b hb).trans (h.block b hb hn)⟩
theorem Turn.alloc (h : Turn F w w') (o : Obj) : Turn F w (w'.alloc o) := h.new ((Below.refl _ _).alloc h.size o)
theorem Turn.setCell (h : Turn F w w') (p : Addr) (u : Value) (hp : F p.block ∨ w.heap.size ≤ p.block) : Turn F w (w'.setCell p u) :=
  h.grown (grownBy_setCell w' p u) (fun b e => by cases e; exact hp)
theorem Step.refl (F : Nat → Prop) (w : World) : Step F w F w := ⟨Turn.refl _ _, fun _ h => .inl h⟩
theorem Step.trans (h : Step F w F' w') (k : Step F' w' F'' w'') : Step F w F'' w'' :=
  ⟨h.turn.trans k.turn h.grow, fun b hb => (k.grow b hb).elim (h.grow b) (fun h1 => .inr (Nat.le_trans h.turn.size h1))⟩
/-- What the call owns and what no device has. -/
def Off (F : Nat → Prop) (v : Value) : Prop := ∀ g, v.ownBlock = some g → ¬ F g
theorem OwB.turn {b : Nat} {v : Value} {l : List UInt8} (h : OwB w b v l) (ht : Turn F w w') (ho : Off F v) : OwB w' b v l :=
  Own.heap h fun g hg => ht.block g (h.lt g hg).2 (ho g hg)
theorem OwB.off {b : Nat} {v : Value} {l : List UInt8} (h : OwB w b v l) (hs : Step F w F' w') (ho : Off F v) : Off F' v := fun g hg hf => by
  rcases hs.grow g hf with h1 | h1
  · exact ho g hg h1
  · have := (h.lt g hg).2
    omega
theorem OBlk.turn {g : Nat} {T : TypeId} {cs : List Value} (h : OBlk w g T cs) (ht : Turn F w w') (hg : ¬ F g) : OBlk w' g T cs := h.of_heap (ht.block g h.lt hg)
end
end Go.Proofs.Ytaniabhajngdeaa

-- Owned cells: append; bytes.Equal.
namespace Go.Proofs.Ytaniabhajngdeaa
open Go.RowKit
theorem Own.ne_Tg {w : World} {b n size : Nat} {v : Value} {xs : List Value} {T T' : TypeId} {g : Nat} {cs : List Value} (h : Own w b T size v n xs) (hg : OBlk w g T' cs) (hT : T ≠ T') : some g ≠ v.ownBlock := by
  rcases h.2 with ⟨rfl, _⟩ | ⟨g', cap, cs', rfl, _, hg', _⟩
  · simp [Value.ownBlock]
  · intro e
    simp [Value.ownBlock] at e
    subst e
    exact (hg'.ne hg hT) rfl
theorem OwB.blkU {w : World} {b : Nat} {v : Value} {l : List UInt8} (h : OwB w b v l) {k : Nat} (hk : v.ownBlock = some k) : ∃ cs, OBlk w k 5 cs := by
  rcases h.2 with ⟨rfl, _⟩ | ⟨g', cap, cs', rfl, _, hg', _⟩
  · simp [Value.ownBlock] at hk
  · simp [Value.ownBlock] at hk
    subst hk
    exact ⟨cs', hg'⟩
theorem OwCs.nil (w : World) (base : Nat) : OwCs w base (.slice none 0 0) [] := { own := Own.nil _ _ _ _, each := by simp, rng := by simp, apart := by simp }
theorem OwCs.rd {w : World} {base : Nat} {v : Value} {l : List CV} (h : OwCs w base v l) : RdCs w v l :=
  ⟨h.own.rd, fun x hx => { k := (h.each x hx).1.rd, v := (h.each x hx).2.rd, r1 := (h.rng x hx).1, r2 := (h.rng x hx).2.1, r3 := (h.rng x hx).2.2 }⟩
theorem OwCs.below {w w' : World} {base : Nat} {v : Value} {l : List CV} (h : OwCs w base v l) (hb : Below w.heap.size w w') : OwCs w' base v l :=
  { h with own := Own.below' h.own hb (Nat.le_refl _), each := fun x hx => ⟨Own.below' (h.each x hx).1 hb (Nat.le_refl _), Own.below' (h.each x hx).2 hb (Nat.le_refl _)⟩ }
theorem OwCs.snoc {w w1 w2 : World} {base : Nat} {v v' : Value} {l : List CV} {x : CV} (h : OwCs w base v l) (hb : Below w.heap.size w w1) (hbase : base ≤ w.heap.size) (hk : OwB w1 w.heap.size x.kv x.c.key) (hv : OwB w1 w.heap.size x.vv x.c.val)
    (hr : i64r x.c.kind ∧ i64r x.c.page ∧ i64r x.c.count) (ha : ∀ g g', x.kv.ownBlock = some g → x.vv.ownBlock = some g' → g < g') (hg : w1.grownBy w2 v.ownBlock) (ho : Own w2 base 50 5 v' (l.length + 1) (flatC l ++ x.cells)) : OwCs w2 base v' (l ++ [x]) where
  own := by
    have e : flatC (l ++ [x]) = flatC l ++ x.cells := by rw [flatC_append]; simp [flatC]
    rw [e, List.length_append]; exact ho
  each := by
    have hown := Own.below' h.own hb (Nat.le_refl _)
    have step : ∀ {u : Value} {m : List UInt8}, OwB w1 base u m → OwB w2 base u m := fun {u m} hu => Own.grown hu hg fun g hg' e => by
      obtain ⟨cs, hc⟩ := OwB.blkU hu hg'
      exact Own.ne_Tg hown hc (by decide) e
    intro y hy
    rcases List.mem_append.1 hy with hy | hy
    · exact ⟨step (Own.below' (h.each y hy).1 hb (Nat.le_refl _)), step (Own.below' (h.each y hy).2 hb (Nat.le_refl _))⟩
    · rw [List.mem_singleton] at hy
      subst hy
      exact ⟨step (OwB.base_le hk fun g hg' => Nat.le_trans hbase (Own.lt hk g hg').1), step (OwB.base_le hv fun g hg' => Nat.le_trans hbase (Own.lt hv g hg').1)⟩
  rng := by
    intro y hy
    rcases List.mem_append.1 hy with hy | hy
    · exact h.rng y hy
    · rw [List.mem_singleton] at hy
      subst hy; exact hr
  apart := by
    rw [List.flatMap_append, List.filterMap_append, List.pairwise_append]
    refine ⟨h.apart, ?_, ?_⟩
    · simp only [List.flatMap_cons, List.flatMap_nil, List.append_nil]
      cases h1 : x.kv.ownBlock with
      | none => cases h2 : x.vv.ownBlock <;> simp
      | some g => cases h2 : x.vv.ownBlock with
        | none => simp
        | some g' => simpa using ha g g' h1 h2
    · intro g hg1 g' hg2
      have hlt : g < w.heap.size := by
        obtain ⟨o, ho, he⟩ := List.mem_filterMap.1 hg1
        obtain ⟨y, hy, hoy⟩ := List.mem_flatMap.1 ho
        simp only [id] at he
        rcases List.mem_cons.1 hoy with e | e
        · exact (Own.lt (h.each y hy).1 g (by rw [← e, he])).2
        · rw [List.mem_singleton] at e
          exact (Own.lt (h.each y hy).2 g (by rw [← e, he])).2
      have hge : w.heap.size ≤ g' := by
        obtain ⟨o, ho, he⟩ := List.mem_filterMap.1 hg2
        simp only [List.flatMap_cons, List.flatMap_nil, List.append_nil] at ho
        simp only [id] at he
        rcases List.mem_cons.1 ho with e | e
        · exact (Own.lt hk g' (by rw [← e, he])).1
        · rw [List.mem_singleton] at e
          exact (Own.lt hv g' (by rw [← e, he])).1
      omega
theorem cells_one {w : World} {b1 b2 : Nat} {x : CV} (hk : OwB w b1 x.kv x.c.key) (hv : OwB w b2 x.vv x.c.val) : ∀ u ∈ x.cells, u.oneCell' = true := by
  have h : ∀ {b : Nat} {v : Value} {l : List UInt8}, OwB w b v l → v.oneCell' = true := fun {b v l} h => by
    rcases Own.form h with ⟨rfl, _⟩ | ⟨_, _, rfl, _⟩ <;> rfl
  intro u hu
  simp only [CV.cells, List.mem_cons, List.not_mem_nil, or_false] at hu
  rcases hu with rfl | rfl | rfl | rfl | rfl
  · exact h hk
  · rfl
  · exact h hv
  · rfl
  · rfl
set_option maxRecDepth 20000 in
set_option maxHeartbeats 1000000 in
theorem Equal_any (u v : Value) (a b : List UInt8) (w : World) (hu : RdB w u a) (hv : RdB w v b) :
    Calls Try.prog 64 #[u, v] w fun e w' => e = .returned (.bool (a == b)) ∧ w = w' := by
  have q1 := run_B_string hu
  have q2 := run_B_string hv
  obtain ⟨A, c, rfl, _⟩ := hu.form
  obtain ⟨B, d, rfl, _⟩ := hv.form
  go_enter Try.func64, Try.ntmps64
  go_wp2_with fail
  go_ret
  exact ⟨rfl, rfl⟩
end Go.Proofs.Ytaniabhajngdeaa

-- sort.Search; packed.Page's within, Find: walks.
namespace Go.Proofs.Ytaniabhajngdeaa
open Go.RowKit
/-- A packed page that is worked on, at p, as it is read. -/
structure KAt (w : World) (p : Nat) (kind : Int) (P : Nat) (u pv : Value) (used waste : Nat) (l : List CV) : Prop where
  blk : OBlk w p 89 [.int .i64 kind, .int .i64 (P : Int), u, pv, .int .i64 (used : Int), .int .i64 (waste : Int)]
  rd : RdCs w u l
theorem cells6 {w : World} {g : Nat} {T : TypeId} {a0 a1 a2 a3 a4 a5 : Value} (h : OBlk w g T [a0, a1, a2, a3, a4, a5]) :
    w.cell? ⟨g, 0, none⟩ = some a0 ∧ w.cell? ⟨g, 1, none⟩ = some a1 ∧ w.cell? ⟨g, 2, none⟩ = some a2 ∧ w.cell? ⟨g, 3, none⟩ = some a3 ∧ w.cell? ⟨g, 4, none⟩ = some a4 ∧ w.cell? ⟨g, 5, none⟩ = some a5 :=
  ⟨h.cell 0, h.cell 1, h.cell 2, h.cell 3, h.cell 4, h.cell 5⟩
theorem KAt.below {w w' : World} {p : Nat} {kind : Int} {P : Nat} {u pv : Value} {used waste : Nat} {l : List CV} (h : KAt w p kind P u pv used waste l) (hb : Below w.heap.size w w') : KAt w' p kind P u pv used waste l :=
  ⟨h.blk.below hb h.blk.lt, h.rd.below hb⟩
theorem RdCs.key_at' {w : World} {A : Option Addr} {m c i : Nat} {l : List CV} (h : RdCs w (.slice A m c) l) (hi : i < l.length) :
    ∃ ad B b, A = some ad ∧ w.cell? (ad.add (i * 5)) = some (.slice B l[i].c.key.length b) ∧ RdB w (.slice B l[i].c.key.length b) l[i].c.key := by
  obtain ⟨ad, rfl, c0, -⟩ := h.at_ hi
  have hx := (h.ok _ (List.getElem_mem hi)).k
  obtain ⟨B, b, he, -⟩ := hx.form
  rw [he] at hx c0
  exact ⟨ad, B, b, rfl, c0, hx⟩
theorem Compare_q (u v : Value) (a b : List UInt8) (w : World) (hu : RdB w u a) (hv : RdB w v b) :
    Calls Try.prog 49 #[u, v] w fun e w' => e = .returned (.int .i64 (ordC a b)) ∧ w' = w := (Compare_any u v a b w hu hv).mono fun _ _ h => ⟨h.1, h.2.symm⟩
theorem Equal_q (u v : Value) (a b : List UInt8) (w : World) (hu : RdB w u a) (hv : RdB w v b) :
    Calls Try.prog 64 #[u, v] w fun e w' => e = .returned (.bool (a == b)) ∧ w' = w := (Equal_any u v a b w hu hv).mono fun _ _ h => ⟨h.1, h.2.symm⟩
set_option maxRecDepth 20000 in
set_option maxHeartbeats 1000000 in
theorem Search_any (bp bl bk n : Nat) (p : Nat → Bool) (w : World) (hsz : n < 4611686018427387904)
    (hf : ∀ m i, i < n → Calls Try.prog 99 #[.int .i64 (i : Int), .pointer (some ⟨bp, 0, none⟩), .pointer (some ⟨bl, 0, none⟩), .pointer (some ⟨bk, 0, none⟩)] (w.drewN m) fun e w' => e = .returned (.bool (p i)) ∧ ∃ q, w' = (w.drewN m).drewN q)
    (hmono : ∀ a b, a ≤ b → b < n → p a = true → p b = true) :
    Calls Try.prog 98 #[.int .i64 (n : Int), .func (.func 99) #[] #[.pointer (some ⟨bp, 0, none⟩), .pointer (some ⟨bl, 0, none⟩), .pointer (some ⟨bk, 0, none⟩)]] w fun e w' =>
      ∃ k : Nat, e = .returned (.int .i64 (k : Int)) ∧ k ≤ n ∧ (∀ t, t < k → p t = false) ∧ (∀ t, k ≤ t → t < n → p t = true) ∧ ∃ q, w' = w.drewN q := by
  have HF := Lib.hid hf
  have M := Lib.hid hmono
  clear hf hmono
  go_enter Try.func98, Try.ntmps98
  go_wp2
  go_loopw [5, 6] (fun s5 s6 wr => ∃ (lo hi q : Nat), s5 = .int .i64 (lo : Int) ∧ s6 = .int .i64 (hi : Int) ∧ lo ≤ hi ∧ hi ≤ n ∧ wr = w.drewN q ∧ Hid ((∀ t, t < lo → p t = false) ∧ (∀ t, hi ≤ t → t < n → p t = true))) (fun s5 s6 _ => (intOf s6).toNat - (intOf s5).toNat)
  case atStart => exact ⟨0, n, 0, rfl, rfl, Nat.zero_le _, Nat.le_refl _, rfl, Lib.hid ⟨fun t ht => absurd ht (Nat.not_lt_zero _), fun t h1 h2 => by omega⟩⟩
  case round =>
    obtain ⟨lo, hi, q, rfl, rfl, hlh, hin, rfl, I⟩ := hrel
    by_cases hlt : lo < hi
    · have hc := HF.out q ((lo + hi) / 2) (by omega)
      rw [show (((lo + hi) / 2 : Nat) : Int) = ((lo : Int) + (hi : Int)) / 2 by omega] at hc
      cases hp : p ((lo + hi) / 2) <;> rw [hp] at hc
      · have HP := Lib.hid hp
        clear hp
        go_wp2_with (first | (go_at_call 99; refine hc.mono ?_; rintro e w' ⟨rfl, nq, rfl⟩) | fail)
        go_roundw
        case rel => exact ⟨(lo + hi) / 2 + 1, hi, q + nq, by rw [show ((lo : Int) + (hi : Int)) / 2 + 1 = (((lo + hi) / 2 + 1 : Nat) : Int) by omega], rfl, by omega, hin, rfl, Lib.hid ⟨fun t ht => (by
            cases h : p t with
            | false => rfl
            | true => have := M.out t ((lo + hi) / 2) (by omega) (by omega) h; rw [HP.out] at this; cases this), I.out.2⟩⟩
        case measure => simp [intOf]; omega
      · have HP := Lib.hid hp
        clear hp
        go_wp2_with (first | (go_at_call 99; refine hc.mono ?_; rintro e w' ⟨rfl, nq, rfl⟩) | fail)
        go_roundw
        case rel => exact ⟨lo, (lo + hi) / 2, q + nq, rfl, by rw [show ((lo : Int) + (hi : Int)) / 2 = (((lo + hi) / 2 : Nat) : Int) by omega], by omega, by omega, rfl, Lib.hid ⟨I.out.1, fun t ht htn => M.out ((lo + hi) / 2) t ht htn HP.out⟩⟩
        case measure => simp [intOf]; omega
    · obtain rfl : hi = lo := by omega
      go_wp2
      go_ret
      exact ⟨hi, rfl, hin, I.out.1, I.out.2, q, rfl⟩
section
variable {w : World} {p : Nat} {kind : Int} {P : Nat} {u pv : Value} {used waste : Nat} {l : List CV}
set_option maxRecDepth 20000 in
set_option maxHeartbeats 1000000 in
theorem Kw1_any (h : KAt w p kind P u pv used waste l) (vk : Value) (key : List UInt8) (hk : RdB w vk key) (bp bl bk lo i : Nat) (hp : w.cell? ⟨bp, 0, none⟩ = some (.pointer (some ⟨p, 0, none⟩))) (hl : w.cell? ⟨bl, 0, none⟩ = some (.int .i64 (lo : Int))) (hkc : w.cell? ⟨bk, 0, none⟩ = some vk) (hi : lo + i < l.length) :
    Calls Try.prog 99 #[.int .i64 (i : Int), .pointer (some ⟨bp, 0, none⟩), .pointer (some ⟨bl, 0, none⟩), .pointer (some ⟨bk, 0, none⟩)] w fun e w' => e = .returned (.bool (decide (0 ≤ ordC l[lo + i].c.key key))) ∧ ∃ q, w' = w.drewN q := by
  obtain ⟨A, c, rfl, hm, hc⟩ := h.rd.slice
  obtain ⟨K, kc, rfl, hkm⟩ := hk.form
  obtain ⟨b0, b1, b2, b3, b4, b5⟩ := cells6 h.blk
  obtain ⟨ad, B, b, rfl, q0, hkr⟩ := h.rd.key_at' hi
  have hcmp := fun m => Compare_q _ _ _ _ (w.drewN m) (show RdB (w.drewN m) _ _ from hkr) (show RdB (w.drewN m) _ _ from hk)
  generalize ordC l[lo + i].c.key key = oc at *
  generalize l[lo + i].c.key = lk at *
  have e1 : IntKind.i64.wrap ((lo : Int) + (i : Int)) = (lo : Int) + (i : Int) := by rw [IntKind.wrap_i64]; omega
  have e2 : (0 : Int) ≤ (lo : Int) + (i : Int) := by omega
  have e3 : (lo : Int) + (i : Int) < (l.length : Int) := by omega
  have e4 : ((lo : Int) + (i : Int)).toNat = lo + i := by omega
  go_enter Try.func99, Try.ntmps99
  go_upto_region 1 with (fail)
  go_quiet ((go_at_call 49; exact Calls.quiet_of_same (hcmp _)))
  go_wp2_with fail
  go_ret
  exact ⟨rfl, _, rfl⟩
end
theorem findF_eq {key : List UInt8} {l : List PC} {k : Nat} (hk : k ≤ l.length) (h1 : ∀ t (ht : t < l.length), t < k → ordC l[t].key key < 0) (h2 : ∀ ht : k < l.length, ¬ ordC l[k].key key < 0) : findF key l = k := by
  rw [findF_drop (k := k) (fun j hj hl => h1 j hl hj) hk]
  by_cases h : k < l.length
  · rw [List.drop_eq_getElem_cons h, findF, if_neg (h2 h)]; rfl
  · rw [List.drop_of_length_le (by omega)]; rfl
set_option maxRecDepth 100000 in
set_option maxHeartbeats 2000000 in
theorem Kwithin_any {w : World} {p : Nat} {kind : Int} {P : Nat} {u pv : Value} {used waste : Nat} {l : List CV} (h : KAt w p kind P u pv used waste l) (hr : Rising (pcs l)) (hn : l.length < 4611686018427387904) (vk : Value) (key : List UInt8) (hk : RdB w vk key) (lo hi : Nat) (hlo : lo ≤ findF key (pcs l)) (hhi : findF key (pcs l) ≤ hi) (hl : hi ≤ l.length) :
    Calls Try.prog 80 #[.pointer (some ⟨p, 0, none⟩), vk, .int .i64 (lo : Int), .int .i64 (hi : Int)] w fun e w' => e = .returned (.tuple #[.int .i64 (findF key (pcs l) : Nat), .bool (isF key (pcs l))]) ∧ Below w.heap.size w w' := by
  obtain ⟨A, c, rfl, hm, hc⟩ := h.rd.slice
  obtain ⟨K, kc, rfl, hkm⟩ := hk.form
  have hA : Below w.heap.size w (((w.alloc (.cells #[.pointer (some ⟨p, 0, none⟩)] 44)).alloc (.cells #[.slice K key.length kc] 29)).alloc (.cells #[.int .i64 (lo : Int)] 3)) :=
    (((Below.refl _ _).alloc (Nat.le_refl _) _).alloc (by simp) _).alloc (by simp; omega) _
  have hO1 : OBlk (((w.alloc (.cells #[.pointer (some ⟨p, 0, none⟩)] 44)).alloc (.cells #[.slice K key.length kc] 29)).alloc (.cells #[.int .i64 (lo : Int)] 3)) w.heap.size 44 [.pointer (some ⟨p, 0, none⟩)] := ((OBlk.new' w _ [.pointer (some ⟨p, 0, none⟩)]).alloc _).alloc _
  have hO2 : OBlk (((w.alloc (.cells #[.pointer (some ⟨p, 0, none⟩)] 44)).alloc (.cells #[.slice K key.length kc] 29)).alloc (.cells #[.int .i64 (lo : Int)] 3)) (w.heap.size + 1) 29 [.slice K key.length kc] := by
    have := (OBlk.new' (w.alloc (.cells #[.pointer (some ⟨p, 0, none⟩)] 44)) 29 [.slice K key.length kc]).alloc (.cells #[.int .i64 (lo : Int)] 3)
    rw [World.size_alloc] at this; exact this
  have hO3 : OBlk (((w.alloc (.cells #[.pointer (some ⟨p, 0, none⟩)] 44)).alloc (.cells #[.slice K key.length kc] 29)).alloc (.cells #[.int .i64 (lo : Int)] 3)) (w.heap.size + 1 + 1) 3 [.int .i64 (lo : Int)] := by
    have := OBlk.new' ((w.alloc (.cells #[.pointer (some ⟨p, 0, none⟩)] 44)).alloc (.cells #[.slice K key.length kc] 29)) 3 [.int .i64 (lo : Int)]
    rw [World.size_alloc, World.size_alloc] at this; exact this
  have hK := h.below hA
  have hkk := hk.below hA (Nat.le_refl _)
  have hle := findF_le key (pcs l)
  have hJ := fun j (hj : j < l.length) (e : j < findF key (pcs l)) => find_lt (key := key) (show j < (pcs l).length by rw [pcs_length]; exact hj) e
  have hG := fun j (hj : j < l.length) (e : findF key (pcs l) ≤ j) => find_ge (key := key) hr (show j < (pcs l).length by rw [pcs_length]; exact hj) e
  have hisL := fun hh => isF_lt (key := key) (l := pcs l) hh
  have hisG := fun hh => isF_ge (key := key) (l := pcs l) hh
  rw [pcs_length] at hle
  generalize findF key (pcs l) = F at *
  have HL := Lib.hid hisL
  have HG := Lib.hid hisG
  clear hisL hisG h hk
  have hmf : ∀ (fn : Fn) (first cap : Array Value) (w : World), (Instr.makeFunc fn first cap).run Try.prog w = .ok (.func fn first cap) w := fun _ _ _ _ => rfl
  go_enter Try.func80, Try.ntmps80
  go_upto_region 1 with (fail)
  generalize (((w.alloc (.cells #[.pointer (some ⟨p, 0, none⟩)] 44)).alloc (.cells #[.slice K key.length kc] 29)).alloc (.cells #[.int .i64 (lo : Int)] 3)) = w1 at *
  have a1 : w1.cell? ⟨w.heap.size, 0, none⟩ = some (.pointer (some ⟨p, 0, none⟩)) := hO1.cell' (j := 0) rfl
  have a2 : w1.cell? ⟨w.heap.size + 1, 0, none⟩ = some (.slice K key.length kc) := hO2.cell' (j := 0) rfl
  have a3 : w1.cell? ⟨w.heap.size + 1 + 1, 0, none⟩ = some (.int .i64 (lo : Int)) := hO3.cell' (j := 0) rfl
  have hS : ∀ m, Calls Try.prog 98 #[.int .i64 ((hi : Int) - (lo : Int)), .func (.func 99) #[] #[.pointer (some ⟨w.heap.size, 0, none⟩), .pointer (some ⟨w.heap.size + 1 + 1, 0, none⟩), .pointer (some ⟨w.heap.size + 1, 0, none⟩)]] (w1.drewN m) fun e w' => e = .returned (.int .i64 (((F - lo : Nat)) : Int)) ∧ ∃ q, w' = (w1.drewN m).drewN q := fun m => by
    have h := Search_any w.heap.size (w.heap.size + 1 + 1) (w.heap.size + 1) (hi - lo) (fun i => decide (F ≤ lo + i)) (w1.drewN m) (by omega) (fun q i hi' => by
      have hb := below_drewN (below_drewN (Below.refl w1.heap.size w1) m) q
      have hc := Kw1_any (hK.below hb) (.slice K key.length kc) key (hkk.below hb (Nat.le_refl _)) w.heap.size (w.heap.size + 1 + 1) (w.heap.size + 1) lo i a1 a3 a2 (by omega)
      have e : decide (0 ≤ ordC l[lo + i].c.key key) = decide (F ≤ lo + i) := by
        refine decide_eq_decide.2 ⟨fun h1 => Nat.le_of_not_lt fun h2 => ?_, fun h1 => ?_⟩
        · have := hJ (lo + i) (by omega) h2
          rw [pcs_at (by omega)] at this
          omega
        · have := hG (lo + i) (by omega) h1
          rw [pcs_at (by omega)] at this
          omega
      rw [e] at hc
      exact hc) (fun a b hab hb h => by simp only [decide_eq_true_iff] at h ⊢; omega)
    rw [show (((hi - lo : Nat)) : Int) = (hi : Int) - (lo : Int) by omega] at h
    refine h.mono ?_
    rintro e w' ⟨k, rfl, hk, h1, h2, q, rfl⟩
    have : k = F - lo := by
      rcases Nat.lt_trichotomy k (F - lo) with h3 | h3 | h3
      · have := h2 k (Nat.le_refl _) (by omega)
        simp only [decide_eq_true_iff] at this
        omega
      · exact h3
      · have := h1 (F - lo) h3
        simp only [decide_eq_false_iff_not] at this
        omega
    subst this
    exact ⟨rfl, q, rfl⟩
  have e1 : IntKind.i64.wrap ((hi : Int) - (lo : Int)) = (hi : Int) - (lo : Int) := by rw [IntKind.wrap_i64]; omega
  have e2 : (lo : Int) + (((F - lo : Nat)) : Int) = (F : Int) := by omega
  have e3 : IntKind.i64.wrap (F : Int) = (F : Int) := by rw [IntKind.wrap_i64]; omega
  have HS := Lib.hid hS
  clear hS hO1 hO2 hO3
  go_cut [10] (fun s wx => s = .int .i64 (F : Int) ∧ ∃ q, wx = w1.drewN q)
  case first =>
    go_region_held3 (fun w' => w'.cell? ⟨w.heap.size + 1 + 1, 0, none⟩ = some (.int .i64 (lo : Int)))
      (first | exact a3)
      (first
        | (go_at_call 98; refine (HS.out 1).mono ?_; rintro e w7 ⟨rfl, q7, rfl⟩)
        | fail)
    go_wp2_with fail
    go_meet
    exact ⟨rfl, _, rfl⟩
  case rest =>
    obtain ⟨rfl, q1, rfl⟩ := hcut
    have hbq := below_drewN (Below.refl w1.heap.size w1) q1
    have hA2 := below_drewN hA q1
    have hKq := hK.below hbq
    have hkq := hkk.below hbq (Nat.le_refl _)
    have a1' : (w1.drewN q1).cell? ⟨w.heap.size, 0, none⟩ = some (.pointer (some ⟨p, 0, none⟩)) := a1
    have a2' : (w1.drewN q1).cell? ⟨w.heap.size + 1, 0, none⟩ = some (.slice K key.length kc) := a2
    obtain ⟨b0, b1, b2, b3, b4, b5⟩ := cells6 hKq.blk
    clear a1 a2 a3 HS hK hkk hA hbq
    generalize w1.drewN q1 = w2 at *
    by_cases hlt : F < l.length
    · obtain ⟨ad, B, b, rfl, q0, hkr⟩ := hKq.rd.key_at' hlt
      have heq := fun m => Equal_q _ _ _ _ (w2.drewN m) (show RdB (w2.drewN m) _ _ from hkr) (show RdB (w2.drewN m) _ _ from hkq)
      have hfin := HL.out (by rw [pcs_length]; exact hlt)
      simp only [pcs_at hlt] at hfin
      generalize hE : (l[F].c.key == key) = E at *
      have HFIN := Lib.hid hfin
      generalize l[F].c.key = lk at *
      have i1 : (F : Int) < (l.length : Int) := by omega
      have i2 : (0 : Int) ≤ (F : Int) := by omega
      clear hfin hE HL HG hJ hG
      go_upto_region 2 with (fail)
      go_quiet ((go_at_call 64; exact Calls.quiet_of_same (heq _)))
      go_wp2_with fail
      go_ret2
      rw [HFIN.out]
      exact ⟨rfl, below_drewN hA2 _⟩
    · have hfin := HG.out (by rw [pcs_length]; exact hlt)
      have HFIN := Lib.hid hfin
      have i1 : ¬ (F : Int) < (l.length : Int) := by omega
      clear hfin HL HG hJ hG
      go_upto_region 2 with (fail)
      go_quiet (fail)
      go_wp2_with fail
      go_ret2
      rw [HFIN.out]
      exact ⟨rfl, below_drewN hA2 _⟩
set_option maxRecDepth 100000 in
set_option maxHeartbeats 2000000 in
theorem KFind_any {w : World} {p : Nat} {kind : Int} {P : Nat} {u pv : Value} {used waste : Nat} {l : List CV} (h : KAt w p kind P u pv used waste l) (hr : Rising (pcs l)) (hn : l.length < 4611686018427387904) (vk : Value) (key : List UInt8) (hk : RdB w vk key) :
    Calls Try.prog 41 #[.pointer (some ⟨p, 0, none⟩), vk] w fun e w' => e = .returned (.tuple #[.int .i64 (findF key (pcs l) : Nat), .bool (isF key (pcs l))]) ∧ Below w.heap.size w w' := by
  have hW := Kwithin_any h hr hn vk key hk 0 l.length (Nat.zero_le _) (by have := findF_le key (pcs l); rw [pcs_length] at this; exact this) (Nat.le_refl _)
  rw [show ((0 : Nat) : Int) = 0 from rfl] at hW
  obtain ⟨A, c, rfl, hm, hc⟩ := h.rd.slice
  obtain ⟨b0, b1, b2, b3, b4, b5⟩ := cells6 h.blk
  generalize findF key (pcs l) = F at *
  generalize isF key (pcs l) = I at *
  go_enter Try.func41, Try.ntmps41
  go_wp2_with (first | (go_at_call 80; (with_reducible refine hW.mono ?_); rintro e w1 ⟨rfl, hw1⟩) | fail)
  go_ret2
  exact ⟨rfl, hw1⟩
end Go.Proofs.Ytaniabhajngdeaa
