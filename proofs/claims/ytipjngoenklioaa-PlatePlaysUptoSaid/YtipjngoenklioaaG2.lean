/- Texts joined: copy over the head of bytes that the call owns.; x[lo; Blocks outside of a set stand; Devices of pages; Powers of two from 512 to 65536.; plate.isPage, Page, Pages, Up, Start, Loose, refused, place, act, settle; plate.Start, act, place, settle; Pages as one list of bytes; what a fall leaves; slices.Clone of bytes and of numbers, slices.Contains -/
import Derived.Test.YtipjngoenklioaaG1
import Derived.Laws.Slices
import Derived.Maps.RangeWalk
import Derived.Maps.OwnSet
import Derived.Deep.QuietTactic
import Derived.BigQuiet
import Derived.Deep.DeepCutAuto
import Derived.Deep.RegionHeld3
import Derived.Lib.SlBytesConst
-- copy over the head of bytes that the call owns.
namespace Go.Proofs.Ytipjngoenklioaa
open Go.RowKit
theorem OwB.some' {w : World} {b n : Nat} {u : Value} {l : List UInt8} (h : OwB w b u l) (hn : l.length = n) (h0 : 0 < n) : ∃ g c, u = .slice (some ⟨g, 0, none⟩) n c := by
  subst hn
  rcases h.form with ⟨_, rfl⟩ | ⟨g, c, rfl, _⟩
  · simp at h0
  · exact ⟨g, c, rfl⟩
section laws
variable {w : World} {ops : Array Oper} {rest : List Oper} {o : Oper} {a : Act} {Q : Exit → Act → World → Prop}
theorem wp_copy_Ow (hgd : o.guard = none) (d s : Operand)
    (ho : o.op = .call { callee := .builtin .copy, args := #[d, s], argTypes := #[28, 28] })
    (base g n k c cap : Nat) (l sp : List UInt8) (hd : a.eval d = .slice (some ⟨g, 0, none⟩) n c) (hown : OwB w base (.slice (some ⟨g, 0, none⟩) (n + k) cap) (l ++ sp)) (hl : l.length = n) (hk : sp.length = k)
    (vx : Value) (m : List UInt8) (hx : a.eval s = vx) (hr : RdB w vx m) (hm : m.length = n)
    (h : ∀ w', OwB w' base (.slice (some ⟨g, 0, none⟩) (n + k) cap) (m ++ sp) → w.grownBy w' (some g) → wpList Try.prog ops Q rest (a.put o.dst (goInt (n : Nat))) w') : wpList Try.prog ops Q (o :: rest) a w := by
  have hlen : (l ++ sp).length = n + k := by simp; omega
  have hown' := hown
  unfold OwB at hown'
  rw [hlen] at hown'
  obtain ⟨h0, h1⟩ := hown'
  rcases h1 with ⟨h1, _⟩ | ⟨g', cap', cs, h1, hb, ho2, h2, h3, h4, h5⟩
  · cases h1
  · injection h1 with hA _ hc
    injection hA with hA
    injection hA with hA
    subst hA; subst hc
    rw [Nat.mul_one] at h4 h5
    refine wp_copy hgd d s _ _ ho 5 Try.underlying28 u8_size _ n c g 0 hd cs _ ho2 (fun _ => rfl) (by omega) vx m.length (bvs m) hx hr.rd (bvs_one m) ?_
    intro w' hw' hgr
    rw [hm, Nat.min_self, List.take_of_length_le (by rw [bvs_length]; omega)] at hw'
    rw [hm, Nat.min_self]
    refine h w' ?_ hgr
    unfold OwB
    have hlen2 : (m ++ sp).length = n + k := by simp; omega
    rw [hlen2]
    refine ⟨by rw [bvs_length, hlen2]; omega, .inr ⟨g, cap, _, rfl, hb, hw', h2, h3, ?_, ?_⟩⟩
    · rw [length_splice _ _ _ (by rw [bvs_length]; omega)]; omega
    · rw [Nat.mul_one, bvs_append]
      have e : splice cs 0 (bvs m) = bvs m ++ cs.drop n := by
        unfold splice
        simp [bvs_length, hm]
      rw [e, List.take_append, bvs_length, hm, List.take_of_length_le (by rw [bvs_length]; omega), Nat.add_sub_cancel_left]
      congr 1
      have : (cs.take (n + k)).drop n = (bvs (l ++ sp)).drop n := by rw [h5]
      rw [List.drop_take, Nat.add_sub_cancel_left, bvs_append, List.drop_left' (by rw [bvs_length, hl])] at this
      exact this
end laws
end Go.Proofs.Ytipjngoenklioaa

-- x[lo:], x[:hi], x[lo:hi] of bytes that are read: as run equations and readings.
namespace Go.Proofs.Ytipjngoenklioaa
open Go.RowKit
theorem u8_elem : Try.prog.underlying 28 = some (.slice (Try.prog.elem 28)) := by kernel_rfl
theorem u8_sizeOf (w : World) : (sizeOf (Try.prog.elem 28)).run Try.prog w = .ok 1 w := by
  have he : Try.prog.elem 28 = 5 := by kernel_rfl
  rw [he]
  obtain ⟨i, hi, hz0, hz1, hz2⟩ := info_parts u8_info
  simp [sizeOf, typeInfo, hi, hz1]
theorem RdB.cap {w : World} {A : Option Addr} {n c : Nat} {l : List UInt8} (h : RdB w (.slice A n c) l) : n = l.length ∧ l.length ≤ c ∧ c ≤ 9223372036854775807 := by
  obtain ⟨A', c', hv, h1, h2, _⟩ := h
  injection hv with _ hn hc
  subst hc
  simp only [maxLen] at h2
  exact ⟨hn, h1, h2⟩
/-- x[lo:hi] -/
theorem RdB.run_lh {w : World} {A : Option Addr} {n c : Nat} {l : List UInt8} (h : RdB w (.slice A n c) l) (lo hi : Nat) (h1 : lo ≤ hi) (h2 : hi ≤ l.length) :
    ∃ A' c', (∀ w', (Instr.slice 28 (.slice A n c) (some (.int .i64 (lo : Int))) (some (.int .i64 (hi : Int))) none).run Try.prog w' = .ok (.slice A' (hi - lo) c') w') ∧ RdB w (.slice A' (hi - lo) c') ((l.take hi).drop lo) := by
  obtain ⟨_, hc, _⟩ := h.cap
  refine ⟨_, _, fun w' => ?_, h.cut h1 h2⟩
  have := run_slice_lh (P := Try.prog) w' 28 A n c u8_elem .i64 .i64 lo hi (by omega) (by omega) (by omega)
  rw [this, u8_sizeOf]
  simp [Result.andThen, sliced]
theorem RdB.run_l {w : World} {A : Option Addr} {n c : Nat} {l : List UInt8} (h : RdB w (.slice A n c) l) (lo : Nat) (h1 : lo ≤ l.length) :
    ∃ A' c', (∀ w', (Instr.slice 28 (.slice A n c) (some (.int .i64 (lo : Int))) none none).run Try.prog w' = .ok (.slice A' (l.length - lo) c') w') ∧ RdB w (.slice A' (l.length - lo) c') (l.drop lo) := by
  obtain ⟨rfl, hc, _⟩ := h.cap
  have hr := h.cut h1 (Nat.le_refl _)
  rw [List.take_length] at hr
  refine ⟨_, _, fun w' => ?_, hr⟩
  have := run_slice_l (P := Try.prog) w' 28 A l.length c u8_elem .i64 lo (by omega) (by omega)
  rw [this, u8_sizeOf]
  simp [Result.andThen, sliced]
theorem RdB.run_h {w : World} {A : Option Addr} {n c : Nat} {l : List UInt8} (h : RdB w (.slice A n c) l) (hi : Nat) (h2 : hi ≤ l.length) :
    ∃ A' c', (∀ w', (Instr.slice 28 (.slice A n c) none (some (.int .i64 (hi : Int))) none).run Try.prog w' = .ok (.slice A' hi c') w') ∧ RdB w (.slice A' hi c') (l.take hi) := by
  obtain ⟨_, hc, _⟩ := h.cap
  have hr := h.cut (Nat.zero_le hi) h2
  rw [List.drop_zero, Nat.sub_zero] at hr
  refine ⟨_, _, fun w' => ?_, hr⟩
  have := run_slice_h (P := Try.prog) w' 28 A n c u8_elem .i64 hi (by omega) (by omega)
  rw [this, u8_sizeOf]
  simp [Result.andThen, sliced]
end Go.Proofs.Ytipjngoenklioaa

-- Blocks outside of a set stand: words for what a call may write.
namespace Go.Proofs.Ytipjngoenklioaa
open Go.RowKit
/-- Blocks outside of F stand. -/
structure Turn (F : Nat → Prop) (w w' : World) : Prop where
  os : w'.os = w.os
  tape : w'.tape = w.tape
  output : w'.output = w.output
  size : w.heap.size ≤ w'.heap.size
  block : ∀ k, k < w.heap.size → ¬ F k → w'.heap[k]? = w.heap[k]?
/-- .. and what is in F now was there, or is new. -/
structure Step (F : Nat → Prop) (w : World) (F' : Nat → Prop) (w' : World) : Prop where
  turn : Turn F w w'
  grow : ∀ k, F' k → F k ∨ w.heap.size ≤ k
section
variable {F F' F'' G : Nat → Prop} {w w' w'' : World}
theorem Turn.refl (F : Nat → Prop) (w : World) : Turn F w w := ⟨rfl, rfl, rfl, Nat.le_refl _, fun _ _ _ => rfl⟩
theorem Turn.trans (h : Turn F w w') (k : Turn F' w' w'') (hs : ∀ b, F' b → F b ∨ w.heap.size ≤ b) : Turn F w w'' :=
  ⟨k.os.trans h.os, k.tape.trans h.tape, k.output.trans h.output, Nat.le_trans h.size k.size, fun b hb hn =>
    (k.block b (Nat.lt_of_lt_of_le hb h.size) (fun h' => (hs b h').elim hn (fun h1 => by omega))).trans (h.block b hb hn)⟩
theorem Turn.mono (h : Turn F w w') (hs : ∀ b, F b → G b) : Turn G w w' := ⟨h.os, h.tape, h.output, h.size, fun b hb hn => h.block b hb (fun e => hn (hs b e))⟩
theorem Turn.of_grown {row : Option Nat} (h : w.grownBy w' row) (hr : ∀ k, row = some k → F k) : Turn F w w' :=
  ⟨h.os, h.tape, h.output, h.size, fun b hb hn => h.block b hb (fun e => hn (hr b e.symm))⟩
theorem Turn.of_below (h : Below w.heap.size w w') : Turn F w w' := ⟨h.os, h.tape, h.output, h.size, fun b hb _ => h.block b hb⟩
theorem Turn.below {B : Nat} (h : Turn F w w') (hB : B ≤ w.heap.size) (hF : ∀ b, F b → B ≤ b) : Below B w w' :=
  ⟨h.os, h.tape, h.output, h.size, fun b hb => h.block b (by omega) (fun e => by have := hF b e; omega)⟩
theorem Turn.drew (h : Turn F w w') : Turn F w w'.drew := ⟨h.os, h.tape, h.output, h.size, h.block⟩
theorem Turn.drewN (h : Turn F w w') (n : Nat) : Turn F w (w'.drewN n) := ⟨h.os, h.tape, h.output, h.size, h.block⟩
theorem Turn.grown {row : Option Nat} (h : Turn F w w') (k : w'.grownBy w'' row) (hr : ∀ b, row = some b → F b ∨ w.heap.size ≤ b) : Turn F w w'' :=
  h.trans (F' := fun b => row = some b) (Turn.of_grown k fun _ e => e) hr
theorem Turn.new (h : Turn F w w') (k : Below w.heap.size w' w'') : Turn F w w'' :=
  ⟨k.os.trans h.os, k.tape.trans h.tape, k.output.trans h.output, Nat.le_trans h.size k.size, fun b hb hn => (k.block b hb).trans (h.block b hb hn)⟩
theorem Turn.alloc (h : Turn F w w') (o : Obj) : Turn F w (w'.alloc o) := h.new ((Below.refl _ _).alloc h.size o)
theorem Turn.setCell (h : Turn F w w') (p : Addr) (u : Value) (hp : F p.block ∨ w.heap.size ≤ p.block) : Turn F w (w'.setCell p u) :=
  h.grown (grownBy_setCell w' p u) (fun b e => by cases e; exact hp)
theorem Step.refl (F : Nat → Prop) (w : World) : Step F w F w := ⟨Turn.refl _ _, fun _ h => .inl h⟩
theorem Step.trans (h : Step F w F' w') (k : Step F' w' F'' w'') : Step F w F'' w'' :=
  ⟨h.turn.trans k.turn h.grow, fun b hb => (k.grow b hb).elim (h.grow b) (fun h1 => .inr (Nat.le_trans h.turn.size h1))⟩
/-- What the call owns and what no device has. -/
def Off (F : Nat → Prop) (v : Value) : Prop := ∀ g, v.ownBlock = some g → ¬ F g
theorem OwB.turn {b : Nat} {v : Value} {l : List UInt8} (h : OwB w b v l) (ht : Turn F w w') (ho : Off F v) : OwB w' b v l :=
  Own.heap h fun g hg => ht.block g (h.lt g hg).2 (ho g hg)
theorem OwB.off {b : Nat} {v : Value} {l : List UInt8} (h : OwB w b v l) (hs : Step F w F' w') (ho : Off F v) : Off F' v := fun g hg hf => by
  rcases hs.grow g hf with h1 | h1
  · exact ho g hg h1
  · have := (h.lt g hg).2
    omega
theorem OBlk.turn {g : Nat} {T : TypeId} {cs : List Value} (h : OBlk w g T cs) (ht : Turn F w w') (hg : ¬ F g) : OBlk w' g T cs := h.of_heap (ht.block g h.lt hg)
end
end Go.Proofs.Ytipjngoenklioaa

-- Devices of pages: the state, and where it lies.
namespace Go.Proofs.Ytipjngoenklioaa
open Go.RowKit Go.WideShapes
/-! ### the last loose write to a page -/
def lastA : Nat → List (Nat × List UInt8) → Int → Option Nat
  | _, [], _ => none
  | k, x :: r, n => match lastA (k + 1) r n with
    | some i => some i
    | none => if (x.1 : Int) = n then some k else none
def lastI (ws : List (Nat × List UInt8)) (n : Int) : Option Nat := lastA 0 ws n
theorem lastA_snoc (x : Nat × List UInt8) (n : Int) : ∀ (ws : List (Nat × List UInt8)) (k : Nat), lastA k (ws ++ [x]) n = if (x.1 : Int) = n then some (k + ws.length) else lastA k ws n
  | [], k => by simp [lastA]
  | y :: r, k => by
    rw [List.cons_append, lastA, lastA_snoc x n r (k + 1)]
    by_cases h : (x.1 : Int) = n
    · rw [if_pos h, if_pos h]
      simp; omega
    · rw [if_neg h, if_neg h, lastA]
theorem lastI_snoc (ws : List (Nat × List UInt8)) (x : Nat × List UInt8) (n : Int) : lastI (ws ++ [x]) n = if (x.1 : Int) = n then some ws.length else lastI ws n := by
  unfold lastI; rw [lastA_snoc]; simp
theorem lastA_some {n : Int} {i : Nat} : ∀ {ws : List (Nat × List UInt8)} {k : Nat}, lastA k ws n = some i → k ≤ i ∧ ∃ h : i - k < ws.length, (ws[i - k].1 : Int) = n
  | [], k, h => by simp [lastA] at h
  | y :: r, k, h => by
    rw [lastA] at h
    split at h
    · rename_i j hj
      injection h with h
      subst h
      obtain ⟨h1, h2, h3⟩ := lastA_some hj
      refine ⟨by omega, by simp; omega, ?_⟩
      have e : j - k = (j - (k + 1)) + 1 := by omega
      simp only [e, List.getElem_cons_succ]
      exact h3
    · split at h
      · rename_i hx
        injection h with h
        subst h
        refine ⟨Nat.le_refl _, by simp, ?_⟩
        simpa using hx
      · cases h
theorem lastI_some {ws : List (Nat × List UInt8)} {n : Int} {i : Nat} (h : lastI ws n = some i) : ∃ h : i < ws.length, (ws[i].1 : Int) = n := by
  have := (lastA_some h).2
  simpa using this
/-- The map reads as the last writes. -/
def LastD (D : DataW Unit) (ws : List (Nat × List UInt8)) : Prop :=
  Maps.IsMap D ∧ ∀ n : Int, Maps.has D (.int .i64 n) = (lastI ws n).isSome ∧ ∀ i, lastI ws n = some i → ∀ z, D.atKey (.int .i64 n) z = .lit (.int .i64 (i : Int))
theorem LastD.nil : LastD (.map []) [] := ⟨Maps.isMap_empty, fun n => ⟨rfl, fun i h => by simp [lastI, lastA] at h⟩⟩
def MapAt (w : World) (mb : Nat) (ws : List (Nat × List UInt8)) : Prop := ∃ D : DataW Unit, w.ownsMap Try.prog 3 (plainElem Try.prog 3) mb ws.length D ∧ LastD D ws
theorem intKeyed : Maps.Keyed Try.prog 3 := Maps.int_keyed Try.underlying3
theorem wf_nat {n : Nat} (h : n < 9223372036854775808) : (Lit.int .i64 (n : Int)).wf = true := by
  simp [Lit.wf, IntKind.min, IntKind.max, IntKind.signed, IntKind.bits]; omega
theorem key_nat {n : Nat} (h : n < 9223372036854775808) : keyOf Try.prog 3 (.int .i64 (n : Int)) = some (.int .i64 (n : Int)) := Maps.keyOf_int_mk Try.underlying3 (wf_nat h)
theorem LastD.put {D : DataW Unit} {ws : List (Nat × List UInt8)} (h : LastD D ws) (p : Nat) (l : List UInt8) (hp : p < 9223372036854775808) : LastD (D.put (.int .i64 (p : Int)) (.lit (.int .i64 (ws.length : Int)))) (ws ++ [(p, l)]) := by
  refine ⟨h.1.put _ _, fun n => ?_⟩
  rw [lastI_snoc]
  have hk : WideAt.IsKeyLit (.int .i64 (p : Int)) := intKeyed.key (key_nat hp)
  by_cases e : (p : Int) = n
  · subst e
    rw [if_pos rfl]
    refine ⟨Maps.has_put_same h.1 hk _, fun i hi z => ?_⟩
    injection hi with hi
    subst hi
    exact Maps.atKey_put_same h.1 hk _ _
  · rw [if_neg e]
    have hne : (Lit.int .i64 n) ≠ .int .i64 (p : Int) := fun h => by injection h with _ h; exact e h.symm
    rw [Maps.has_put_other hne]
    refine ⟨(h.2 n).1, fun i hi z => ?_⟩
    rw [Maps.atKey_put_other hne]
    exact (h.2 n).2 i hi z
theorem MapAt.lt {w : World} {mb : Nat} {ws : List (Nat × List UInt8)} (h : MapAt w mb ws) : mb < w.heap.size := by
  obtain ⟨D, h, _⟩ := h; exact h.lt
theorem MapAt.heap {w w' : World} {mb : Nat} {ws : List (Nat × List UInt8)} (h : MapAt w mb ws) (hk : w'.heap[mb]? = w.heap[mb]?) : MapAt w' mb ws := by
  obtain ⟨D, ⟨es, clock, hb, r⟩, hl⟩ := h
  exact ⟨D, ⟨es, clock, hk.trans hb, r⟩, hl⟩
theorem MapAt.ne {w : World} {mb g : Nat} {ws : List (Nat × List UInt8)} {T : TypeId} {cs : List Value} (h : MapAt w mb ws) (hg : OBlk w g T cs) : mb ≠ g := by
  rintro rfl
  obtain ⟨D, ⟨es, clock, hb, _⟩, _⟩ := h
  obtain ⟨fr, h1, _⟩ := hg
  rw [h1] at hb
  cases hb
/-! ### the state of a device -/
structure PS where
  page : Nat
  np : Nat
  sz : Nat
  pg : List (List UInt8)
  wild : List (Nat × List UInt8)
  down : Bool
  acts : Int
  keep : List Int
  torn : Int
  at_ : Int
  cr : Int
  cw : Int
  cs : Int
structure PS.ok (S : PS) : Prop where
  p1 : 512 ≤ S.page
  p2 : S.page ≤ 65536
  n1 : 4 ≤ S.np
  n2 : S.np ≤ 65536
  pn : S.sz ≤ 67108864
  sn : S.sz = S.page * S.np
  pl : S.pg.length = S.np
  pe : ∀ l ∈ S.pg, l.length = S.page
  we : ∀ x ∈ S.wild, x.1 < S.np ∧ x.2.length = S.page
  a1 : -1 ≤ S.acts
  a2 : S.acts ≤ 9223372036854775807
  c1 : -9223372036854775808 ≤ S.cr ∧ S.cr ≤ 9223372036854775807
  c2 : -9223372036854775808 ≤ S.cw ∧ S.cw ≤ 9223372036854775807
  c3 : -9223372036854775808 ≤ S.cs ∧ S.cs ≤ 9223372036854775807
  t1 : -9223372036854775808 ≤ S.torn ∧ S.torn ≤ 9223372036854775807
  t2 : -9223372036854775808 ≤ S.at_ ∧ S.at_ ≤ 9223372036854775807
def wcells : List (Nat × List UInt8) → List Value → List Value
  | x :: r, v :: s => .int .i64 (x.1 : Int) :: v :: wcells r s
  | _, _ => []
theorem wcells_length : ∀ (ws : List (Nat × List UInt8)) (vs : List Value), vs.length = ws.length → (wcells ws vs).length = ws.length * 2
  | [], [], _ => rfl
  | x :: r, v :: s, h => by
    have := wcells_length r s (by simpa using h)
    simp [wcells, this]; omega
theorem wcells_snoc (x : Nat × List UInt8) (v : Value) : ∀ (ws : List (Nat × List UInt8)) (vs : List Value), vs.length = ws.length → wcells (ws ++ [x]) (vs ++ [v]) = wcells ws vs ++ [.int .i64 (x.1 : Int), v]
  | [], [], _ => rfl
  | y :: r, u :: s, h => by
    have := wcells_snoc x v r s (by simpa using h)
    simp [wcells, this]
theorem wcells_page : ∀ (ws : List (Nat × List UInt8)) (vs : List Value) (i : Nat) (_ : vs.length = ws.length) (h : i < ws.length), (wcells ws vs)[i * 2]? = some (.int .i64 (ws[i].1 : Int))
  | x :: r, v :: s, 0, _, _ => rfl
  | x :: r, v :: s, i + 1, h, hi => by
    have := wcells_page r s i (by simpa using h) (by simpa using hi)
    rw [show (i + 1) * 2 = i * 2 + 2 by omega]
    simpa [wcells] using this
theorem wcells_data : ∀ (ws : List (Nat × List UInt8)) (vs : List Value) (i : Nat) (_ : vs.length = ws.length) (_ : i < ws.length), (wcells ws vs)[i * 2 + 1]? = vs[i]?
  | x :: r, v :: s, 0, _, _ => rfl
  | x :: r, v :: s, i + 1, h, hi => by
    have := wcells_data r s i (by simpa using h) (by simpa using hi)
    rw [show (i + 1) * 2 + 1 = i * 2 + 1 + 2 by omega]
    simpa [wcells] using this
/-- Where it lies. -/
structure Raw where
  pb : Nat
  sb : Nat
  mb : Nat
  vl : Value
  vk : Value
  dv : List Value
def plCells (r : Raw) (S : PS) : List Value :=
  [.int .i64 (S.page : Int), .slice (some ⟨r.sb, 0, none⟩) S.sz S.sz, r.vl, .map (some r.mb), .bool S.down, .int .i64 S.acts, r.vk, .int .i64 S.torn, .int .i64 S.at_, .int .i64 S.cr, .int .i64 S.cw, .int .i64 S.cs]
structure PlRaw (w : World) (F : Nat → Prop) (r : Raw) (S : PS) : Prop where
  ok : S.ok
  blk : OBlk w r.pb 66 (plCells r S)
  safe : OBlk w r.sb 5 (bvs S.pg.flatten)
  loose : Own w 0 69 2 r.vl S.wild.length (wcells S.wild r.dv)
  dlen : r.dv.length = S.wild.length
  data : ∀ (i : Nat) (h : i < S.wild.length) (v : Value), r.dv[i]? = some v → OwB w 0 v S.wild[i].2 ∧ ∀ g, v.ownBlock = some g → F g ∧ g ≠ r.sb
  map : MapAt w r.mb S.wild
  keep : Own w 0 3 1 r.vk S.keep.length (S.keep.map (Value.int .i64))
  fp : F r.pb
  fs : F r.sb
  fm : F r.mb
  fl : ∀ g, r.vl.ownBlock = some g → F g
  fk : ∀ g, r.vk.ownBlock = some g → F g
  lt : ∀ k, F k → k < w.heap.size
def plPtr (r : Raw) : Value := .pointer (some ⟨r.pb, 0, none⟩)
section
variable {w w' : World} {F G : Nat → Prop} {r : Raw} {S : PS}
theorem PlRaw.heap (h : PlRaw w F r S) (hs : w.heap.size ≤ w'.heap.size) (hk : ∀ k, F k → w'.heap[k]? = w.heap[k]?) : PlRaw w' F r S :=
  { h with
    blk := h.blk.of_heap (hk _ h.fp)
    safe := h.safe.of_heap (hk _ h.fs)
    loose := h.loose.heap fun g hg => hk g (h.fl g hg)
    data := fun i hi v hv => ⟨Own.heap (h.data i hi v hv).1 fun g hg => hk g ((h.data i hi v hv).2 g hg).1, (h.data i hi v hv).2⟩
    map := h.map.heap (hk _ h.fm)
    keep := h.keep.heap fun g hg => hk g (h.fk g hg)
    lt := fun k hf => Nat.lt_of_lt_of_le (h.lt k hf) hs }
theorem PlRaw.turn (h : PlRaw w F r S) (ht : Turn G w w') (hd : ∀ k, F k → ¬ G k) : PlRaw w' F r S := h.heap ht.size fun k hf => ht.block k (h.lt k hf) (hd k hf)
theorem PlRaw.below (h : PlRaw w F r S) (hb : Below w.heap.size w w') : PlRaw w' F r S := h.heap hb.size fun k hf => hb.block k (h.lt k hf)
theorem PlRaw.drew (h : PlRaw w F r S) : PlRaw w.drew F r S := h.heap (Nat.le_refl _) fun _ _ => rfl
theorem PlRaw.mono (h : PlRaw w F r S) (hs : ∀ k, F k → G k) (hl : ∀ k, G k → k < w.heap.size) : PlRaw w G r S :=
  { h with data := fun i hi v hv => ⟨(h.data i hi v hv).1, fun g hg => ⟨hs _ ((h.data i hi v hv).2 g hg).1, ((h.data i hi v hv).2 g hg).2⟩⟩, fp := hs _ h.fp, fs := hs _ h.fs, fm := hs _ h.fm, fl := fun g hg => hs _ (h.fl g hg), fk := fun g hg => hs _ (h.fk g hg), lt := hl }
theorem Own.ne_T {b n size : Nat} {v : Value} {xs : List Value} {T T' : TypeId} {g : Nat} {cs : List Value} (h : Own w b T size v n xs) (hg : OBlk w g T' cs) (hT : T ≠ T') : some g ≠ v.ownBlock := by
  rcases h.2 with ⟨rfl, _⟩ | ⟨g', cap, cs', rfl, _, hg', _⟩
  · simp [Value.ownBlock]
  · intro e
    simp [Value.ownBlock] at e
    subst e
    exact (hg'.ne hg hT) rfl
theorem OwB.ne_T {b : Nat} {v : Value} {l : List UInt8} {T' : TypeId} {g : Nat} {cs : List Value} (h : OwB w b v l) (hg : OBlk w g T' cs) (hT : 5 ≠ T') : some g ≠ v.ownBlock := Own.ne_T h hg hT
theorem OwB.ne_map {b : Nat} {v : Value} {l : List UInt8} {mb : Nat} {ws : List (Nat × List UInt8)} (h : OwB w b v l) (hm : MapAt w mb ws) : some mb ≠ v.ownBlock := by
  rcases h.2 with ⟨rfl, _⟩ | ⟨g', cap, cs', rfl, _, hg', _⟩
  · simp [Value.ownBlock]
  · intro e
    simp [Value.ownBlock] at e
    exact hm.ne hg' e
theorem Own.ne_map {b n size : Nat} {v : Value} {xs : List Value} {T : TypeId} {mb : Nat} {ws : List (Nat × List UInt8)} (h : Own w b T size v n xs) (hm : MapAt w mb ws) : some mb ≠ v.ownBlock := by
  rcases h.2 with ⟨rfl, _⟩ | ⟨g', cap, cs', rfl, _, hg', _⟩
  · simp [Value.ownBlock]
  · intro e
    simp [Value.ownBlock] at e
    exact hm.ne hg' e
/-- The device's own block is written. -/
theorem PlRaw.pb_write {S' : PS} (h : PlRaw w F r S) (hg : w.grownBy w' (some r.pb)) (hb : OBlk w' r.pb 66 (plCells r S')) (hok : S'.ok) (e1 : S'.pg = S.pg) (e2 : S'.wild = S.wild) (e3 : S'.keep = S.keep) : PlRaw w' F r S' :=
  { ok := hok, blk := hb
    safe := by rw [e1]; exact h.safe.grown hg (fun e => h.safe.ne h.blk (by decide) (Option.some.inj e))
    loose := by rw [e2]; exact h.loose.grown hg (fun g hg' e => h.loose.ne_T h.blk (by decide) (by rw [hg', e]))
    dlen := by rw [e2]; exact h.dlen
    data := by
      rw [e2]
      exact fun i hi v hv => ⟨Own.grown (h.data i hi v hv).1 hg (fun g hg' e => OwB.ne_T (h.data i hi v hv).1 h.blk (by decide) (by rw [hg', e])), (h.data i hi v hv).2⟩
    map := by rw [e2]; exact h.map.heap (hg.block _ h.map.lt (fun e => h.map.ne h.blk (Option.some.inj e)))
    keep := by rw [e3]; exact h.keep.grown hg (fun g hg' e => h.keep.ne_T h.blk (by decide) (by rw [hg', e]))
    fp := h.fp, fs := h.fs, fm := h.fm, fl := h.fl, fk := h.fk, lt := fun k hk => Nat.lt_of_lt_of_le (h.lt k hk) hg.size }
end
end Go.Proofs.Ytipjngoenklioaa

-- Powers of two from 512 to 65536.
namespace Go.Proofs.Ytipjngoenklioaa
open Go.RowKit
def isPow (p : Int) : Prop := p = 512 ∨ p = 1024 ∨ p = 2048 ∨ p = 4096 ∨ p = 8192 ∨ p = 16384 ∨ p = 32768 ∨ p = 65536
instance (p : Int) : Decidable (isPow p) := by unfold isPow; infer_instance
def isPowB (p : Int) : Bool := decide (isPow p)
theorem and_pred (k p : Nat) (h1 : 2 ^ k ≤ p) (h2 : p < 2 ^ (k + 1)) : p &&& (p - 1) = 0 ↔ p = 2 ^ k := by
  constructor
  · intro h
    rcases Nat.lt_or_ge (2 ^ k) p with hlt | hge
    · have h3 : p.testBit k = true := by
        have := Nat.testBit_two_pow_add_eq (p - 2 ^ k) k
        rw [show 2 ^ k + (p - 2 ^ k) = p by omega] at this
        rw [this, Nat.testBit_lt_two_pow (by rw [Nat.pow_succ] at h2; omega)]; rfl
      have h4 : (p - 1).testBit k = true := by
        have := Nat.testBit_two_pow_add_eq (p - 1 - 2 ^ k) k
        rw [show 2 ^ k + (p - 1 - 2 ^ k) = p - 1 by omega] at this
        rw [this, Nat.testBit_lt_two_pow (by rw [Nat.pow_succ] at h2; omega)]; rfl
      have h5 := congrArg (fun x => Nat.testBit x k) h
      simp [Nat.testBit_and, h3, h4] at h5
    · omega
  · rintro rfl
    apply Nat.eq_of_testBit_eq
    intro i
    rw [Nat.testBit_and, Nat.testBit_two_pow, Nat.testBit_two_pow_sub_one]
    by_cases h : k = i
    · subst h; simp
    · simp [h]
theorem i64_and_nat (a b : Nat) (ha : a < 9223372036854775808) (hb : b < 9223372036854775808) : bits .and .i64 (a : Int) (b : Int) = ((a &&& b : Nat) : Int) := by
  have oi : ∀ a : Nat, a < 9223372036854775808 → (BitVec.ofInt 64 (a : Int)).toNat = a := fun a ha => by
    rw [BitVec.ofInt_natCast, BitVec.toNat_ofNat]; exact Nat.mod_eq_of_lt (by omega)
  have hx : a &&& b < 2 ^ 63 := Nat.and_lt_two_pow _ (by omega)
  show IntKind.i64.wrap ((BitVec.ofInt 64 (a : Int) &&& BitVec.ofInt 64 (b : Int)).toNat : Int) = _
  rw [BitVec.toNat_and, oi a ha, oi b hb, IntKind.wrap_i64]
  omega
theorem pow_test (p : Int) (h1 : 512 ≤ p) (h2 : p ≤ 65536) : (bits .and .i64 p (p - 1) != 0) = !isPowB p := by
  obtain ⟨n, rfl⟩ := Int.eq_ofNat_of_zero_le (show 0 ≤ p by omega)
  have e : ((n : Int) - 1) = ((n - 1 : Nat) : Int) := by omega
  rw [e, i64_and_nat n (n - 1) (by omega) (by omega)]
  have key : n &&& (n - 1) = 0 ↔ isPow n := by
    unfold isPow
    rcases Nat.lt_or_ge n 1024 with h | h
    · rw [and_pred 9 n (by omega) (by omega)]; omega
    rcases Nat.lt_or_ge n 2048 with h | h
    · rw [and_pred 10 n (by omega) (by omega)]; omega
    rcases Nat.lt_or_ge n 4096 with h | h
    · rw [and_pred 11 n (by omega) (by omega)]; omega
    rcases Nat.lt_or_ge n 8192 with h | h
    · rw [and_pred 12 n (by omega) (by omega)]; omega
    rcases Nat.lt_or_ge n 16384 with h | h
    · rw [and_pred 13 n (by omega) (by omega)]; omega
    rcases Nat.lt_or_ge n 32768 with h | h
    · rw [and_pred 14 n (by omega) (by omega)]; omega
    rcases Nat.lt_or_ge n 65536 with h | h
    · rw [and_pred 15 n (by omega) (by omega)]; omega
    · rw [and_pred 16 n (by omega) (by omega)]; omega
  unfold isPowB
  by_cases h : isPow n
  · rw [key.2 h]; simp [h]
  · have : n &&& (n - 1) ≠ 0 := fun h' => h (key.1 h')
    simp only [h, decide_false, Bool.not_false, bne_iff_ne]; omega
theorem isPowB_range {p : Int} (h : isPowB p = true) : 512 ≤ p ∧ p ≤ 65536 := by
  have := of_decide_eq_true h
  unfold isPow at this
  omega
theorem pow_eq (p : Int) (h1 : 512 ≤ p) (h2 : p ≤ 65536) : (bits .and .i64 p (p - 1) == 0) = isPowB p := by
  have h := pow_test p h1 h2
  have e : (bits .and .i64 p (p - 1) != 0) = !(bits .and .i64 p (p - 1) == 0) := rfl
  rw [e] at h
  simpa using h
theorem isPowB_out {p : Int} (h : p < 512 ∨ 65536 < p) : isPowB p = false := by
  cases e : isPowB p
  · rfl
  · have := isPowB_range e
    omega
end Go.Proofs.Ytipjngoenklioaa

-- plate.isPage, Page, Pages, Up, Start, Loose, refused, place, act, settle: walks.
namespace Go.Proofs.Ytipjngoenklioaa
open Go.RowKit Go.WideShapes
theorem below_drewN {B : Nat} {w w' : World} (h : Below B w w') : ∀ n, Below B w (w'.drewN n)
  | 0 => h
  | n + 1 => (below_drewN h n).drew
set_option maxRecDepth 20000 in
set_option maxHeartbeats 1000000 in
theorem isPage_any (p : Int) (hp : -9223372036854775808 ≤ p ∧ p ≤ 9223372036854775807) (w : World) : Calls Try.prog 33 #[.int .i64 p] w fun e w' => e = .returned (.bool (isPowB p)) ∧ w = w' := by
  by_cases h1 : p < 512
  · have HV := Lib.hid (isPowB_out (.inl h1))
    go_enter Try.func33, Try.ntmps33
    go_wp2_with fail
    go_ret
    rw [HV.out]
    exact ⟨rfl, rfl⟩
  by_cases h2 : 65536 < p
  · have HV := Lib.hid (isPowB_out (.inr h2))
    go_enter Try.func33, Try.ntmps33
    go_wp2_with fail
    go_ret
    rw [HV.out]
    exact ⟨rfl, rfl⟩
  have hq := pow_eq p (by omega) (by omega)
  go_enter Try.func33, Try.ntmps33
  go_wp2_with fail
  go_ret
  exact ⟨rfl, rfl⟩
section
variable {w : World} {F : Nat → Prop} {r : Raw} {S : PS}
theorem PlRaw.c0 (h : PlRaw w F r S) : w.cell? ⟨r.pb, 0, none⟩ = some (.int .i64 (S.page : Int)) := h.blk.cell' rfl
theorem PlRaw.c1 (h : PlRaw w F r S) : w.cell? ⟨r.pb, 1, none⟩ = some (.slice (some ⟨r.sb, 0, none⟩) S.sz S.sz) := h.blk.cell' rfl
theorem PlRaw.c2 (h : PlRaw w F r S) : w.cell? ⟨r.pb, 2, none⟩ = some r.vl := h.blk.cell' rfl
theorem PlRaw.c3 (h : PlRaw w F r S) : w.cell? ⟨r.pb, 3, none⟩ = some (.map (some r.mb)) := h.blk.cell' rfl
theorem PlRaw.c4 (h : PlRaw w F r S) : w.cell? ⟨r.pb, 4, none⟩ = some (.bool S.down) := h.blk.cell' rfl
theorem PlRaw.c5 (h : PlRaw w F r S) : w.cell? ⟨r.pb, 5, none⟩ = some (.int .i64 S.acts) := h.blk.cell' rfl
theorem PlRaw.c6 (h : PlRaw w F r S) : w.cell? ⟨r.pb, 6, none⟩ = some r.vk := h.blk.cell' rfl
theorem PlRaw.c7 (h : PlRaw w F r S) : w.cell? ⟨r.pb, 7, none⟩ = some (.int .i64 S.torn) := h.blk.cell' rfl
theorem PlRaw.c8 (h : PlRaw w F r S) : w.cell? ⟨r.pb, 8, none⟩ = some (.int .i64 S.at_) := h.blk.cell' rfl
theorem PlRaw.c9 (h : PlRaw w F r S) : w.cell? ⟨r.pb, 9, none⟩ = some (.int .i64 S.cr) := h.blk.cell' rfl
theorem PlRaw.c10 (h : PlRaw w F r S) : w.cell? ⟨r.pb, 10, none⟩ = some (.int .i64 S.cw) := h.blk.cell' rfl
theorem PlRaw.c11 (h : PlRaw w F r S) : w.cell? ⟨r.pb, 11, none⟩ = some (.int .i64 S.cs) := h.blk.cell' rfl
theorem PlRaw.fz (h : PlRaw w F r S) {j : Nat} (hj : j < 12) : w.frozen? ⟨r.pb, j, none⟩ = false := h.blk.frozen (by simpa [plCells] using hj)
end
set_option maxRecDepth 20000 in
theorem Page_any (w : World) (F : Nat → Prop) (r : Raw) (S : PS) (h : PlRaw w F r S) : Calls Try.prog 19 #[plPtr r] w fun e w' => e = .returned (.int .i64 (S.page : Int)) ∧ w = w' := by
  have c0 := h.c0
  unfold plPtr
  go_enter Try.func19, Try.ntmps19
  go_wp2_with fail
  go_ret
  exact ⟨rfl, rfl⟩
set_option maxRecDepth 20000 in
theorem Pages_any (w : World) (F : Nat → Prop) (r : Raw) (S : PS) (h : PlRaw w F r S) : Calls Try.prog 20 #[plPtr r] w fun e w' => e = .returned (.int .i64 (S.np : Int)) ∧ Below w.heap.size w w' := by
  have c0 := h.c0
  have c1 := h.c1
  have hp0 : 0 < S.page := by have := h.ok.p1; omega
  have e1 : (S.sz : Int) / (S.page : Int) = (S.np : Int) := by
    have : S.sz / S.page = S.np := by rw [h.ok.sn, Nat.mul_div_cancel_left _ hp0]
    omega
  have e2 : (S.sz : Int).tdiv (S.page : Int) = (S.np : Int) := by rw [Int.tdiv_eq_ediv_of_nonneg (by omega)]; exact e1
  have e3 : ((S.page : Int) == 0) = false := by simp; omega
  have k1 := h.ok.n2
  have k2 := h.ok.pn
  have k3 := h.ok.p2
  unfold plPtr
  go_enter Try.func20, Try.ntmps20
  go_upto_region 1 with (fail)
  go_quiet (fail)
  go_wp2_with fail
  go_ret
  exact ⟨rfl, below_drewN (Below.refl _ _) _⟩
set_option maxRecDepth 20000 in
theorem Up_any (w : World) (F : Nat → Prop) (r : Raw) (S : PS) (h : PlRaw w F r S) : Calls Try.prog 14 #[plPtr r] w fun e w' => e = .returned (.bool (!S.down)) ∧ w = w' := by
  have c4 := h.c4
  unfold plPtr
  go_enter Try.func14, Try.ntmps14
  go_wp2_with fail
  go_ret
  exact ⟨rfl, rfl⟩
set_option maxRecDepth 20000 in
theorem Loose_any (w : World) (F : Nat → Prop) (r : Raw) (S : PS) (h : PlRaw w F r S) : Calls Try.prog 17 #[plPtr r] w fun e w' => e = .returned (.int .i64 (S.wild.length : Int)) ∧ w = w' := by
  have c2 := h.c2
  obtain ⟨A, c, hv⟩ := h.loose.slice
  rw [hv] at c2
  clear hv
  unfold plPtr
  go_enter Try.func17, Try.ntmps17
  go_wp2_with fail
  go_ret
  exact ⟨rfl, rfl⟩
/-- Why a page can not be asked for. -/
def PS.ref (S : PS) (n : Int) : Int := if S.down then 3 else if n < 0 ∨ (S.np : Int) ≤ n then 30 else 0
set_option maxRecDepth 20000 in
set_option maxHeartbeats 1000000 in
theorem refused_any (w : World) (F : Nat → Prop) (r : Raw) (S : PS) (n : Int) (h : PlRaw w F r S) : Calls Try.prog 34 #[plPtr r, .int .i64 n] w fun e w' => e = .returned (.int .i64 (S.ref n)) ∧ Below w.heap.size w w' := by
  have c4 := h.c4
  cases hd : S.down
  · rw [hd] at c4
    by_cases h0 : n < 0
    · have HV : Hid (S.ref n = 30) := by show _ = _; unfold PS.ref; rw [hd, if_neg (by simp), if_pos (.inl h0)]
      unfold plPtr
      go_enter Try.func34, Try.ntmps34
      go_wp2_with fail
      go_ret
      rw [HV.out]
      exact ⟨rfl, Below.refl _ _⟩
    · by_cases h1 : (S.np : Int) ≤ n
      · have HV : Hid (S.ref n = 30) := by show _ = _; unfold PS.ref; rw [hd, if_neg (by simp), if_pos (.inr h1)]
        have hP := Pages_any w F r S h
        unfold plPtr at hP ⊢
        go_enter Try.func34, Try.ntmps34
        go_wp2_with fail
        refine hP.mono ?_
        rintro e w1 ⟨rfl, hb⟩
        go_wp2_with fail
        go_ret
        rw [HV.out]
        exact ⟨rfl, hb⟩
      · have HV : Hid (S.ref n = 0) := by show _ = _; unfold PS.ref; rw [hd, if_neg (by simp), if_neg (by omega)]
        have hP := Pages_any w F r S h
        unfold plPtr at hP ⊢
        go_enter Try.func34, Try.ntmps34
        go_wp2_with fail
        refine hP.mono ?_
        rintro e w1 ⟨rfl, hb⟩
        go_wp2_with fail
        go_ret
        rw [HV.out]
        exact ⟨rfl, hb⟩
  · rw [hd] at c4
    have HV : Hid (S.ref n = 3) := by show _ = _; unfold PS.ref; rw [hd, if_pos rfl]
    unfold plPtr
    go_enter Try.func34, Try.ntmps34
    go_wp2_with fail
    go_ret
    rw [HV.out]
    exact ⟨rfl, Below.refl _ _⟩
end Go.Proofs.Ytipjngoenklioaa

-- plate.Start, act, place, settle: walks.
namespace Go.Proofs.Ytipjngoenklioaa
open Go.RowKit Go.WideShapes Go.ChangeMaps Go.MapKept
def inc64 (x : Int) : Int := wrap64 (x + 1)
theorem inc64_range (x : Int) : -9223372036854775808 ≤ inc64 x ∧ inc64 x ≤ 9223372036854775807 := by
  unfold inc64 wrap64; omega
theorem grownBy_drew (w : World) (row : Option Nat) : w.grownBy w.drew row := ⟨rfl, rfl, rfl, Nat.le_refl _, fun _ _ _ => rfl⟩
set_option maxRecDepth 20000 in
theorem Start_any (w : World) (F : Nat → Prop) (r : Raw) (S : PS) (h : PlRaw w F r S) : Calls Try.prog 32 #[plPtr r] w fun e w' => (∃ v, e = .returned v) ∧ PlRaw w' F r { S with down := false } ∧ w.grownBy w' (some r.pb) := by
  have c4 := h.c4
  have f4 := h.fz (j := 4) (by decide)
  unfold plPtr
  go_enter Try.func32, Try.ntmps32
  go_wp2_with fail
  refine bodyPost_end (results_none rfl _ _ _) rfl ?_
  have hg := grownBy_setCell w ⟨r.pb, 4, none⟩ (.bool false)
  exact ⟨⟨_, rfl⟩, h.pb_write hg (h.blk.set 4 (.bool false)) { h.ok with } rfl rfl rfl, hg⟩
/-- An act of kind k. -/
def PS.cnt (S : PS) : Nat → PS
  | 1 => { S with cw := inc64 S.cw }
  | _ => { S with cs := inc64 S.cs }
def PS.acted (S : PS) (k : Nat) : PS := { S.cnt k with acts := if 0 < S.acts then S.acts - 1 else S.acts }
set_option maxRecDepth 20000 in
set_option maxHeartbeats 2000000 in
theorem act_any (w : World) (F : Nat → Prop) (r : Raw) (S : PS) (k : Nat) (hk : k = 1 ∨ k = 2) (h : PlRaw w F r S) : Calls Try.prog 35 #[plPtr r, .int .i64 (k : Int)] w fun e w' => e = .returned (.bool (S.acts == 0)) ∧ PlRaw w' F r (S.acted k) ∧ w.grownBy w' (some r.pb) := by
  have c5 := h.c5
  have f5 := h.fz (j := 5) (by decide)
  have c10 := h.c10
  have f10 := h.fz (j := 10) (by decide)
  have c11 := h.c11
  have f11 := h.fz (j := 11) (by decide)
  have a1 := h.ok.a1
  have a2 := h.ok.a2
  rcases hk with rfl | rfl
  · rcases (by omega : S.acts = 0 ∨ 0 < S.acts ∨ S.acts = -1) with h0 | h0 | h0
    · rw [h0] at c5
      have HB := Lib.hid (show (S.acts == 0) = true by simp [h0])
      have HS := Lib.hid (show S.acted 1 = S.cnt 1 by unfold PS.acted PS.cnt; simp [h0])
      clear h0
      unfold plPtr
      go_enter Try.func35, Try.ntmps35
      go_upto_region 1 with (fail)
      go_region
      go_wp2_with fail
      go_ret
      rw [HB.out, HS.out]
      have hg := (grownBy_setCell w ⟨r.pb, 10, none⟩ (.int .i64 (inc64 S.cw)))
      exact ⟨rfl, (h.pb_write (S' := S.cnt 1) hg (h.blk.set 10 (.int .i64 (inc64 S.cw))) { h.ok with c2 := inc64_range S.cw } rfl rfl rfl).drew, grownBy_trans hg (grownBy_drew _ _)⟩
    · have HB := Lib.hid (show (S.acts == 0) = false by simp; omega)
      have h0' := HB.out
      have HS := Lib.hid (show S.acted 1 = { S.cnt 1 with acts := S.acts - 1 } by unfold PS.acted PS.cnt; simp [h0])
      unfold plPtr
      go_enter Try.func35, Try.ntmps35
      go_upto_region 1 with (fail)
      go_region
      go_wp2_with fail
      go_ret
      rw [HS.out]
      have hg := grownBy_trans (grownBy_setCell w ⟨r.pb, 10, none⟩ (.int .i64 (inc64 S.cw))) (grownBy_setCell _ ⟨r.pb, 5, none⟩ (.int .i64 (S.acts - 1)))
      exact ⟨rfl, (h.pb_write (S' := { S.cnt 1 with acts := S.acts - 1 }) hg ((h.blk.set 10 (.int .i64 (inc64 S.cw))).set 5 (.int .i64 (S.acts - 1))) { h.ok with c2 := inc64_range S.cw, a1 := by show _ ≤ S.acts - 1; omega, a2 := by show S.acts - 1 ≤ _; omega } rfl rfl rfl).drew, grownBy_trans hg (grownBy_drew _ _)⟩
    · have HB := Lib.hid (show (S.acts == 0) = false by simp; omega)
      have h0' := HB.out
      have HS := Lib.hid (show S.acted 1 = { S.cnt 1 with acts := -1 } by unfold PS.acted PS.cnt; simp [h0])
      rw [h0] at c5
      clear h0
      unfold plPtr
      go_enter Try.func35, Try.ntmps35
      go_upto_region 1 with (fail)
      go_region
      go_wp2_with fail
      go_ret
      rw [HS.out]
      have hg := grownBy_trans (grownBy_setCell w ⟨r.pb, 10, none⟩ (.int .i64 (inc64 S.cw))) (grownBy_setCell _ ⟨r.pb, 5, none⟩ (.int .i64 (-1)))
      exact ⟨rfl, (h.pb_write (S' := { S.cnt 1 with acts := -1 }) hg ((h.blk.set 10 (.int .i64 (inc64 S.cw))).set 5 (.int .i64 (-1))) { h.ok with c2 := inc64_range S.cw, a1 := by show _ ≤ (-1 : Int); omega, a2 := by show (-1 : Int) ≤ _; omega } rfl rfl rfl).drew, grownBy_trans hg (grownBy_drew _ _)⟩
  · rcases (by omega : S.acts = 0 ∨ 0 < S.acts ∨ S.acts = -1) with h0 | h0 | h0
    · rw [h0] at c5
      have HB := Lib.hid (show (S.acts == 0) = true by simp [h0])
      have HS := Lib.hid (show S.acted 2 = S.cnt 2 by unfold PS.acted PS.cnt; simp [h0])
      clear h0
      unfold plPtr
      go_enter Try.func35, Try.ntmps35
      go_upto_region 1 with (fail)
      go_region
      go_wp2_with fail
      go_ret
      rw [HB.out, HS.out]
      have hg := (grownBy_setCell w ⟨r.pb, 11, none⟩ (.int .i64 (inc64 S.cs)))
      exact ⟨rfl, (h.pb_write (S' := S.cnt 2) hg (h.blk.set 11 (.int .i64 (inc64 S.cs))) { h.ok with c3 := inc64_range S.cs } rfl rfl rfl).drew, grownBy_trans hg (grownBy_drew _ _)⟩
    · have HB := Lib.hid (show (S.acts == 0) = false by simp; omega)
      have h0' := HB.out
      have HS := Lib.hid (show S.acted 2 = { S.cnt 2 with acts := S.acts - 1 } by unfold PS.acted PS.cnt; simp [h0])
      unfold plPtr
      go_enter Try.func35, Try.ntmps35
      go_upto_region 1 with (fail)
      go_region
      go_wp2_with fail
      go_ret
      rw [HS.out]
      have hg := grownBy_trans (grownBy_setCell w ⟨r.pb, 11, none⟩ (.int .i64 (inc64 S.cs))) (grownBy_setCell _ ⟨r.pb, 5, none⟩ (.int .i64 (S.acts - 1)))
      exact ⟨rfl, (h.pb_write (S' := { S.cnt 2 with acts := S.acts - 1 }) hg ((h.blk.set 11 (.int .i64 (inc64 S.cs))).set 5 (.int .i64 (S.acts - 1))) { h.ok with c3 := inc64_range S.cs, a1 := by show _ ≤ S.acts - 1; omega, a2 := by show S.acts - 1 ≤ _; omega } rfl rfl rfl).drew, grownBy_trans hg (grownBy_drew _ _)⟩
    · have HB := Lib.hid (show (S.acts == 0) = false by simp; omega)
      have h0' := HB.out
      have HS := Lib.hid (show S.acted 2 = { S.cnt 2 with acts := -1 } by unfold PS.acted PS.cnt; simp [h0])
      rw [h0] at c5
      clear h0
      unfold plPtr
      go_enter Try.func35, Try.ntmps35
      go_upto_region 1 with (fail)
      go_region
      go_wp2_with fail
      go_ret
      rw [HS.out]
      have hg := grownBy_trans (grownBy_setCell w ⟨r.pb, 11, none⟩ (.int .i64 (inc64 S.cs))) (grownBy_setCell _ ⟨r.pb, 5, none⟩ (.int .i64 (-1)))
      exact ⟨rfl, (h.pb_write (S' := { S.cnt 2 with acts := -1 }) hg ((h.blk.set 11 (.int .i64 (inc64 S.cs))).set 5 (.int .i64 (-1))) { h.ok with c3 := inc64_range S.cs, a1 := by show _ ≤ (-1 : Int); omega, a2 := by show (-1 : Int) ≤ _; omega } rfl rfl rfl).drew, grownBy_trans hg (grownBy_drew _ _)⟩
/-- Page n's place. -/
theorem run_place (w : World) (sb lo hi sz : Nat) (h1 : lo < hi) (h2 : hi ≤ sz) (h3 : sz ≤ 67108864) :
    (Instr.slice 28 (.slice (some ⟨sb, 0, none⟩) sz sz) (some (.int .i64 (lo : Int))) (some (.int .i64 (hi : Int))) none).run Try.prog w = .ok (.slice (some ⟨sb, lo, none⟩) (hi - lo) (sz - lo)) w := by
  have := run_slice_lh (P := Try.prog) w 28 (some ⟨sb, 0, none⟩) sz sz u8_elem .i64 .i64 lo hi (by omega) (by omega) (by omega)
  rw [this, u8_sizeOf]
  simp [Result.andThen, sliced, show ¬ sz = lo by omega, add_row]
set_option maxRecDepth 20000 in
set_option maxHeartbeats 2000000 in
theorem place_any (w : World) (F : Nat → Prop) (r : Raw) (S : PS) (n : Nat) (hn : n < S.np) (h : PlRaw w F r S) : Calls Try.prog 38 #[plPtr r, .int .i64 (n : Int)] w fun e w' => e = .returned (.slice (some ⟨r.sb, n * S.page, none⟩) S.page (S.sz - n * S.page)) ∧ ∃ m, w' = w.drewN m := by
  have c0 := h.c0
  have c1 := h.c1
  obtain ⟨lo, hlo⟩ : ∃ lo, lo = n * S.page := ⟨_, rfl⟩
  obtain ⟨hi, hhi⟩ : ∃ hi, hi = (n + 1) * S.page := ⟨_, rfl⟩
  have e1 : (n : Int) * (S.page : Int) = (lo : Int) := by rw [hlo]; push_cast; rfl
  have e2 : ((n : Int) + 1) * (S.page : Int) = (hi : Int) := by rw [hhi]; push_cast; rfl
  have hh : hi = lo + S.page := by rw [hhi, hlo, Nat.add_mul, Nat.one_mul]
  have hp1 := h.ok.p1
  have hp2 := h.ok.p2
  have hle : hi ≤ S.sz := by rw [hhi, h.ok.sn, Nat.mul_comm S.page]; exact Nat.mul_le_mul_right _ hn
  have hpn := h.ok.pn
  have q := fun w => run_place w r.sb lo hi S.sz (by omega) hle hpn
  have hnp := h.ok.n2
  have HH := Lib.hid hh
  rw [← hlo]
  have b1 : (lo : Int) ≤ 67108864 := by omega
  have b2 : (hi : Int) ≤ 67108864 := by omega
  clear hlo hhi hh
  unfold plPtr
  go_enter Try.func38, Try.ntmps38
  go_upto_region 1 with (fail)
  go_quiet (fail)
  go_wp2_with fail
  go_ret
  have := HH.out
  rw [show hi - lo = S.page by omega]
  exact ⟨rfl, _, rfl⟩
theorem run_clear {w : World} {mb : Nat} {ws : List (Nat × List UInt8)} (h : MapAt w mb ws) (ty : TypeId) : ∃ w', (Builtin.clear_ #[62] ty #[.map (some mb)]).run Try.prog w = .ok (.tuple #[]) w' ∧ MapAt w' mb [] ∧ w.grownBy w' (some mb) := by
  obtain ⟨D, ⟨es, clock, hb, F, hs, hD⟩, hl⟩ := h
  refine ⟨setBlock w mb (.map #[] clock), ?_, ⟨.map [], ⟨#[], clock, heap_setBlock_same hb _, ⟨by simp, stamped_empty _, by simp⟩, Nat.le_refl _, rfl⟩, LastD.nil⟩, ⟨rfl, rfl, rfl, by simp [setBlock], fun i _ hi => heap_setBlock_other hb _ (fun e => hi (by rw [e]))⟩⟩
  simp [Builtin.clear_, run_underlying Try.underlying62, MapKept.run_getObj_map hb, MapKept.run_setObj_map _ hb, Result.andThen]
  rfl
section
variable {w : World} {ops : Array Oper} {rest : List Oper} {o : Oper} {a : Act} {Q : Exit → Act → World → Prop}
theorem wp_clear (hgd : o.guard = none) (m : Operand) (ho : o.op = .call { callee := .builtin .clear, args := #[m], argTypes := #[62] }) (mb : Nat) (ws : List (Nat × List UInt8)) (hm : a.eval m = .map (some mb)) (hw : MapAt w mb ws)
    (h : ∀ w', MapAt w' mb [] → w.grownBy w' (some mb) → wpList Try.prog ops Q rest (a.put o.dst (.tuple #[])) w') : wpList Try.prog ops Q (o :: rest) a w := by
  refine wpList_plain hgd fun K hK => ?_
  obtain ⟨w', hr, h1, h2⟩ := run_clear hw o.type
  unfold Oper.wp
  simp [execOp, ho, resolve, invoke, builtin, hm, hr, Result.andThen]
  exact hK _ _ (h _ h1 h2)
theorem at_clear {d : Option Tmp} {x : Operand} {t ty : TypeId} {pos : String} {af : Array Edge} {gd : Option (Nat × Bool)}
    (h : wpList Try.prog ops Q ({ dst := d, op := Op.call { callee := Callee.builtin Builtin.clear, args := #[x], argTypes := #[t] }, type := ty, pos := pos, after := af, guard := gd } :: rest) a w) :
    wpList Try.prog ops Q ({ dst := d, op := Op.call { callee := Callee.builtin Builtin.clear, args := #[x], argTypes := #[t] }, type := ty, pos := pos, after := af, guard := gd } :: rest) a w := h
end
def Raw.settled (r : Raw) : Raw := { r with vl := .slice none 0 0, dv := [] }
theorem PlRaw.settle {w w1 w' : World} {F : Nat → Prop} {r : Raw} {S : PS} (h : PlRaw w F r S) (hb : OBlk w1 r.pb 66 (plCells r.settled { S with wild := [] })) (hg : w.grownBy w1 (some r.pb)) (hm : MapAt w' r.mb []) (hg2 : w1.grownBy w' (some r.mb)) : PlRaw w' F r.settled { S with wild := [] } := by
  have hmp : r.mb ≠ r.pb := h.map.ne h.blk
  have hm1 : MapAt w1 r.mb S.wild := h.map.heap (hg.block _ h.map.lt (fun e => hmp (Option.some.inj e)))
  have hs1 : OBlk w1 r.sb 5 (bvs S.pg.flatten) := h.safe.grown hg (fun e => h.safe.ne h.blk (by decide) (Option.some.inj e))
  have hk1 : Own w1 0 3 1 r.vk S.keep.length (S.keep.map (Value.int .i64)) := h.keep.grown hg (fun g hg' e => h.keep.ne_T h.blk (by decide) (by rw [hg', e]))
  exact { ok := { h.ok with we := by simp }
          blk := hb.grown hg2 (fun e => hmp (Option.some.inj e).symm)
          safe := hs1.grown hg2 (fun e => hm1.ne hs1 (Option.some.inj e).symm)
          loose := Own.nil _ _ _ _
          dlen := rfl
          data := fun i hi => by simp at hi
          map := hm
          keep := hk1.grown hg2 (fun g hg' e => hk1.ne_map hm1 (by rw [hg', e]))
          fp := h.fp, fs := h.fs, fm := h.fm, fl := fun g hg' => by simp [Raw.settled, Value.ownBlock] at hg', fk := h.fk
          lt := fun k hk => Nat.lt_of_lt_of_le (h.lt k hk) (Nat.le_trans hg.size hg2.size) }
set_option maxRecDepth 20000 in
set_option maxHeartbeats 2000000 in
theorem settle_any (w : World) (F : Nat → Prop) (r : Raw) (S : PS) (h : PlRaw w F r S) : Calls Try.prog 39 #[plPtr r] w fun e w' => (∃ v, e = .returned v) ∧ PlRaw w' F r.settled { S with wild := [] } ∧ Turn F w w' := by
  have c2 := h.c2
  have f2 := h.fz (j := 2) (by decide)
  have c3 := h.c3
  have hmp : r.mb ≠ r.pb := h.map.ne h.blk
  have hg := grownBy_setCell w ⟨r.pb, 2, none⟩ (.slice none 0 0)
  have hm1 : MapAt (w.setCell ⟨r.pb, 2, none⟩ (.slice none 0 0)) r.mb S.wild := h.map.heap (hg.block _ h.map.lt (fun e => hmp (Option.some.inj e)))
  have hb1 : OBlk (w.setCell ⟨r.pb, 2, none⟩ (.slice none 0 0)) r.pb 66 (plCells r.settled { S with wild := [] }) := h.blk.set 2 _
  unfold plPtr
  go_enter Try.func39, Try.ntmps39
  go_wp2_with (first
    | ((with_reducible refine at_clear ?_); refine wp_clear rfl (.tmp 8) rfl r.mb _ rfl hm1 ?_; intro w2 hm2 hg2)
    | fail)
  refine bodyPost_end (results_none rfl _ _ _) rfl ?_
  exact ⟨⟨_, rfl⟩, h.settle hb1 hg hm2 hg2, (Turn.of_grown hg (fun k e => by cases e; exact h.fp)).grown hg2 (fun k e => by cases e; exact .inl h.fm)⟩
end Go.Proofs.Ytipjngoenklioaa

-- Pages as one list of bytes; what a fall leaves: plain laws.
namespace Go.Proofs.Ytipjngoenklioaa
open Go.RowKit
/-- The first bytes of page n are written over. -/
def putPg (pg : List (List UInt8)) (n : Nat) (m : List UInt8) : List (List UInt8) := pg.set n (m ++ (pg.getD n []).drop m.length)
theorem putPg_length (pg : List (List UInt8)) (n : Nat) (m : List UInt8) : (putPg pg n m).length = pg.length := by simp [putPg]
theorem putPg_each {pg : List (List UInt8)} {n P : Nat} {m : List UInt8} (h : ∀ l ∈ pg, l.length = P) (hn : n < pg.length) (hm : m.length ≤ P) : ∀ l ∈ putPg pg n m, l.length = P := by
  intro l hl
  rcases List.mem_or_eq_of_mem_set hl with h1 | rfl
  · exact h l h1
  · have := h pg[n] (List.getElem_mem hn)
    simp [List.getD, hn]; omega
theorem putPg_full {pg : List (List UInt8)} {n P : Nat} {m : List UInt8} (h : ∀ l ∈ pg, l.length = P) (hm : m.length = P) : putPg pg n m = pg.set n m := by
  unfold putPg
  by_cases hn : n < pg.length
  · have := h pg[n] (List.getElem_mem hn)
    rw [show (pg.getD n []).drop m.length = [] from List.drop_of_length_le (by simp [List.getD, hn]; omega), List.append_nil]
  · rw [List.set_eq_of_length_le (by omega), List.set_eq_of_length_le (by omega)]
theorem flat_len {P : Nat} : ∀ {pg : List (List UInt8)}, (∀ l ∈ pg, l.length = P) → pg.flatten.length = P * pg.length
  | [], _ => by simp
  | x :: r, h => by
    have h1 := h x (by simp)
    have h2 := flat_len (pg := r) (fun l hl => h l (by simp [hl]))
    rw [List.flatten_cons, List.length_append, h1, h2, List.length_cons, Nat.mul_add]; omega
theorem flat_splice {P : Nat} : ∀ (pg : List (List UInt8)) (n : Nat) (m : List UInt8), (∀ l ∈ pg, l.length = P) → n < pg.length → m.length ≤ P → splice pg.flatten (n * P) m = (putPg pg n m).flatten
  | [], _, _, _, h, _ => by simp at h
  | x :: r, 0, m, h, _, hm => by
    have h1 := h x (by simp)
    unfold splice putPg
    simp only [Nat.zero_mul, List.take_zero, Nat.zero_add, List.flatten_cons, List.nil_append, List.set_cons_zero, List.getD_cons_zero]
    rw [List.drop_append_of_le_length (by omega), List.append_assoc]
  | x :: r, n + 1, m, h, hn, hm => by
    have h1 := h x (by simp)
    have ih := flat_splice r n m (fun l hl => h l (by simp [hl])) (by simpa using hn) hm
    unfold splice at ih ⊢
    unfold putPg at ih ⊢
    have e : (n + 1) * P = x.length + n * P := by rw [Nat.add_mul, h1]; omega
    rw [List.flatten_cons, e, List.take_append, List.take_of_length_le (by omega), show x.length + n * P - x.length = n * P by omega, List.set_cons_succ, List.getD_cons_succ, List.flatten_cons, ← ih]
    rw [show x.length + n * P + m.length = x.length + (n * P + m.length) by omega, List.drop_append, List.drop_of_length_le (by omega)]
    simp [List.append_assoc]
theorem flat_page {P : Nat} : ∀ (pg : List (List UInt8)) (n : Nat) (_ : ∀ l ∈ pg, l.length = P) (h : n < pg.length), (pg.flatten.take ((n + 1) * P)).drop (n * P) = pg[n]
  | [], _, _, h => by simp at h
  | x :: r, 0, h, _ => by
    have h1 := h x (by simp)
    simp [List.take_append, h1]
  | x :: r, n + 1, h, hn => by
    have h1 := h x (by simp)
    have ih := flat_page r n (fun l hl => h l (by simp [hl])) (by simpa using hn)
    have e1 : (n + 1 + 1) * P = x.length + (n + 1) * P := by rw [Nat.add_mul (n + 1), h1]; omega
    have e2 : (n + 1) * P = x.length + n * P := by rw [Nat.add_mul, h1]; omega
    rw [List.flatten_cons, e1, List.take_append, List.take_of_length_le (by omega), show x.length + (n + 1) * P - x.length = (n + 1) * P by omega, e2, List.drop_append, List.drop_of_length_le (by omega), List.nil_append,
      show x.length + n * P - x.length = n * P by omega, ← e2, ih]
    rfl
/-- How much of a torn write stays. -/
def tornLen (at_ : Int) (P : Nat) : Nat := (min (max at_ 0) (P : Int)).toNat
theorem tornLen_le (at_ : Int) (P : Nat) : tornLen at_ P ≤ P := by unfold tornLen; omega
def fallOne (P : Nat) (ks : List Int) (torn at_ : Int) (i : Nat) (x : Nat × List UInt8) (pg : List (List UInt8)) : List (List UInt8) :=
  if (i : Int) = torn then putPg pg x.1 (x.2.take (tornLen at_ P)) else if (i : Int) ∈ ks then putPg pg x.1 x.2 else pg
/-- The first n loose writes have fallen. -/
def fallN (P : Nat) (ks : List Int) (torn at_ : Int) (ws : List (Nat × List UInt8)) (pg : List (List UInt8)) : Nat → List (List UInt8)
  | 0 => pg
  | n + 1 => match ws[n]? with
    | some x => fallOne P ks torn at_ n x (fallN P ks torn at_ ws pg n)
    | none => fallN P ks torn at_ ws pg n
theorem fallN_succ (P : Nat) (ks : List Int) (torn at_ : Int) (ws : List (Nat × List UInt8)) (pg : List (List UInt8)) (n : Nat) (h : n < ws.length) : fallN P ks torn at_ ws pg (n + 1) = fallOne P ks torn at_ n ws[n] (fallN P ks torn at_ ws pg n) := by
  rw [fallN, List.getElem?_eq_getElem h]
theorem fallOne_length (P : Nat) (ks : List Int) (torn at_ : Int) (i : Nat) (x : Nat × List UInt8) (pg : List (List UInt8)) : (fallOne P ks torn at_ i x pg).length = pg.length := by
  unfold fallOne
  split
  · exact putPg_length _ _ _
  · split
    · exact putPg_length _ _ _
    · rfl
theorem fallN_length (P : Nat) (ks : List Int) (torn at_ : Int) (ws : List (Nat × List UInt8)) (pg : List (List UInt8)) : ∀ n, (fallN P ks torn at_ ws pg n).length = pg.length
  | 0 => rfl
  | n + 1 => by
    rw [fallN]
    split
    · rw [fallOne_length, fallN_length P ks torn at_ ws pg n]
    · exact fallN_length P ks torn at_ ws pg n
theorem fallOne_each {P : Nat} {ks : List Int} {torn at_ : Int} {i : Nat} {x : Nat × List UInt8} {pg : List (List UInt8)} (h : ∀ l ∈ pg, l.length = P) (h1 : x.1 < pg.length) (h2 : x.2.length = P) : ∀ l ∈ fallOne P ks torn at_ i x pg, l.length = P := by
  unfold fallOne
  split
  · exact putPg_each h h1 (by simp; omega)
  · split
    · exact putPg_each h h1 (by omega)
    · exact h
theorem fallN_each {P : Nat} {ks : List Int} {torn at_ : Int} {ws : List (Nat × List UInt8)} {pg : List (List UInt8)} (h : ∀ l ∈ pg, l.length = P) (hw : ∀ x ∈ ws, x.1 < pg.length ∧ x.2.length = P) : ∀ n, ∀ l ∈ fallN P ks torn at_ ws pg n, l.length = P
  | 0 => h
  | n + 1 => by
    rw [fallN]
    split
    · rename_i x hx
      have hm := hw x (List.mem_of_getElem? hx)
      exact fallOne_each (fallN_each h hw n) (by rw [fallN_length]; exact hm.1) hm.2
    · exact fallN_each h hw n
/-- All that was written is safe. -/
def syncPg (ws : List (Nat × List UInt8)) (pg : List (List UInt8)) : List (List UInt8) := ws.foldl (fun pg x => pg.set x.1 x.2) pg
theorem syncPg_length (ws : List (Nat × List UInt8)) : ∀ pg : List (List UInt8), (syncPg ws pg).length = pg.length := by
  induction ws with
  | nil => intro pg; rfl
  | cons x r ih => intro pg; show (syncPg r (pg.set x.1 x.2)).length = _; rw [ih]; simp
theorem syncPg_snoc (ws : List (Nat × List UInt8)) (x : Nat × List UInt8) (pg : List (List UInt8)) : syncPg (ws ++ [x]) pg = (syncPg ws pg).set x.1 x.2 := by simp [syncPg]
/-- A page as it is read. -/
def readPg (ws : List (Nat × List UInt8)) (pg : List (List UInt8)) (n : Nat) : Option (List UInt8) :=
  match lastI ws (n : Int) with
  | some i => (ws[i]?).map (·.2)
  | none => pg[n]?
theorem snoc_ind {α : Type} {p : List α → Prop} (h0 : p []) (h1 : ∀ l x, p l → p (l ++ [x])) : ∀ l, p l := by
  intro l
  rw [← List.reverse_reverse l]
  induction l.reverse with
  | nil => exact h0
  | cons x r ih => rw [List.reverse_cons]; exact h1 _ _ ih
theorem syncPg_get (pg : List (List UInt8)) (n : Nat) (hn : n < pg.length) : ∀ ws : List (Nat × List UInt8), (syncPg ws pg)[n]? = readPg ws pg n := by
  refine snoc_ind rfl fun ws x ih => ?_
  · rw [syncPg_snoc]
    unfold readPg
    rw [lastI_snoc]
    by_cases h : x.1 = n
    · subst h
      rw [if_pos rfl]
      simp [syncPg_length, hn]
    · rw [if_neg (by omega), List.getElem?_set_ne h, ih]
      unfold readPg
      split
      · rename_i i hi
        obtain ⟨hlt, _⟩ := lastI_some hi
        rw [List.getElem?_append_left hlt]
      · rfl
end Go.Proofs.Ytipjngoenklioaa

-- slices.Clone of bytes and of numbers, slices.Contains: walks.
namespace Go.Proofs.Ytipjngoenklioaa
open Go.RowKit
set_option maxRecDepth 20000 in
set_option maxHeartbeats 1000000 in
theorem CloneB_any (v : Value) (l : List UInt8) (w : World) (hv : RdB w v l) (hl : l.length ≤ 140737488355328) :
    Calls Try.prog 36 #[v] w fun e w' => ∃ v', e = .returned v' ∧ OwB w' w.heap.size v' l ∧ Below w.heap.size w w' := by
  obtain ⟨A, c, rfl, hm⟩ := hv.form
  have q22 : ∀ (w : World) (a : Option Addr) (n c n' c' : Nat), (binOp .eql 28 (.slice a n c) (.slice none n' c')).run Try.prog w = .ok (.bool a.isNone) w := fun w a n c n' c' => Lib.run_eql_slice_nil w _ _ a n c n' c' Try.underlying28
  cases A with
  | none =>
    have : l = [] := by
      cases l with
      | nil => rfl
      | cons x r => obtain ⟨ad, h, _⟩ := hv.at_ (j := 0) (by simp); cases h
    subst this
    go_enter Try.func36, Try.ntmps36
    go_wp2_with fail
    go_ret
    exact ⟨_, rfl, OwB.nil _ _, Below.refl _ _⟩
  | some ad =>
    go_enter Try.func36, Try.ntmps36
    have hbase : OwB (w.alloc (.cells #[] 5)) w.heap.size (.slice (some ⟨w.heap.size, 0, none⟩) 0 0) [] := by
      have := (OBlk.new' w 5 []).owB' (base := w.heap.size) (m := []) (Nat.le_refl _) (by simp)
      exact this
    go_wp2_with (first
      | (at_builtin; refine wp_append_B rfl (.tmp 5) (.tmp 6) rfl w.heap.size _ [] rfl hbase _ l rfl (hv.alloc _) (by simp; omega) (by simp) ?_; intro v' w' ho hg hbk)
      | fail)
    go_ret
    exact ⟨v', rfl, ho, ((Below.refl w.heap.size w).alloc (Nat.le_refl _) _).grown hg (by simp) (fun k hk => Nat.le_of_eq (Option.some.inj hk))⟩
/-- A slice that reads as numbers. -/
def ivs (ks : List Int) : List Value := ks.map (Value.int .i64)
def RdI (w : World) (v : Value) (ks : List Int) : Prop := Rd w 1 v ks.length (ivs ks)
theorem ivs_length (ks : List Int) : (ivs ks).length = ks.length := by simp [ivs]
theorem ivs_one (ks : List Int) : ∀ u ∈ ivs ks, u.oneCell' = true := by
  intro u hu
  obtain ⟨k, _, rfl⟩ := List.mem_map.mp hu
  rfl
theorem RdI.nil (w : World) : RdI w (.slice none 0 0) [] := Rd.nil
theorem RdI.form {w : World} {v : Value} {ks : List Int} (h : RdI w v ks) : ∃ A c, v = .slice A ks.length c ∧ ks.length ≤ c ∧ c ≤ 9223372036854775807 := by
  obtain ⟨_, A, c, hv, h1, h2, _⟩ := h
  exact ⟨A, c, hv, h1, h2⟩
theorem RdI.at_ {w : World} {A : Option Addr} {n c j : Nat} {ks : List Int} (h : RdI w (.slice A n c) ks) (hj : j < ks.length) : ∃ ad, A = some ad ∧ w.cell? (ad.add j) = some (.int .i64 ks[j]) := by
  obtain ⟨_, A', c', hv, _, _, h3⟩ := h
  injection hv with hA
  subst hA
  exact h3 j _ (by simp [ivs, hj])
theorem int_info : (Try.prog.info? 3).map (fun i => (i.zero, i.size, i.bytes)) = some (some (.int .i64 0), 1, 8) := by kernel_rfl
set_option maxRecDepth 20000 in
set_option maxHeartbeats 1000000 in
theorem CloneI_any (v : Value) (ks : List Int) (w : World) (hv : RdI w v ks) (hl : ks.length * 8 ≤ 140737488355328) :
    Calls Try.prog 40 #[v] w fun e w' => ∃ v', e = .returned v' ∧ Own w' w.heap.size 3 1 v' ks.length (ivs ks) ∧ Below w.heap.size w w' := by
  obtain ⟨A, c, rfl, hm, hc⟩ := hv.form
  have q22 : ∀ (w : World) (a : Option Addr) (n c n' c' : Nat), (binOp .eql 29 (.slice a n c) (.slice none n' c')).run Try.prog w = .ok (.bool a.isNone) w := fun w a n c n' c' => Lib.run_eql_slice_nil w _ _ a n c n' c' Try.underlying29
  cases A with
  | none =>
    have : ks = [] := by
      cases ks with
      | nil => rfl
      | cons x r => obtain ⟨ad, h, _⟩ := hv.at_ (j := 0) (by simp); cases h
    subst this
    go_enter Try.func40, Try.ntmps40
    go_wp2_with fail
    go_ret
    exact ⟨_, rfl, Own.nil _ _ _ _, Below.refl _ _⟩
  | some ad =>
    obtain ⟨i, hi, hz0, hz1, hz2⟩ := info_parts int_info
    have hs : Rd (w.alloc (.cells #[] 3)) 1 (.slice (some ad) ks.length c) ks.length (ivs ks) := Rd.alloc hv _
    go_enter Try.func40, Try.ntmps40
    have hbase : Own (w.alloc (.cells #[] 3)) w.heap.size 3 1 (.slice (some ⟨w.heap.size, 0, none⟩) 0 0) 0 [] :=
      ⟨by simp, .inr ⟨w.heap.size, 0, [], rfl, Nat.le_refl _, OBlk.new' w 3 [], Nat.le_refl _, by simp [maxLen], rfl, rfl⟩⟩
    go_wp2_with (first
      | (at_builtin; refine wp_append rfl (.tmp 5) (.tmp 6) _ _ rfl w.heap.size 3 i _ 1 8 Try.underlying29 hi hz0 hz1 hz2 rfl _ 0 [] rfl hbase _ ks.length (ivs ks) rfl (Rd.src _ Try.underlying29 (by omega) hs (ivs_one ks)) (by omega) (by omega) (by simp) ?_; intro v' w' ho hg hbk)
      | fail)
    go_ret
    rw [Nat.zero_add] at ho
    exact ⟨v', rfl, ho, ((Below.refl w.heap.size w).alloc (Nat.le_refl _) _).grown hg (by simp) (fun k hk => Nat.le_of_eq (Option.some.inj hk))⟩
set_option maxRecDepth 20000 in
set_option maxHeartbeats 1000000 in
theorem Index_any (v : Value) (ks : List Int) (x : Int) (w : World) (hv : RdI w v ks) :
    Calls Try.prog 64 #[v, .int .i64 x] w fun e w' => (∃ k : Int, e = .returned (.int .i64 k) ∧ (decide (0 ≤ k) = decide (x ∈ ks)) ∧ -1 ≤ k ∧ k ≤ 9223372036854775807) ∧ w = w' := by
  obtain ⟨A, c, rfl, hm, hc⟩ := hv.form
  go_enter Try.func64, Try.ntmps64
  go_wp2_with fail
  go_loopw [8] (fun i wr => ∃ j : Nat, i = .int .i64 (j : Int) ∧ j ≤ ks.length ∧ Hid (x ∉ ks.take j) ∧ w = wr) (fun i _ => ks.length - (intOf i).toNat)
  case atStart => exact ⟨0, rfl, Nat.zero_le _, Lib.hid (by simp), rfl⟩
  case round =>
    obtain ⟨j, rfl, hj, HN, rfl⟩ := hrel
    by_cases hlt : j < ks.length
    · obtain ⟨ad, rfl, hcell⟩ := hv.at_ hlt
      have ij : (j : Int) < (ks.length : Int) := by omega
      by_cases hx : x = ks[j]
      · have HM := Lib.hid (show x ∈ ks by rw [hx]; exact List.getElem_mem hlt)
        have hb : (x == ks[j]) = true := by simp [hx]
        clear hx
        generalize ks[j] = y at *
        go_wp2_with fail
        go_ret
        exact ⟨⟨_, rfl, by rw [decide_eq_true HM.out, decide_eq_true (by omega)], by omega, by omega⟩, rfl⟩
      · have hb : (x == ks[j]) = false := by simp [hx]
        have HN2 := Lib.hid (show x ∉ ks.take (j + 1) from fun hm => by rw [List.take_succ_eq_append_getElem hlt, List.mem_append, List.mem_singleton] at hm; exact hm.elim HN.out hx)
        clear hx
        generalize ks[j] = y at *
        go_wp2_with fail
        go_roundw
        case rel => exact ⟨j + 1, by go_num, by omega, HN2, trivial⟩
        case measure => simp [intOf]; omega
    · obtain rfl : j = ks.length := by omega
      have HN2 := Lib.hid (show x ∉ ks by have := HN.out; rwa [List.take_length] at this)
      go_wp2_with fail
      go_ret
      exact ⟨⟨_, rfl, by rw [decide_eq_false HN2.out]; rfl, by omega, by omega⟩, rfl⟩
set_option maxRecDepth 20000 in
theorem Contains_any (v : Value) (ks : List Int) (x : Int) (w : World) (hv : RdI w v ks) :
    Calls Try.prog 57 #[v, .int .i64 x] w fun e w' => e = .returned (.bool (decide (x ∈ ks))) ∧ w = w' := by
  obtain ⟨A, c, rfl, hm, hc⟩ := hv.form
  go_enter Try.func57, Try.ntmps57
  go_wp2_with fail
  refine (Index_any _ ks x _ hv).mono ?_
  rintro e w1 ⟨⟨k, rfl, hk, hk1, hk2⟩, rfl⟩
  have HK := Lib.hid hk
  clear hk
  go_wp2_with fail
  go_ret
  rw [← HK.out]
  exact ⟨rfl, rfl⟩
end Go.Proofs.Ytipjngoenklioaa
