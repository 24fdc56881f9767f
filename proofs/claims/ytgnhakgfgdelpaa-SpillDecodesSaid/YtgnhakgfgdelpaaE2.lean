/- Texts joined: copy over the head of bytes that the call owns.; x[lo; Blocks outside of a set stand; The check sum in plain numbers; Ordered, ReadOrdered, order, common, behind; ink.Fixed, ink.half, ink.Sum; espalierref01.Fixed, step, SumOf; ink.ReadFixed; Pages with whole keys; Powers of two from 512 to 65536. -/
import Derived.Test.YtgnhakgfgdelpaaE1
import Derived.Laws.Slices
import Derived.Maps.RangeWalk
import Derived.Maps.OwnSet
import Derived.Laws.BitsAllLaws
import Derived.Outline
-- copy over the head of bytes that the call owns.
namespace Go.Proofs.Ytgnhakgfgdelpaa
open Go.RowKit
theorem OwB.some' {w : World} {b n : Nat} {u : Value} {l : List UInt8} (h : OwB w b u l) (hn : l.length = n) (h0 : 0 < n) : ∃ g c, u = .slice (some ⟨g, 0, none⟩) n c := by
  subst hn
  rcases h.form with ⟨_, rfl⟩ | ⟨g, c, rfl, _⟩
  · simp at h0
  · exact ⟨g, c, rfl⟩
section laws
variable {w : World} {ops : Array Oper} {rest : List Oper} {o : Oper} {a : Act} {Q : Exit → Act → World → Prop}
theorem wp_copy_Ow (hgd : o.guard = none) (d s : Operand)
    (ho : o.op = .call { callee := .builtin .copy, args := #[d, s], argTypes := #[25, 25] })
    (base g n k c cap : Nat) (l sp : List UInt8) (hd : a.eval d = .slice (some ⟨g, 0, none⟩) n c) (hown : OwB w base (.slice (some ⟨g, 0, none⟩) (n + k) cap) (l ++ sp)) (hl : l.length = n) (hk : sp.length = k)
    (vx : Value) (m : List UInt8) (hx : a.eval s = vx) (hr : RdB w vx m) (hm : m.length = n)
    (h : ∀ w', OwB w' base (.slice (some ⟨g, 0, none⟩) (n + k) cap) (m ++ sp) → w.grownBy w' (some g) → wpList Try.prog ops Q rest (a.put o.dst (goInt (n : Nat))) w') : wpList Try.prog ops Q (o :: rest) a w := by
  have hlen : (l ++ sp).length = n + k := by simp; omega
  have hown' := hown
  unfold OwB at hown'
  rw [hlen] at hown'
  obtain ⟨h0, h1⟩ := hown'
  rcases h1 with ⟨h1, _⟩ | ⟨g', cap', cs, h1, hb, ho2, h2, h3, h4, h5⟩
  · cases h1
  · injection h1 with hA _ hc
    injection hA with hA
    injection hA with hA
    subst hA; subst hc
    rw [Nat.mul_one] at h4 h5
    refine wp_copy hgd d s _ _ ho 5 Try.underlying25 u8_size _ n c g 0 hd cs _ ho2 (fun _ => rfl) (by omega) vx m.length (bvs m) hx hr.rd (bvs_one m) ?_
    intro w' hw' hgr
    rw [hm, Nat.min_self, List.take_of_length_le (by rw [bvs_length]; omega)] at hw'
    rw [hm, Nat.min_self]
    refine h w' ?_ hgr
    unfold OwB
    have hlen2 : (m ++ sp).length = n + k := by simp; omega
    rw [hlen2]
    refine ⟨by rw [bvs_length, hlen2]; omega, .inr ⟨g, cap, _, rfl, hb, hw', h2, h3, ?_, ?_⟩⟩
    · rw [length_splice _ _ _ (by rw [bvs_length]; omega)]; omega
    · rw [Nat.mul_one, bvs_append]
      have e : splice cs 0 (bvs m) = bvs m ++ cs.drop n := by
        unfold splice
        simp [bvs_length, hm]
      rw [e, List.take_append, bvs_length, hm, List.take_of_length_le (by rw [bvs_length]; omega), Nat.add_sub_cancel_left]
      congr 1
      have : (cs.take (n + k)).drop n = (bvs (l ++ sp)).drop n := by rw [h5]
      rw [List.drop_take, Nat.add_sub_cancel_left, bvs_append, List.drop_left' (by rw [bvs_length, hl])] at this
      exact this
end laws
end Go.Proofs.Ytgnhakgfgdelpaa

-- x[lo:], x[:hi], x[lo:hi] of bytes that are read: as run equations and readings.
namespace Go.Proofs.Ytgnhakgfgdelpaa
open Go.RowKit
theorem u8_elem : Try.prog.underlying 25 = some (.slice (Try.prog.elem 25)) := by kernel_rfl
theorem u8_sizeOf (w : World) : (sizeOf (Try.prog.elem 25)).run Try.prog w = .ok 1 w := by
  have he : Try.prog.elem 25 = 5 := by kernel_rfl
  rw [he]
  obtain ⟨i, hi, hz0, hz1, hz2⟩ := info_parts u8_info
  simp [sizeOf, typeInfo, hi, hz1]
theorem RdB.cap {w : World} {A : Option Addr} {n c : Nat} {l : List UInt8} (h : RdB w (.slice A n c) l) : n = l.length ∧ l.length ≤ c ∧ c ≤ 9223372036854775807 := by
  obtain ⟨A', c', hv, h1, h2, _⟩ := h
  injection hv with _ hn hc
  subst hc
  simp only [maxLen] at h2
  exact ⟨hn, h1, h2⟩
/-- x[lo:hi] -/
theorem RdB.run_lh {w : World} {A : Option Addr} {n c : Nat} {l : List UInt8} (h : RdB w (.slice A n c) l) (lo hi : Nat) (h1 : lo ≤ hi) (h2 : hi ≤ l.length) :
    ∃ A' c', (∀ w', (Instr.slice 25 (.slice A n c) (some (.int .i64 (lo : Int))) (some (.int .i64 (hi : Int))) none).run Try.prog w' = .ok (.slice A' (hi - lo) c') w') ∧ RdB w (.slice A' (hi - lo) c') ((l.take hi).drop lo) := by
  obtain ⟨_, hc, _⟩ := h.cap
  refine ⟨_, _, fun w' => ?_, h.cut h1 h2⟩
  have := run_slice_lh (P := Try.prog) w' 25 A n c u8_elem .i64 .i64 lo hi (by omega) (by omega) (by omega)
  rw [this, u8_sizeOf]
  simp [Result.andThen, sliced]
theorem RdB.run_l {w : World} {A : Option Addr} {n c : Nat} {l : List UInt8} (h : RdB w (.slice A n c) l) (lo : Nat) (h1 : lo ≤ l.length) :
    ∃ A' c', (∀ w', (Instr.slice 25 (.slice A n c) (some (.int .i64 (lo : Int))) none none).run Try.prog w' = .ok (.slice A' (l.length - lo) c') w') ∧ RdB w (.slice A' (l.length - lo) c') (l.drop lo) := by
  obtain ⟨rfl, hc, _⟩ := h.cap
  have hr := h.cut h1 (Nat.le_refl _)
  rw [List.take_length] at hr
  refine ⟨_, _, fun w' => ?_, hr⟩
  have := run_slice_l (P := Try.prog) w' 25 A l.length c u8_elem .i64 lo (by omega) (by omega)
  rw [this, u8_sizeOf]
  simp [Result.andThen, sliced]
theorem RdB.run_h {w : World} {A : Option Addr} {n c : Nat} {l : List UInt8} (h : RdB w (.slice A n c) l) (hi : Nat) (h2 : hi ≤ l.length) :
    ∃ A' c', (∀ w', (Instr.slice 25 (.slice A n c) none (some (.int .i64 (hi : Int))) none).run Try.prog w' = .ok (.slice A' hi c') w') ∧ RdB w (.slice A' hi c') (l.take hi) := by
  obtain ⟨_, hc, _⟩ := h.cap
  have hr := h.cut (Nat.zero_le hi) h2
  rw [List.drop_zero, Nat.sub_zero] at hr
  refine ⟨_, _, fun w' => ?_, hr⟩
  have := run_slice_h (P := Try.prog) w' 25 A n c u8_elem .i64 hi (by omega) (by omega)
  rw [this, u8_sizeOf]
  simp [Result.andThen, sliced]
end Go.Proofs.Ytgnhakgfgdelpaa

-- Blocks outside of a set stand: words for what a call may write.
namespace Go.Proofs.Ytgnhakgfgdelpaa
open Go.RowKit
/-- Blocks outside of F stand. -/
structure Turn (F : Nat → Prop) (w w' : World) : Prop where
  os : w'.os = w.os
  tape : w'.tape = w.tape
  output : w'.output = w.output
  size : w.heap.size ≤ w'.heap.size
  block : ∀ k, k < w.heap.size → ¬ F k → w'.heap[k]? = w.heap[k]?
/-- .. and what is in F now was there, or is new. -/
structure Step (F : Nat → Prop) (w : World) (F' : Nat → Prop) (w' : World) : Prop where
  turn : Turn F w w'
  grow : ∀ k, F' k → F k ∨ w.heap.size ≤ k
section
variable {F F' F'' G : Nat → Prop} {w w' w'' : World}
theorem Turn.refl (F : Nat → Prop) (w : World) : Turn F w w := ⟨rfl, rfl, rfl, Nat.le_refl _, fun _ _ _ => rfl⟩
theorem Turn.trans (h : Turn F w w') (k : Turn F' w' w'') (hs : ∀ b, F' b → F b ∨ w.heap.size ≤ b) : Turn F w w'' :=
  ⟨k.os.trans h.os, k.tape.trans h.tape, k.output.trans h.output, Nat.le_trans h.size k.size, fun b hb hn =>
    (k.block b (Nat.lt_of_lt_of_le hb h.size) (fun h' => (hs b h').elim hn (fun h1 => by omega))).trans (h.block b hb hn)⟩
theorem Turn.mono (h : Turn F w w') (hs : ∀ b, F b → G b) : Turn G w w' := ⟨h.os, h.tape, h.output, h.size, fun b hb hn => h.block b hb (fun e => hn (hs b e))⟩
theorem Turn.of_grown {row : Option Nat} (h : w.grownBy w' row) (hr : ∀ k, row = some k → F k) : Turn F w w' :=
  ⟨h.os, h.tape, h.output, h.size, fun b hb hn => h.block b hb (fun e => hn (hr b e.symm))⟩
theorem Turn.of_below (h : Below w.heap.size w w') : Turn F w w' := ⟨h.os, h.tape, h.output, h.size, fun b hb _ => h.block b hb⟩
theorem Turn.below {B : Nat} (h : Turn F w w') (hB : B ≤ w.heap.size) (hF : ∀ b, F b → B ≤ b) : Below B w w' :=
  ⟨h.os, h.tape, h.output, h.size, fun b hb => h.block b (by omega) (fun e => by have := hF b e; omega)⟩
theorem Turn.drew (h : Turn F w w') : Turn F w w'.drew := ⟨h.os, h.tape, h.output, h.size, h.block⟩
theorem Turn.drewN (h : Turn F w w') (n : Nat) : Turn F w (w'.drewN n) := ⟨h.os, h.tape, h.output, h.size, h.block⟩
theorem Turn.grown {row : Option Nat} (h : Turn F w w') (k : w'.grownBy w'' row) (hr : ∀ b, row = some b → F b ∨ w.heap.size ≤ b) : Turn F w w'' :=
  h.trans (F' := fun b => row = some b) (Turn.of_grown k fun _ e => e) hr
theorem Turn.new (h : Turn F w w') (k : Below w.heap.size w' w'') : Turn F w w'' :=
  ⟨k.os.trans h.os, k.tape.trans h.tape, k.output.trans h.output, Nat.le_trans h.size k.size, fun b hb hn => (k.block b hb).trans (h.block b hb hn)⟩
theorem Turn.alloc (h : Turn F w w') (o : Obj) : Turn F w (w'.alloc o) := h.new ((Below.refl _ _).alloc h.size o)
theorem Turn.setCell (h : Turn F w w') (p : Addr) (u : Value) (hp : F p.block ∨ w.heap.size ≤ p.block) : Turn F w (w'.setCell p u) :=
  h.grown (grownBy_setCell w' p u) (fun b e => by cases e; exact hp)
theorem Step.refl (F : Nat → Prop) (w : World) : Step F w F w := ⟨Turn.refl _ _, fun _ h => .inl h⟩
theorem Step.trans (h : Step F w F' w') (k : Step F' w' F'' w'') : Step F w F'' w'' :=
  ⟨h.turn.trans k.turn h.grow, fun b hb => (k.grow b hb).elim (h.grow b) (fun h1 => .inr (Nat.le_trans h.turn.size h1))⟩
/-- What the call owns and what no device has. -/
def Off (F : Nat → Prop) (v : Value) : Prop := ∀ g, v.ownBlock = some g → ¬ F g
theorem OwB.turn {b : Nat} {v : Value} {l : List UInt8} (h : OwB w b v l) (ht : Turn F w w') (ho : Off F v) : OwB w' b v l :=
  Own.heap h fun g hg => ht.block g (h.lt g hg).2 (ho g hg)
theorem OwB.off {b : Nat} {v : Value} {l : List UInt8} (h : OwB w b v l) (hs : Step F w F' w') (ho : Off F v) : Off F' v := fun g hg hf => by
  rcases hs.grow g hf with h1 | h1
  · exact ho g hg h1
  · have := (h.lt g hg).2
    omega
theorem OBlk.turn {g : Nat} {T : TypeId} {cs : List Value} (h : OBlk w g T cs) (ht : Turn F w w') (hg : ¬ F g) : OBlk w' g T cs := h.of_heap (ht.block g h.lt hg)
end
end Go.Proofs.Ytgnhakgfgdelpaa

-- The check sum in plain numbers: bit by bit; four bits at a time by a table; that it is linear and loses nothing.
namespace Go.Proofs.Ytgnhakgfgdelpaa

def crcBit (r : Nat) : Nat := if r % 2 = 1 then (r / 2) ^^^ 2197175160 else r / 2
def crcN : Nat → Nat → Nat
  | 0, r => r
  | k + 1, r => crcN k (crcBit r)
def crcByte (r : Nat) (x : UInt8) : Nat := crcN 8 (r ^^^ x.toNat)
def crcF (r : Nat) (l : List UInt8) : Nat := l.foldl crcByte r
def sumF (l : List UInt8) : Nat := crcF 4294967295 l ^^^ 4294967295

def halfTab : List Nat := [0x00000000, 0x105ec76f, 0x20bd8ede, 0x30e349b1, 0x417b1dbc, 0x5125dad3, 0x61c69362, 0x7198540d, 0x82f63b78, 0x92a8fc17, 0xa24bb5a6, 0xb21572c9, 0xc38d26c4, 0xd3d3e1ab, 0xe330a81a, 0xf36e6f75]
def halfF (r : Nat) : Nat := halfTab.getD (r % 16) 0

theorem xor_div2 (a b : Nat) : (a ^^^ b) / 2 = a / 2 ^^^ b / 2 := by
  apply Nat.eq_of_testBit_eq; intro i; simp [Nat.testBit_div_two, Nat.testBit_xor]
theorem xor_mod2 (a b : Nat) : (a ^^^ b) % 2 = (a + b) % 2 := by
  have h := Nat.testBit_xor a b 0
  simp only [Nat.testBit_zero] at h
  have ha : a % 2 = 0 ∨ a % 2 = 1 := by omega
  have hb : b % 2 = 0 ∨ b % 2 = 1 := by omega
  have hc : (a ^^^ b) % 2 = 0 ∨ (a ^^^ b) % 2 = 1 := by omega
  rcases ha with ha | ha <;> rcases hb with hb | hb <;> rcases hc with hc | hc <;> simp [ha, hb, hc] at h <;> omega
theorem crcBit_eq (r : Nat) : crcBit r = r / 2 ^^^ (if r % 2 = 1 then 2197175160 else 0) := by
  unfold crcBit; split <;> simp
theorem crcBit_xor (a b : Nat) : crcBit (a ^^^ b) = crcBit a ^^^ crcBit b := by
  rw [crcBit_eq, crcBit_eq, crcBit_eq, xor_div2, xor_mod2]
  have ha : a % 2 = 0 ∨ a % 2 = 1 := by omega
  have hb : b % 2 = 0 ∨ b % 2 = 1 := by omega
  rcases ha with ha | ha <;> rcases hb with hb | hb
  · rw [if_neg (by omega), if_neg (by omega), if_neg (by omega)]; simp
  · rw [if_pos (by omega), if_neg (by omega), if_pos (by omega)]; simp [Nat.xor_assoc]
  · rw [if_pos (by omega), if_pos (by omega), if_neg (by omega)]
    simp only [Nat.xor_zero]
    rw [Nat.xor_assoc, Nat.xor_assoc, Nat.xor_comm (b / 2)]
  · rw [if_neg (by omega), if_pos (by omega), if_pos (by omega)]
    simp only [Nat.xor_zero]
    rw [Nat.xor_assoc, Nat.xor_comm 2197175160, Nat.xor_assoc, Nat.xor_self, Nat.xor_zero]
theorem crcN_xor (k a b : Nat) : crcN k (a ^^^ b) = crcN k a ^^^ crcN k b := by
  induction k generalizing a b with
  | zero => rfl
  | succ k ih => simp only [crcN, crcBit_xor, ih]
theorem crcN_add (j k r : Nat) : crcN (j + k) r = crcN k (crcN j r) := by
  induction j generalizing r with
  | zero => simp [crcN]
  | succ j ih => rw [Nat.succ_add]; simp only [crcN]; exact ih _
theorem crcN_shl (k q : Nat) : crcN k (2 ^ k * q) = q := by
  induction k generalizing q with
  | zero => simp [crcN]
  | succ k ih =>
    simp only [crcN]
    have e : crcBit (2 ^ (k + 1) * q) = 2 ^ k * q := by
      rw [Nat.pow_succ, Nat.mul_right_comm]
      unfold crcBit
      rw [if_neg (by omega)]; omega
    rw [e, ih]
theorem crcBit_lt (r : Nat) (h : r < 4294967296) : crcBit r < 4294967296 := by
  rw [crcBit_eq]
  refine Nat.xor_lt_two_pow (n := 32) (by omega) ?_
  split <;> omega
theorem crcN_lt (k r : Nat) (h : r < 4294967296) : crcN k r < 4294967296 := by
  induction k generalizing r with
  | zero => exact h
  | succ k ih => exact ih _ (crcBit_lt r h)
theorem xor_split (r : Nat) : r = (2 ^ 4 * (r / 16)) ^^^ (r % 16) := by
  have := nat_join 4 (2 ^ 4 * (r / 16)) (r % 16) (by omega) (by omega)
  have h2 : (2 ^ 4 * (r / 16)) ^^^ (r % 16) = (2 ^ 4 * (r / 16)) ||| (r % 16) := by
    apply Nat.eq_of_testBit_eq
    intro i
    rw [Nat.testBit_xor, Nat.testBit_or]
    by_cases hi : i < 4
    · rw [Nat.testBit_two_pow_mul]; simp [show ¬ (4 ≤ i) by omega]
    · rw [show r % 16 = r % 2 ^ 4 from rfl, Nat.testBit_mod_two_pow]; simp [hi]
  rw [h2, this]; omega
theorem half_eq (r : Nat) : halfF r ^^^ r / 16 = crcN 4 r := by
  conv => rhs; rw [xor_split r]
  rw [crcN_xor, crcN_shl, Nat.xor_comm]
  congr 1
  have h : r % 16 < 16 := by omega
  unfold halfF
  generalize r % 16 = k at h
  have : ∀ k, k < 16 → halfTab.getD k 0 = crcN 4 k := by decide +kernel
  exact this k h
theorem halfF_lt (r : Nat) : halfF r < 4294967296 := by
  have h : r % 16 < 16 := by omega
  unfold halfF
  generalize r % 16 = k at h
  have : ∀ k, k < 16 → halfTab.getD k 0 < 4294967296 := by decide +kernel
  exact this k h
/-- A byte, as the code does it. -/
theorem crcByte_eq (r : Nat) (x : UInt8) : crcByte r x = halfF (halfF (r ^^^ x.toNat) ^^^ (r ^^^ x.toNat) / 16) ^^^ (halfF (r ^^^ x.toNat) ^^^ (r ^^^ x.toNat) / 16) / 16 := by
  rw [half_eq, half_eq, ← crcN_add]; rfl
theorem crcByte_lt (r : Nat) (x : UInt8) (h : r < 4294967296) : crcByte r x < 4294967296 :=
  crcN_lt 8 _ (Nat.xor_lt_two_pow (n := 32) h (by have := x.toNat_lt; omega))
theorem crcF_lt (r : Nat) (l : List UInt8) (h : r < 4294967296) : crcF r l < 4294967296 := by
  induction l generalizing r with
  | nil => exact h
  | cons x l ih => exact ih _ (crcByte_lt r x h)
theorem sumF_lt (l : List UInt8) : sumF l < 4294967296 := Nat.xor_lt_two_pow (n := 32) (crcF_lt _ l (by omega)) (by omega)
theorem crcF_append (r : Nat) (l m : List UInt8) : crcF r (l ++ m) = crcF (crcF r l) m := by simp [crcF]
theorem crcF_snoc (r : Nat) (l : List UInt8) (x : UInt8) : crcF r (l ++ [x]) = crcByte (crcF r l) x := by simp [crcF]
/-! ### Nothing is lost -/
theorem crcBit_zero {c : Nat} (hc : c < 4294967296) (h : crcBit c = 0) : c = 0 := by
  unfold crcBit at h
  split at h
  · have : c / 2 = 2197175160 := by
      have := congrArg (· ^^^ 2197175160) h
      simpa [Nat.xor_assoc] using this
    omega
  · omega
theorem xor_eq_zero' {a b : Nat} (h : a ^^^ b = 0) : a = b := by
  have := congrArg (· ^^^ b) h
  simpa [Nat.xor_assoc] using this
theorem crcN_zero (k : Nat) {c : Nat} (hc : c < 4294967296) (h : crcN k c = 0) : c = 0 := by
  induction k generalizing c with
  | zero => exact h
  | succ k ih => exact crcBit_zero hc (ih (crcBit_lt c hc) h)
theorem crcN_inj (k : Nat) {a b : Nat} (ha : a < 4294967296) (hb : b < 4294967296) (h : crcN k a = crcN k b) : a = b := by
  have h0 : crcN k (a ^^^ b) = 0 := by rw [crcN_xor, h, Nat.xor_self]
  exact xor_eq_zero' (crcN_zero k (Nat.xor_lt_two_pow (n := 32) ha hb) h0)
theorem xor_cancel_right {a b c : Nat} (h : a ^^^ c = b ^^^ c) : a = b := by
  have := congrArg (· ^^^ c) h
  simpa [Nat.xor_assoc] using this
theorem crcF_inj (l : List UInt8) {a b : Nat} (ha : a < 4294967296) (hb : b < 4294967296) (h : crcF a l = crcF b l) : a = b := by
  induction l generalizing a b with
  | nil => exact h
  | cons x l ih =>
    have hx : x.toNat < 4294967296 := by have := x.toNat_lt; omega
    have := ih (crcByte_lt a x ha) (crcByte_lt b x hb) h
    exact xor_cancel_right (crcN_inj 8 (Nat.xor_lt_two_pow (n := 32) ha hx) (Nat.xor_lt_two_pow (n := 32) hb hx) this)
/-- A row of bytes, the first one lowest. -/
def word : List UInt8 → Nat
  | [] => 0
  | x :: l => x.toNat ^^^ (256 * word l)
theorem crcF_word (l : List UInt8) (r : Nat) : crcF r l = crcN (8 * l.length) (r ^^^ word l) := by
  induction l generalizing r with
  | nil => simp [crcF, word, crcN]
  | cons x l ih =>
    have e : crcF r (x :: l) = crcF (crcByte r x) l := rfl
    rw [e, ih, List.length_cons, Nat.mul_add, Nat.mul_one, Nat.add_comm, crcN_add]
    congr 1
    unfold crcByte
    rw [word, ← Nat.xor_assoc, crcN_xor 8 (r ^^^ x.toNat)]
    congr 1
    exact (crcN_shl 8 (word l)).symm
end Go.Proofs.Ytgnhakgfgdelpaa

-- Ordered, ReadOrdered, order, common, behind: plain laws, no program.
namespace Go.Proofs.Ytgnhakgfgdelpaa
/-! ### Ordered -/
def escF (l : List UInt8) : List UInt8 := l.flatMap fun x => if x = 0 then [0, 255] else [x]
def ordF (l : List UInt8) : List UInt8 := escF l ++ [0, 1]
theorem escF_nil : escF [] = [] := rfl
theorem escF_zero (l : List UInt8) : escF (0 :: l) = 0 :: 255 :: escF l := by simp [escF]
theorem escF_one {x : UInt8} (h : x ≠ 0) (l : List UInt8) : escF (x :: l) = x :: escF l := by simp [escF, h]
theorem escF_append (l m : List UInt8) : escF (l ++ m) = escF l ++ escF m := by simp [escF]
theorem escF_len (l : List UInt8) : l.length ≤ (escF l).length ∧ (escF l).length ≤ 2 * l.length := by
  induction l with
  | nil => simp [escF]
  | cons x l ih =>
    by_cases h : x = 0
    · subst h; rw [escF_zero]; simp; omega
    · rw [escF_one h]; simp; omega
theorem escF_count (l : List UInt8) : (escF l).length = l.length + l.count 0 := by
  induction l with
  | nil => simp [escF]
  | cons x l ih =>
    by_cases h : x = 0
    · subst h; rw [escF_zero]; simp; omega
    · rw [escF_one h]; simp [ih, h]; omega
/-- Reading: what was read so far, the bytes taken. -/
def roA : List UInt8 → Nat → List UInt8 → List UInt8 × Nat × Int
  | _, _, [] => ([], 0, 10)
  | _, _, [_] => ([], 0, 10)
  | acc, k, x :: y :: r =>
    if x = 0 then
      if y = 1 then (acc, k + 2, 0)
      else if y = 255 then roA (acc ++ [0]) (k + 2) r
      else ([], 0, 11)
    else roA (acc ++ [x]) (k + 1) (y :: r)
theorem roA_x (acc : List UInt8) (k : Nat) (x : UInt8) (r : List UInt8) (h : x ≠ 0) : roA acc k (x :: r) = roA (acc ++ [x]) (k + 1) r := by
  cases r with
  | nil => simp [roA]
  | cons y r => simp [roA, h]
/-- A stretch without zeros. -/
theorem roA_seg (s : List UInt8) (hs : ∀ x ∈ s, x ≠ 0) : ∀ (acc : List UInt8) (k : Nat) (r : List UInt8), roA acc k (s ++ r) = roA (acc ++ s) (k + s.length) r := by
  induction s with
  | nil => intro acc k r; simp
  | cons x s ih =>
    intro acc k r
    rw [List.cons_append, roA_x _ _ _ _ (hs x (by simp)), ih (fun y hy => hs y (by simp [hy]))]
    simp [Nat.add_assoc, Nat.add_comm 1]
theorem roA_none (s : List UInt8) (hs : ∀ x ∈ s, x ≠ 0) (acc : List UInt8) (k : Nat) : roA acc k s = ([], 0, 10) := by
  have := roA_seg s hs acc k []
  rw [List.append_nil] at this
  rw [this]; rfl
/-- What was written is read. -/
theorem roA_ordF : ∀ (l acc rest : List UInt8) (k : Nat), roA acc k (ordF l ++ rest) = (acc ++ l, k + (ordF l).length, 0)
  | [], acc, rest, k => by simp [ordF, escF_nil, roA]
  | x :: l, acc, rest, k => by
    have ih := roA_ordF l
    by_cases h : x = 0
    · subst h
      have e : ordF (0 :: l) ++ rest = 0 :: 255 :: (ordF l ++ rest) := by simp [ordF, escF_zero]
      have e2 : (ordF (0 :: l)).length = (ordF l).length + 2 := by simp [ordF, escF_zero]
      rw [e, e2]
      have : roA acc k (0 :: 255 :: (ordF l ++ rest)) = roA (acc ++ [0]) (k + 2) (ordF l ++ rest) := by
        rw [roA]; simp
      rw [this, ih]
      simp; omega
    · have e : ordF (x :: l) ++ rest = x :: (ordF l ++ rest) := by simp [ordF, escF_one h]
      have e2 : (ordF (x :: l)).length = (ordF l).length + 1 := by simp [ordF, escF_one h]
      rw [e, e2, roA_x _ _ _ _ h, ih]
      simp; omega
theorem ordF_drop (l : List UInt8) : (ordF l).dropLast = escF l ++ [0] := by
  unfold ordF
  rw [show escF l ++ [0, 1] = (escF l ++ [0]) ++ [1] by simp, List.dropLast_concat]
/-- A byte fewer is too short. -/
theorem roA_short : ∀ (l acc : List UInt8) (k : Nat), roA acc k (escF l ++ [0]) = ([], 0, 10)
  | [], acc, k => rfl
  | x :: l, acc, k => by
    have ih := roA_short l
    by_cases h : x = 0
    · subst h
      have e : escF (0 :: l) ++ [0] = 0 :: 255 :: (escF l ++ [0]) := by simp [escF_zero]
      have : roA acc k (0 :: 255 :: (escF l ++ [0])) = roA (acc ++ [0]) (k + 2) (escF l ++ [0]) := by rw [roA]; simp
      rw [e, this, ih]
    · have e : escF (x :: l) ++ [0] = x :: (escF l ++ [0]) := by simp [escF_one h]
      rw [e, roA_x _ _ _ _ h, ih]
/-! ### Order -/
def ordC : List UInt8 → List UInt8 → Int
  | [], [] => 0
  | [], _ :: _ => -1
  | _ :: _, [] => 1
  | x :: a, y :: b => if x < y then -1 else if y < x then 1 else ordC a b
theorem ordC_range : ∀ (a b : List UInt8), ordC a b = -1 ∨ ordC a b = 0 ∨ ordC a b = 1
  | [], [] => by simp [ordC]
  | [], _ :: _ => by simp [ordC]
  | _ :: _, [] => by simp [ordC]
  | x :: a, y :: b => by
    have := ordC_range a b
    unfold ordC
    split
    · simp
    · split
      · simp
      · exact this
theorem ordC_self : ∀ (a : List UInt8), ordC a a = 0
  | [] => rfl
  | x :: a => by
    have h : ¬ x < x := by rw [UInt8.lt_iff_toNat_lt]; omega
    simp [ordC, h, ordC_self a]
theorem ordC_eq : ∀ (a b : List UInt8), ordC a b = 0 → a = b
  | [], [], _ => rfl
  | [], _ :: _, h => by simp [ordC] at h
  | _ :: _, [], h => by simp [ordC] at h
  | x :: a, y :: b, h => by
    unfold ordC at h
    split at h
    · simp at h
    · rename_i h1
      split at h
      · simp at h
      · rename_i h2
        rw [UInt8.lt_iff_toNat_lt] at h1 h2
        have e : x = y := UInt8.toNat_inj.mp (by omega)
        rw [e, ordC_eq a b h]
theorem ordC_same (x : UInt8) (a b : List UInt8) : ordC (x :: a) (x :: b) = ordC a b := by
  have h : ¬ x < x := by rw [UInt8.lt_iff_toNat_lt]; omega
  simp [ordC, h]
theorem ordC_prefix (s a b : List UInt8) : ordC (s ++ a) (s ++ b) = ordC a b := by
  induction s with
  | nil => rfl
  | cons x s ih => rw [List.cons_append, List.cons_append, ordC_same, ih]
theorem ordC_lt {x y : UInt8} (h : x < y) (a b : List UInt8) : ordC (x :: a) (y :: b) = -1 := by simp [ordC, h]
theorem ordC_gt {x y : UInt8} (h : y < x) (a b : List UInt8) : ordC (x :: a) (y :: b) = 1 := by
  have : ¬ x < y := by rw [UInt8.lt_iff_toNat_lt] at *; omega
  simp [ordC, this, h]
theorem zero_lt_of {x : UInt8} (h : x ≠ 0) : (0 : UInt8) < x := by
  rw [UInt8.lt_iff_toNat_lt]
  have : x.toNat ≠ 0 := fun e => h (UInt8.toNat_inj.mp e)
  simp; omega
theorem ordF_cons_zero (l : List UInt8) : ordF (0 :: l) = 0 :: 255 :: ordF l := by simp [ordF, escF_zero]
theorem ordF_cons_one {x : UInt8} (h : x ≠ 0) (l : List UInt8) : ordF (x :: l) = x :: ordF l := by simp [ordF, escF_one h]
/-- Written texts stand as they do, whatever stands behind. -/
theorem ordC_ordF : ∀ (a b c d : List UInt8), a ≠ b → ordC (ordF a ++ c) (ordF b ++ d) = ordC a b
  | [], [], _, _, h => absurd rfl h
  | [], y :: b, c, d, _ => by
    have e : ordF [] ++ c = 0 :: 1 :: c := rfl
    rw [e]
    by_cases hy : y = 0
    · subst hy
      rw [ordF_cons_zero, List.cons_append, List.cons_append, ordC_same, ordC_lt (by decide)]; rfl
    · rw [ordF_cons_one hy, List.cons_append, ordC_lt (zero_lt_of hy)]; rfl
  | x :: a, [], c, d, _ => by
    have e : ordF [] ++ d = 0 :: 1 :: d := rfl
    rw [e]
    by_cases hx : x = 0
    · subst hx
      rw [ordF_cons_zero, List.cons_append, List.cons_append, ordC_same, ordC_gt (by decide)]; rfl
    · rw [ordF_cons_one hx, List.cons_append, ordC_gt (zero_lt_of hx)]; rfl
  | x :: a, y :: b, c, d, h => by
    by_cases hxy : x = y
    · subst hxy
      have hab : a ≠ b := fun e => h (by rw [e])
      rw [ordC_same, ← ordC_ordF a b c d hab]
      by_cases hx : x = 0
      · subst hx
        rw [ordF_cons_zero, ordF_cons_zero, List.cons_append, List.cons_append, List.cons_append, List.cons_append, ordC_same, ordC_same]
      · rw [ordF_cons_one hx, ordF_cons_one hx, List.cons_append, List.cons_append, ordC_same]
    · by_cases hx : x = 0
      · subst hx
        have hy : y ≠ 0 := fun e => hxy e.symm
        rw [ordF_cons_zero, ordF_cons_one hy, List.cons_append, List.cons_append, List.cons_append, ordC_lt (zero_lt_of hy), ordC_lt (zero_lt_of hy)]
      · by_cases hy : y = 0
        · subst hy
          rw [ordF_cons_zero, ordF_cons_one hx, List.cons_append, List.cons_append, List.cons_append, ordC_gt (zero_lt_of hx), ordC_gt (zero_lt_of hx)]
        · rw [ordF_cons_one hx, ordF_cons_one hy, List.cons_append, List.cons_append]
          have hn : x.toNat ≠ y.toNat := fun e => hxy (UInt8.toNat_inj.mp e)
          rcases Nat.lt_or_gt_of_ne hn with h1 | h1
          · have h1 : x < y := UInt8.lt_iff_toNat_lt.mpr h1
            rw [ordC_lt h1, ordC_lt h1]
          · have h1 : y < x := UInt8.lt_iff_toNat_lt.mpr h1
            rw [ordC_gt h1, ordC_gt h1]
theorem ordC_ordF' (a b : List UInt8) : ordC (ordF a) (ordF b) = ordC a b := by
  by_cases h : a = b
  · subst h; rw [ordC_self, ordC_self]
  · have := ordC_ordF a b [] [] h
    simpa using this
/-- None begins another. -/
theorem ordF_not_prefix {a b : List UInt8} (h : a ≠ b) (z : List UInt8) : ordF b ≠ ordF a ++ z := by
  intro e
  have h1 := ordC_ordF a b z [] h
  rw [List.append_nil, e, ordC_self] at h1
  exact h (ordC_eq a b h1.symm)
/-! ### Between -/
def comF : List UInt8 → List UInt8 → Nat
  | x :: a, y :: b => if x = y then comF a b + 1 else 0
  | _, _ => 0
theorem comF_le : ∀ (a b : List UInt8), comF a b ≤ a.length ∧ comF a b ≤ b.length
  | [], _ => by simp [comF]
  | _ :: _, [] => by simp [comF]
  | x :: a, y :: b => by
    have := comF_le a b
    unfold comF
    split <;> simp <;> omega
theorem comF_take : ∀ (a b : List UInt8), a.take (comF a b) = b.take (comF a b)
  | [], _ => by simp [comF]
  | _ :: _, [] => by simp [comF]
  | x :: a, y :: b => by
    have := comF_take a b
    unfold comF
    split
    · rename_i h; subst h; simp [this]
    · simp
theorem comF_eq {a b : List UInt8} {j : Nat} (h : j < comF a b) : a[j]? = b[j]? := by
  have h1 : (a.take (comF a b))[j]? = (b.take (comF a b))[j]? := by rw [comF_take]
  rwa [List.getElem?_take_of_lt h, List.getElem?_take_of_lt h] at h1
theorem comF_stop : ∀ (a b : List UInt8) (h1 : comF a b < a.length) (h2 : comF a b < b.length), a[comF a b] ≠ b[comF a b]
  | [], _, h1, _ => by simp at h1
  | _ :: _, [], _, h2 => by simp at h2
  | x :: a, y :: b, h1, h2 => by
    by_cases h : x = y
    · subst h
      have e : comF (x :: a) (x :: b) = comF a b + 1 := by simp [comF]
      simp only [e] at h1 h2 ⊢
      have := comF_stop a b (by simpa using h1) (by simpa using h2)
      simpa using this
    · have e : comF (x :: a) (y :: b) = 0 := by simp [comF, h]
      simp only [e]
      simpa using h
theorem comF_of (a b : List UInt8) (k : Nat) (ha : k ≤ a.length) (hb : k ≤ b.length) (h : ∀ j, j < k → a[j]? = b[j]?) (hs : ∀ (h1 : k < a.length) (h2 : k < b.length), a[k] ≠ b[k]) : comF a b = k := by
  have hle := comF_le a b
  rcases Nat.lt_trichotomy (comF a b) k with hlt | he | hgt
  · have h1 := comF_stop a b (by omega) (by omega)
    have h2 := h _ hlt
    rw [List.getElem?_eq_getElem (by omega), List.getElem?_eq_getElem (by omega)] at h2
    exact absurd (Option.some.inj h2) h1
  · exact he
  · have h1 := hs (by omega) (by omega)
    have h2 := comF_eq hgt
    rw [List.getElem?_eq_getElem (by omega), List.getElem?_eq_getElem (by omega)] at h2
    exact absurd (Option.some.inj h2) h1
/-- The beginnings of b that lie behind a. -/
theorem between_take : ∀ (a b : List UInt8) (n : Nat), ordC a b < 0 → n ≤ b.length → (ordC a (b.take n) < 0 ↔ comF a b < n)
  | [], [], _, h, _ => by simp [ordC] at h
  | [], y :: b, n, _, _ => by
    cases n with
    | zero => simp [ordC, comF]
    | succ n => simp [ordC, comF]
  | x :: a, [], _, h, _ => by simp [ordC] at h
  | x :: a, y :: b, n, h, hn => by
    cases n with
    | zero => simp [ordC]
    | succ n =>
      rw [List.take_succ_cons]
      by_cases hxy : x = y
      · subst hxy
        rw [ordC_same] at h ⊢
        have := between_take a b n h (by simpa using hn)
        rw [this]
        simp [comF]
      · have hlt : x < y := by
          unfold ordC at h
          split at h
          · assumption
          · rename_i h1
            split at h
            · simp at h
            · rename_i h2
              rw [UInt8.lt_iff_toNat_lt] at h1 h2
              exact absurd (UInt8.toNat_inj.mp (by omega)) hxy
        rw [ordC_lt hlt]
        simp [comF, hxy]
theorem between_lt {a b : List UInt8} (h : ordC a b < 0) : comF a b < b.length := by
  have h1 := (between_take a b b.length h (Nat.le_refl _)).mp (by rw [List.take_length]; exact h)
  exact h1
theorem ordC_take_le : ∀ (b : List UInt8) (n : Nat), ordC (b.take n) b ≤ 0
  | [], n => by simp [ordC]
  | y :: b, 0 => by simp [ordC]
  | y :: b, n + 1 => by rw [List.take_succ_cons, ordC_same]; exact ordC_take_le b n
/-! ### Behind -/
/-- How many of the first k bytes stand up to the last one that is not 255. -/
def stripA (l : List UInt8) : Nat → Nat
  | 0 => 0
  | k + 1 => if l.getD k 0 = 255 then stripA l k else k + 1
def stripN (l : List UInt8) : Nat := stripA l l.length
theorem stripA_le (l : List UInt8) : ∀ k, stripA l k ≤ k
  | 0 => by simp [stripA]
  | k + 1 => by
    have := stripA_le l k
    unfold stripA; split <;> omega
theorem stripA_last (l : List UInt8) : ∀ k, 0 < stripA l k → l.getD (stripA l k - 1) 0 ≠ 255
  | 0, h => by simp [stripA] at h
  | k + 1, h => by
    unfold stripA at h ⊢
    split at h
    · rename_i h1; rw [if_pos h1]; exact stripA_last l k h
    · rename_i h1; rw [if_neg h1]; simpa using h1
theorem stripA_high (l : List UInt8) : ∀ k j, stripA l k ≤ j → j < k → l.getD j 0 = 255
  | 0, j, _, h => by omega
  | k + 1, j, h1, h2 => by
    unfold stripA at h1
    split at h1
    · rename_i h3
      by_cases e : j = k
      · subst e; exact h3
      · exact stripA_high l k j h1 (by omega)
    · omega
def behL (l : List UInt8) : List UInt8 := l.take (stripN l - 1) ++ [l.getD (stripN l - 1) 0 + 1]
theorem behL_length {l : List UInt8} (h : 0 < stripN l) : (behL l).length = stripN l := by
  have := stripA_le l l.length
  have h2 : stripN l ≤ l.length := this
  simp [behL]; omega
theorem u8_succ_lt {x : UInt8} (h : x ≠ 255) : x < x + 1 ∧ x + 1 ≠ 0 ∧ x + 1 - 1 = x := by
  have hx := x.toNat_lt
  have hn : x.toNat ≠ 255 := fun e => h (UInt8.toNat_inj.mp e)
  have h1 : (x + 1).toNat = x.toNat + 1 := by rw [UInt8.toNat_add]; simp; omega
  refine ⟨by rw [UInt8.lt_iff_toNat_lt]; omega, fun e => by rw [e] at h1; simp at h1, ?_⟩
  simp
theorem strip_split {l : List UInt8} (h : 0 < stripN l) : l = l.take (stripN l - 1) ++ l.getD (stripN l - 1) 0 :: l.drop (stripN l) := by
  have h2 : stripN l ≤ l.length := stripA_le l l.length
  have h3 : stripN l - 1 < l.length := by omega
  conv => lhs; rw [← List.take_append_drop (stripN l - 1) l]
  congr 1
  rw [List.drop_eq_getElem_cons h3]
  have : stripN l - 1 + 1 = stripN l := by omega
  rw [this]
  simp [List.getD, h3]
theorem behind_lt {l : List UInt8} (h : 0 < stripN l) (m : List UInt8) : ordC (l ++ m) (behL l) = -1 := by
  have e := strip_split h
  have hne := stripA_last l l.length h
  have key : ∀ (p r : List UInt8) (x : UInt8), x ≠ 255 → ordC ((p ++ x :: r) ++ m) (p ++ [x + 1]) = -1 := fun p r x hx => by
    rw [List.append_assoc, ordC_prefix, List.cons_append]
    exact ordC_lt (u8_succ_lt hx).1 _ _
  have := key (l.take (stripN l - 1)) (l.drop (stripN l)) _ hne
  change ordC (l.take (stripN l - 1) ++ l.getD (stripN l - 1) 0 :: l.drop (stripN l) ++ m) (behL l) = -1 at this
  rw [← e] at this
  exact this
end Go.Proofs.Ytgnhakgfgdelpaa

-- ink.Fixed, ink.half, ink.Sum; espalierref01.Fixed, step, SumOf: walks.
namespace Go.Proofs.Ytgnhakgfgdelpaa
open Go.RowKit

theorem ret_int {k : IntKind} {a b : Int} (h : a = b) : Ending.returned (.int k a) = .returned (.int k b) := by rw [h]

/-! ### Fixed -/
def fixedF (n : Nat) : Nat → List UInt8
  | 0 => []
  | k + 1 => fixedF (n / 256) k ++ [UInt8.ofNat n]
theorem fixedF_length (n k : Nat) : (fixedF n k).length = k := by
  induction k generalizing n with
  | zero => rfl
  | succ k ih => simp [fixedF, ih]
theorem wrap_byte (n : Nat) : IntKind.u8.wrap (n : Int) = ((UInt8.ofNat n).toNat : Int) := by rw [IntKind.wrap_u8]; simp
theorem u8_byte (n : Nat) : ((UInt8.ofNat n).toNat : Int) = (n : Int) % 256 := by simp
set_option maxHeartbeats 400000 in
theorem Fixed_bad (n : Nat) (wd : Int) (h : wd < 1 ∨ 8 < wd) (w : World) :
    Calls Try.prog 37 #[.int .u64 n, .int .i64 wd] w fun e w' => e = .returned (.slice none 0 0) ∧ w = w' := by
  by_cases h1 : wd < 1
  · go_enter Try.func37, Try.ntmps37
    go_wp2
    go_ret
    exact ⟨rfl, rfl⟩
  · have h2 : 8 < wd := by omega
    go_enter Try.func37, Try.ntmps37
    go_wp2
    go_ret
    exact ⟨rfl, rfl⟩

set_option maxHeartbeats 400000 in
theorem Fixed_any (n : Nat) (hn : n < 18446744073709551616) (wd : Nat) (h1 : 1 ≤ wd) (h8 : wd ≤ 8) (w : World) :
    Calls Try.prog 37 #[.int .u64 n, .int .i64 wd] w fun e w' => e = .returned (.slice (some ⟨w.heap.size, 0, none⟩) wd wd) ∧ OBlk w' w.heap.size 5 (bvs (fixedF n wd)) ∧ Below w.heap.size w w' ∧ w'.heap.size = w.heap.size + 1 := by
  go_enter Try.func37, Try.ntmps37
  go_wp2_with (first | (at_make; refine wp_make_B rfl (.tmp 13) (.tmp 13) rfl _ wd rfl rfl rfl (by omega) ?_; intro w1 hb1 hw1 hs1))
  go_loopw [0, 6] (fun m i wr => ∃ (k m' : Nat) (t : List UInt8), i = .int .i64 ((k : Int) - 1) ∧ m = .int .u64 m' ∧ k ≤ wd ∧ m' < 18446744073709551616 ∧ fixedF n wd = fixedF m' k ++ t ∧ OBlk wr w.heap.size 5 (bvs (List.replicate k 0 ++ t)) ∧ Below w.heap.size w wr ∧ wr.heap.size = w.heap.size + 1)
    (fun _ i _ => (intOf i + 1).toNat)
  case atStart => exact ⟨wd, n, [], rfl, rfl, Nat.le_refl _, hn, by simp, by simpa using hb1, hw1, hs1⟩
  case round =>
    obtain ⟨k, m', t, rfl, rfl, hk, hm', ht, hb, hw, hs⟩ := hrel
    rcases Nat.eq_zero_or_pos k with rfl | hpos
    · go_wp2
      go_ret
      simp only [fixedF, List.nil_append, List.replicate_zero] at ht hb
      rw [← ht] at hb
      exact ⟨rfl, hb, hw, hs⟩
    · obtain ⟨k', rfl⟩ : ∃ k', k = k' + 1 := ⟨k - 1, by omega⟩
      have e1 : ((k' + 1 : Nat) : Int) - 1 = (k' : Int) := by omega
      rw [e1]
      have hc : wr.cell? ⟨w.heap.size, k', none⟩ = some (.int .u8 0) := by
        refine hb.cell' ?_
        rw [bvs_append, bvs_replicate, List.getElem?_append_left (by simp)]
        simp
      have hf : wr.frozen? ⟨w.heap.size, k', none⟩ = false := hb.frozen (by simp [bvs_length]; omega)
      have b1 : (0 : Int) ≤ (k' : Int) := by omega
      have b2 : (k' : Int) < (wd : Int) := by omega
      go_wp2
      go_roundw
      case rel =>
        refine ⟨k', m' / 256, UInt8.ofNat m' :: t, rfl, by go_num, by omega, by omega, by rw [ht]; simp [fixedF], ?_, hw.setCell (Nat.le_refl _) _, by simpa using hs⟩
        have := hb.set k' (.int .u8 ((m' : Int) % 256))
        rw [← u8_byte, ← bvs_set] at this
        rw [← u8_byte]
        have e : (List.replicate (k' + 1) (0 : UInt8) ++ t).set k' (UInt8.ofNat m') = List.replicate k' 0 ++ UInt8.ofNat m' :: t := by
          rw [List.replicate_succ', List.append_assoc, List.set_append_right _ _ (by simp)]
          simp
        rw [← e]; exact this
      case measure => simp [intOf]

theorem Fixed_4 (n : Nat) (hn : n < 18446744073709551616) (w : World) :
    Calls Try.prog 37 #[.int .u64 n, .int .i64 4] w fun e w' => e = .returned (.slice (some ⟨w.heap.size, 0, none⟩) 4 4) ∧ OBlk w' w.heap.size 5 (bvs (fixedF n 4)) ∧ Below w.heap.size w w' ∧ w'.heap.size = w.heap.size + 1 :=
  Fixed_any n hn 4 (by omega) (by omega) w
end Go.Proofs.Ytgnhakgfgdelpaa

-- ink.ReadFixed: the walk.
namespace Go.Proofs.Ytgnhakgfgdelpaa
open Go.RowKit

/-- What bytes say as a number, the highest first. -/
def numF (l : List UInt8) : Nat := l.foldl (fun n x => n * 256 + x.toNat) 0
theorem numF_snoc (l : List UInt8) (x : UInt8) : numF (l ++ [x]) = numF l * 256 + x.toNat := by simp [numF]
theorem numF_lt_aux (l : List UInt8) (n : Nat) : l.foldl (fun n x => n * 256 + x.toNat) n < (n + 1) * 256 ^ l.length := by
  induction l generalizing n with
  | nil => simp
  | cons x l ih =>
    have hx := x.toNat_lt
    have := ih (n * 256 + x.toNat)
    simp only [List.foldl_cons, List.length_cons]
    refine Nat.lt_of_lt_of_le this ?_
    rw [Nat.pow_succ, Nat.mul_comm (256 ^ l.length), ← Nat.mul_assoc]
    exact Nat.mul_le_mul_right _ (by omega)
theorem numF_lt (l : List UInt8) : numF l < 256 ^ l.length := by
  have := numF_lt_aux l 0
  simpa [numF] using this
theorem or_byte (n x : Nat) (hn : n < 72057594037927936) (hx : x < 256) : bits .or .u64 ((n : Int) * 256) (x : Int) = ((n * 256 + x : Nat) : Int) := by
  have := u64_or_nat (n * 256) x (by omega) (by omega)
  rw [nat_join 8 (n * 256) x (by omega) (by omega)] at this
  exact this
theorem numF_lt7 (l : List UInt8) (h : l.length ≤ 7) : numF l < 72057594037927936 := by
  have := numF_lt l
  have h2 : 256 ^ l.length ≤ 256 ^ 7 := Nat.pow_le_pow_right (by omega) h
  have h3 : 256 ^ 7 = 72057594037927936 := by decide
  omega
set_option maxHeartbeats 400000 in
theorem ReadFixed_any (v : Value) (l : List UInt8) (at_ wd : Nat) (h1 : 1 ≤ wd) (h8 : wd ≤ 8) (ha : at_ + wd ≤ l.length) (w : World) (hv : RdB w v l) :
    Calls Try.prog 41 #[v, .int .i64 at_, .int .i64 wd] w fun e w' => e = .returned (.tuple #[.int .u64 (numF ((l.drop at_).take wd) : Nat), .int .i64 0]) ∧ w = w' := by
  obtain ⟨A, c, rfl, hm⟩ := hv.form
  have hc : l.length ≤ c := by
    obtain ⟨_, _, hv', h, _⟩ := hv
    injection hv' with _ _ hc
    subst hc; exact h
  have hcut := hv.cut (lo := at_) (hi := at_ + wd) (by omega) ha
  rw [show at_ + wd - at_ = wd by omega] at hcut
  have hlen : ((l.take (at_ + wd)).drop at_).length = wd := by simp; omega
  have heq : (l.take (at_ + wd)).drop at_ = (l.drop at_).take wd := by rw [List.drop_take]; congr 1; omega
  rw [heq] at hcut hlen
  obtain ⟨ad, rfl, hx⟩ := hv.at_ (j := at_) (by omega)
  clear hx heq hv
  rw [if_neg (by omega)] at hcut
  generalize (l.drop at_).take wd = m at *
  have g1 : (1 : Int) ≤ (wd : Int) := by omega
  have g2 : (wd : Int) ≤ 8 := by omega
  have g3 : (0 : Int) ≤ (at_ : Int) := by omega
  have g4 : (at_ : Int) + (wd : Int) ≤ (l.length : Int) := by omega
  have g5 : (l.length : Int) ≤ (c : Int) := by omega
  have g6 : (l.length : Int) ≤ 9223372036854775807 := by omega
  have HL := Lib.hid hlen
  clear hlen
  go_enter Try.func41, Try.ntmps41
  go_wp2
  go_loop [8, 42] (fun n i => ∃ j : Nat, i = .int .i64 (j : Int) ∧ j ≤ wd ∧ n = .int .u64 (numF (m.take j) : Nat)) (fun _ i => wd - (intOf i).toNat)
  case atStart => exact ⟨0, rfl, Nat.zero_le _, rfl⟩
  case round =>
    obtain ⟨j, rfl, hj, rfl⟩ := hrel
    by_cases hlt : j < wd
    · have hjm : j < m.length := by rw [HL.out]; exact hlt
      obtain ⟨ad', hA, hcell⟩ := hcut.at_ hjm
      simp only [Option.map_some, Option.some.injEq] at hA
      subst hA
      have hb := numF_lt7 (m.take j) (by simp; omega)
      have hs : numF (m.take (j + 1)) = numF (m.take j) * 256 + m[j].toNat := by
        rw [List.take_succ_eq_append_getElem hjm, numF_snoc]
      have HS := Lib.hid hs
      clear hs
      have hxb : m[j].toNat < 256 := m[j].toNat_lt
      generalize m[j].toNat = x at *
      generalize numF (m.take j) = n at *
      have hor := or_byte n x hb hxb
      rw [← HS.out] at hor
      generalize hn' : numF (m.take (j + 1)) = n' at *
      have HN := Lib.hid hn'
      clear hn'
      go_wp2
      go_round
      case rel => exact ⟨j + 1, by go_num, by omega, by rw [HN.out]⟩
      case measure => simp [intOf]; omega
    · obtain rfl : j = wd := by omega
      rw [List.take_of_length_le (by rw [HL.out]; exact Nat.le_refl _)]
      go_wp2
      go_ret2
      exact ⟨rfl, rfl⟩
end Go.Proofs.Ytgnhakgfgdelpaa

-- Pages with whole keys: cells, their bytes, what may be, how it is read: plain laws.
namespace Go.Proofs.Ytgnhakgfgdelpaa
open Go.RowKit
structure PC where
  key : List UInt8
  kind : Int
  val : List UInt8
  page : Int
  count : Int
instance : Inhabited PC := ⟨⟨[], 0, [], 0, 0⟩⟩
def childP (c : PC) : Prop := 2 ≤ c.page ∧ c.page < 65536
def thereP (c : PC) : Prop := c.page = 0 ∧ c.count = 0
instance (c : PC) : Decidable (childP c) := by unfold childP; infer_instance
instance (c : PC) : Decidable (thereP c) := by unfold thereP; infer_instance
def mayP (kind : Int) (P : Nat) (c : PC) : Bool :=
  if P / 8 < c.key.length ∨ (kind = 2 ∧ c.key.length = 0) ∨ (c.kind ≠ 1 ∧ 0 < c.val.length) then false
  else if kind = 3 then decide (c.kind = 3 ∧ childP c ∧ 1 ≤ c.count ∧ c.count ≤ 1073741824)
  else if c.kind = 1 then decide (thereP c ∧ c.val.length ≤ P / 16 * 3)
  else if c.kind = 2 then decide (childP c ∧ (P / 16 * 3 : Nat) < c.count ∧ c.count ≤ 65536)
  else if c.kind = 4 then decide (thereP c ∨ (childP c ∧ 1 ≤ c.count ∧ c.count ≤ 1073741824))
  else false
def longF (c : PC) : Nat := if c.kind = 1 then 5 + c.key.length + c.val.length else 11 + c.key.length
def sizeF : List PC → Nat
  | [] => 8
  | c :: r => sizeF r + (2 + longF c)
def longsF : List PC → Nat
  | [] => 0
  | c :: r => longF c + longsF r
theorem sizeF_eq (l : List PC) : sizeF l = 8 + 2 * l.length + longsF l := by
  induction l with
  | nil => rfl
  | cons c r ih => simp only [sizeF, longsF, List.length_cons, ih]; omega
theorem longsF_append (a b : List PC) : longsF (a ++ b) = longsF a + longsF b := by
  induction a with
  | nil => simp [longsF]
  | cons c r ih => simp only [List.cons_append, longsF, ih]; omega
theorem sizeF_append (a b : List PC) : sizeF (a ++ b) = sizeF a + (sizeF b - 8) := by
  rw [sizeF_eq, sizeF_eq, sizeF_eq, longsF_append, List.length_append]; omega
theorem longF_pos (c : PC) : 5 ≤ longF c := by unfold longF; split <;> omega
/-- What follows the key. -/
def tailF (c : PC) : List UInt8 := if c.kind = 1 then fixedF c.val.length 2 ++ c.val else fixedF c.page.toNat 4 ++ fixedF c.count.toNat 4
def cellF (c : PC) : List UInt8 := UInt8.ofNat c.kind.toNat :: (fixedF c.key.length 2 ++ (c.key ++ tailF c))
theorem tailF_length (c : PC) : (tailF c).length = if c.kind = 1 then 2 + c.val.length else 8 := by
  unfold tailF
  split
  · rw [List.length_append, fixedF_length]
  · rw [List.length_append, fixedF_length, fixedF_length]
theorem cellF_length (c : PC) : (cellF c).length = longF c := by
  unfold cellF longF
  rw [List.length_cons, List.length_append, List.length_append, fixedF_length, tailF_length]
  split <;> omega
def bodyF : List PC → List UInt8
  | [] => []
  | c :: r => cellF c ++ bodyF r
theorem bodyF_length (l : List PC) : (bodyF l).length = longsF l := by
  induction l with
  | nil => rfl
  | cons c r ih => simp [bodyF, longsF, cellF_length, ih]
theorem bodyF_append (a b : List PC) : bodyF (a ++ b) = bodyF a ++ bodyF b := by
  induction a with
  | nil => rfl
  | cons c r ih => simp [bodyF, ih]
def slotsF : Nat → List PC → List UInt8
  | _, [] => []
  | at_, c :: r => fixedF at_ 2 ++ slotsF (at_ + longF c) r
theorem slotsF_length (at_ : Nat) (l : List PC) : (slotsF at_ l).length = 2 * l.length := by
  induction l generalizing at_ with
  | nil => rfl
  | cons c r ih => simp [slotsF, fixedF_length, ih]; omega
theorem slotsF_append (at_ : Nat) (a b : List PC) : slotsF at_ (a ++ b) = slotsF at_ a ++ slotsF (at_ + longsF a) b := by
  induction a generalizing at_ with
  | nil => simp [slotsF, longsF]
  | cons c r ih => simp only [List.cons_append, slotsF, ih, longsF, List.append_assoc]; rw [Nat.add_assoc]
/-- The place of the first cell. -/
def atF (l : List PC) (P : Nat) : Nat := P - 4 - longsF l
def headF (kind : Int) (n : Nat) : List UInt8 := UInt8.ofNat kind.toNat :: 1 :: fixedF n 2
def preF (kind : Int) (l : List PC) (P : Nat) : List UInt8 :=
  headF kind l.length ++ (slotsF (atF l P) l ++ (List.replicate (P - 4 - longsF l - 4 - 2 * l.length) 0 ++ bodyF l))
def laidF (kind : Int) (l : List PC) (P : Nat) : List UInt8 := preF kind l P ++ fixedF (sumF (preF kind l P)) 4
theorem headF_length (kind : Int) (n : Nat) : (headF kind n).length = 4 := by simp [headF, fixedF_length]
theorem preF_length {kind : Int} {l : List PC} {P : Nat} (h : sizeF l ≤ P) : (preF kind l P).length = P - 4 := by
  rw [sizeF_eq] at h
  unfold preF
  simp only [List.length_append, headF_length, slotsF_length, List.length_replicate, bodyF_length]
  omega
theorem laidF_length {kind : Int} {l : List PC} {P : Nat} (h : sizeF l ≤ P) : (laidF kind l P).length = P := by
  have := sizeF_eq l
  unfold laidF
  rw [List.length_append, preF_length h, fixedF_length]; omega
/-! ### what Encode tells -/
def afterP (p : Option (List UInt8)) (k : List UInt8) : Bool := match p with
  | none => true
  | some q => decide (ordC q k < 0)
def scanE (kind : Int) (P : Nat) : Option (List UInt8) → List PC → Int
  | _, [] => 0
  | p, c :: r => if mayP kind P c = false then 62 else if afterP p c.key = false then 63 else scanE kind P (some c.key) r
def isKindB (kind : Int) : Bool := decide (kind = 2 ∨ kind = 3)
def encE (kind : Int) (l : List PC) (P : Nat) : Int := if scanE kind P none l ≠ 0 then scanE kind P none l else if P < sizeF l then 61 else 0
def prevK (l : List PC) (i : Nat) : Option (List UInt8) := if i = 0 then none else some (l.getD (i - 1) default).key
theorem scan_step {kind : Int} {P : Nat} {l : List PC} {i : Nat} (hi : i < l.length) :
    scanE kind P (prevK l i) (l.drop i) = if mayP kind P l[i] = false then 62 else if afterP (prevK l i) l[i].key = false then 63 else scanE kind P (prevK l (i + 1)) (l.drop (i + 1)) := by
  rw [List.drop_eq_getElem_cons hi, scanE]
  have e : prevK l (i + 1) = some l[i].key := by
    unfold prevK
    rw [if_neg (by omega)]
    simp [List.getD, hi]
  rw [e]
theorem scan_range (kind : Int) (P : Nat) : ∀ (l : List PC) (p : Option (List UInt8)), scanE kind P p l = 0 ∨ scanE kind P p l = 62 ∨ scanE kind P p l = 63
  | [], _ => .inl rfl
  | c :: r, p => by
    rw [scanE]
    split
    · exact .inr (.inl rfl)
    · split
      · exact .inr (.inr rfl)
      · exact scan_range kind P r _
theorem scan_may {kind : Int} {P : Nat} : ∀ {l : List PC} {p : Option (List UInt8)}, scanE kind P p l = 0 → ∀ c ∈ l, mayP kind P c = true
  | [], _, _, c, hc => by cases hc
  | c :: r, p, h, d, hd => by
    rw [scanE] at h
    split at h
    · cases h
    · rename_i hm
      split at h
      · cases h
      · rcases List.mem_cons.1 hd with rfl | hd
        · simpa using hm
        · exact scan_may h d hd
/-- What a cell that may be is like. -/
structure OkC (P : Nat) (c : PC) : Prop where
  k0 : c.key.length ≤ P / 8
  kd : 1 ≤ c.kind ∧ c.kind ≤ 4
  v0 : c.kind = 1 → c.val.length ≤ P / 16 * 3 ∧ c.page = 0 ∧ c.count = 0
  v1 : c.kind ≠ 1 → c.val = [] ∧ 0 ≤ c.page ∧ c.page < 65536 ∧ 0 ≤ c.count ∧ c.count ≤ 1073741824
theorem may_ok {kind : Int} {P : Nat} {c : PC} (h : mayP kind P c = true) : OkC P c := by
  unfold mayP at h
  split at h
  · cases h
  · rename_i hn
    have h1 : c.key.length ≤ P / 8 := by omega
    have h2 : c.kind ≠ 1 → c.val = [] := fun hk => List.eq_nil_of_length_eq_zero (by omega)
    split at h
    · have h := of_decide_eq_true h
      unfold childP at h
      exact ⟨h1, by omega, fun e => by omega, fun e => ⟨h2 e, by omega, by omega, by omega, by omega⟩⟩
    · split at h
      · have h := of_decide_eq_true h
        unfold thereP at h
        exact ⟨h1, by omega, fun _ => ⟨h.2, h.1.1, h.1.2⟩, fun e => absurd ‹c.kind = 1› e⟩
      · split at h
        · have h := of_decide_eq_true h
          unfold childP at h
          exact ⟨h1, by omega, fun e => by omega, fun e => ⟨h2 e, by omega, by omega, by omega, by omega⟩⟩
        · split at h
          · have h := of_decide_eq_true h
            unfold childP thereP at h
            refine ⟨h1, by omega, fun e => by omega, fun e => ⟨h2 e, ?_⟩⟩
            rcases h with h | h <;> omega
          · cases h
theorem longF_le {P : Nat} {c : PC} (h : OkC P c) (hP : P ≤ 65536) : longF c ≤ 65536 := by
  have := h.k0
  unfold longF
  split
  · have := (h.v0 (by assumption)).1; omega
  · omega
theorem longs_le {P : Nat} {l : List PC} (h : ∀ c ∈ l, OkC P c) (hP : P ≤ 65536) : longsF l ≤ 65536 * l.length := by
  induction l with
  | nil => simp [longsF]
  | cons c r ih =>
    have h1 := longF_le (h c (by simp)) hP
    have h2 := ih fun d hd => h d (by simp [hd])
    simp only [longsF, List.length_cons]; omega
theorem encE_zero {kind : Int} {l : List PC} {P : Nat} : encE kind l P = 0 ↔ scanE kind P none l = 0 ∧ sizeF l ≤ P := by
  unfold encE
  split
  · rename_i h; exact ⟨fun e => absurd e h, fun e => absurd e.1 h⟩
  · rename_i h
    split
    · exact ⟨fun e => by omega, fun e => by omega⟩
    · exact ⟨fun _ => ⟨by simpa using h, by omega⟩, fun _ => rfl⟩
/-! ### how a page is read -/
def numAt (b : List UInt8) (at_ w : Nat) : Nat := numF ((b.drop at_).take w)
def cellP (b : List UInt8) (at_ end_ : Nat) : Option (PC × Nat) :=
  if end_ < at_ + 3 then none
  else
    if end_ < at_ + 3 + (numAt b (at_ + 1) 2) + 2 then none
    else
      if ((b.getD at_ 0).toNat : Int) ≠ 1 then
        if end_ < at_ + 3 + (numAt b (at_ + 1) 2) + 8 then none
        else some (⟨(b.drop (at_ + 3)).take (numAt b (at_ + 1) 2), (b.getD at_ 0).toNat, [], (numAt b (at_ + 3 + (numAt b (at_ + 1) 2)) 4 : Nat), (numAt b (at_ + 3 + (numAt b (at_ + 1) 2) + 4) 4 : Nat)⟩, at_ + 3 + (numAt b (at_ + 1) 2) + 8)
      else
        if end_ < at_ + 3 + (numAt b (at_ + 1) 2) + 2 + numAt b (at_ + 3 + (numAt b (at_ + 1) 2)) 2 then none
        else some (⟨(b.drop (at_ + 3)).take (numAt b (at_ + 1) 2), (b.getD at_ 0).toNat, (b.drop (at_ + 3 + (numAt b (at_ + 1) 2) + 2)).take (numAt b (at_ + 3 + (numAt b (at_ + 1) 2)) 2), 0, 0⟩, at_ + 3 + (numAt b (at_ + 1) 2) + 2 + numAt b (at_ + 3 + (numAt b (at_ + 1) 2)) 2)
def cellsP (b : List UInt8) (end_ : Nat) : Nat → Nat → Option (List PC)
  | _, 0 => some []
  | at_, n + 1 => match cellP b at_ end_ with
    | none => none
    | some (c, tz) => (cellsP b end_ tz n).map (c :: ·)
def firstP (b : List UInt8) (n end_ : Nat) : Nat := if 0 < n then numAt b 4 2 else end_
def parseF (b : List UInt8) : Option (List PC) :=
  if b.length - 4 < 4 + 2 * numAt b 2 2 then none else cellsP b (b.length - 4) (firstP b (numAt b 2 2) (b.length - 4)) (numAt b 2 2)
def kindF (b : List UInt8) : Int := ((b.getD 0 0).toNat : Int)
theorem numF_fixedF (n k : Nat) (h : n < 256 ^ k) : numF (fixedF n k) = n := by
  induction k generalizing n with
  | zero => simp [fixedF, numF]; simp at h; omega
  | succ k ih =>
    rw [Nat.pow_succ] at h
    have hd : n / 256 < 256 ^ k := Nat.div_lt_of_lt_mul (by rw [Nat.mul_comm]; exact h)
    rw [fixedF, numF_snoc, ih _ hd, UInt8.toNat_ofNat']
    omega
theorem numAt_mid {b pre rest : List UInt8} {n w at_ : Nat} (hb : b = pre ++ (fixedF n w ++ rest)) (ha : pre.length = at_) (hn : n < 256 ^ w) : numAt b at_ w = n := by
  subst hb ha
  unfold numAt
  rw [List.drop_left, List.take_left' (fixedF_length n w), numF_fixedF n w hn]
theorem take_mid {b pre x rest : List UInt8} {n at_ : Nat} (hb : b = pre ++ (x ++ rest)) (ha : pre.length = at_) (hn : x.length = n) : (b.drop at_).take n = x := by
  subst hb ha
  rw [List.drop_left, List.take_left' hn]
/-- A cell that stands there is read. -/
theorem cellP_mid {P : Nat} {b pre rest : List UInt8} {c : PC} {at_ end_ : Nat} (hc : OkC P c) (hP : P ≤ 65536) (hb : b = pre ++ (cellF c ++ rest)) (ha : pre.length = at_) (he : at_ + longF c ≤ end_) : cellP b at_ end_ = some (c, at_ + longF c) := by
  obtain ⟨key, kind, val, page, count⟩ := c
  have hk0 := hc.k0
  have hkd := hc.kd
  have hv0 := hc.v0
  have hv1 := hc.v1
  simp only at hk0 hkd hv0 hv1
  have hl5 := longF_pos ⟨key, kind, val, page, count⟩
  have e0 : b.getD at_ 0 = UInt8.ofNat kind.toNat := by
    subst hb ha
    simp [cellF, List.getD]
  have ek : (((b.getD at_ 0).toNat : Nat) : Int) = kind := by rw [e0, UInt8.toNat_ofNat']; omega
  have e1 : numAt b (at_ + 1) 2 = key.length := by
    refine numAt_mid (pre := pre ++ [UInt8.ofNat kind.toNat]) (rest := (key ++ tailF ⟨key, kind, val, page, count⟩) ++ rest) ?_ (by simp [ha]) (by omega)
    subst hb; simp [cellF]
  have e2 : (b.drop (at_ + 3)).take key.length = key := by
    refine take_mid (pre := pre ++ (UInt8.ofNat kind.toNat :: fixedF key.length 2)) (rest := tailF ⟨key, kind, val, page, count⟩ ++ rest) ?_ (by simp [ha, fixedF_length]) rfl
    subst hb; simp [cellF]
  have hpre : (pre ++ (UInt8.ofNat kind.toNat :: (fixedF key.length 2 ++ key))).length = at_ + 3 + key.length := by simp [ha, fixedF_length]; omega
  unfold longF at he hl5 ⊢
  simp only at he hl5 ⊢
  unfold cellP
  rw [e1, e2, ek]
  by_cases h1 : kind = 1
  · obtain ⟨hv, hp0, hc0⟩ := hv0 h1
    rw [if_pos h1] at he hl5 ⊢
    have e3 : numAt b (at_ + 3 + key.length) 2 = val.length := by
      refine numAt_mid (rest := val ++ rest) ?_ hpre (by omega)
      subst hb; simp [cellF, tailF, h1]
    have e4 : (b.drop (at_ + 3 + key.length + 2)).take val.length = val := by
      refine take_mid (pre := pre ++ (UInt8.ofNat kind.toNat :: (fixedF key.length 2 ++ key)) ++ fixedF val.length 2) (rest := rest) ?_ (by rw [List.length_append, hpre, fixedF_length]) rfl
      subst hb; simp [cellF, tailF, h1]
    rw [e3, e4, if_neg (by omega), if_neg (by omega), if_neg (by simp [h1]), if_neg (by omega), hp0, hc0]
    simp only [Option.some.injEq, Prod.mk.injEq, true_and]
    omega
  · obtain ⟨hv, hp0, hp1, hc0, hc1⟩ := hv1 h1
    rw [if_neg h1] at he hl5 ⊢
    have e3 : numAt b (at_ + 3 + key.length) 4 = page.toNat := by
      refine numAt_mid (rest := fixedF count.toNat 4 ++ rest) ?_ hpre (by omega)
      subst hb; simp [cellF, tailF, h1]
    have e4 : numAt b (at_ + 3 + key.length + 4) 4 = count.toNat := by
      refine numAt_mid (pre := pre ++ (UInt8.ofNat kind.toNat :: (fixedF key.length 2 ++ key)) ++ fixedF page.toNat 4) (rest := rest) ?_ (by rw [List.length_append, hpre, fixedF_length]) (by omega)
      subst hb; simp [cellF, tailF, h1]
    rw [e3, e4, if_neg (by omega), if_neg (by omega), if_pos h1, if_neg (by omega), hv, show ((page.toNat : Nat) : Int) = page by omega, show ((count.toNat : Nat) : Int) = count by omega]
    simp only [Option.some.injEq, Prod.mk.injEq, true_and]
    omega
theorem cellsP_mid {P : Nat} {b rest : List UInt8} {end_ : Nat} (hP : P ≤ 65536) : ∀ (l : List PC) (pre : List UInt8) (at_ : Nat), (∀ c ∈ l, OkC P c) → b = pre ++ (bodyF l ++ rest) → pre.length = at_ → at_ + longsF l ≤ end_ → cellsP b end_ at_ l.length = some l
  | [], _, _, _, _, _, _ => rfl
  | c :: r, pre, at_, hl, hb, ha, he => by
    have e1 := cellP_mid (b := b) (pre := pre) (at_ := at_) (c := c) (rest := bodyF r ++ rest) (end_ := end_) (hl c (by simp)) hP (by rw [hb]; simp [bodyF]) ha (by simp only [longsF] at he; omega)
    have e2 := cellsP_mid (b := b) (end_ := end_) (rest := rest) hP r (pre ++ cellF c) (at_ + longF c) (fun d hd => hl d (by simp [hd])) (by rw [hb]; simp [bodyF]) (by simp [ha, cellF_length]) (by simp only [longsF] at he; omega)
    rw [List.length_cons, cellsP, e1]
    show (cellsP b end_ (at_ + longF c) r.length).map (c :: ·) = _
    rw [e2]; rfl
/-- What Encode writes is read. -/
theorem parse_laid {kind : Int} {l : List PC} {P : Nat} (hP : P ≤ 65536) (hk : isKindB kind = true) (h : encE kind l P = 0) : parseF (laidF kind l P) = some l ∧ kindF (laidF kind l P) = kind := by
  obtain ⟨h1, h2⟩ := encE_zero.1 h
  have hok : ∀ c ∈ l, OkC P c := fun c hc => may_ok (scan_may h1 c hc)
  have hs := sizeF_eq l
  have hL := laidF_length (kind := kind) h2
  have hkd : kind = 2 ∨ kind = 3 := of_decide_eq_true hk
  have hB : laidF kind l P = (UInt8.ofNat kind.toNat :: 1 :: (fixedF l.length 2 ++ (slotsF (atF l P) l ++ (List.replicate (P - 4 - longsF l - 4 - 2 * l.length) 0 ++ bodyF l)))) ++ fixedF (sumF (preF kind l P)) 4 := by
    unfold laidF
    congr 1
  constructor
  · have e1 : numAt (laidF kind l P) 2 2 = l.length := by
      refine numAt_mid (pre := [UInt8.ofNat kind.toNat, 1]) (rest := (slotsF (atF l P) l ++ (List.replicate (P - 4 - longsF l - 4 - 2 * l.length) 0 ++ bodyF l)) ++ fixedF (sumF (preF kind l P)) 4) ?_ rfl (by omega)
      rw [hB]; try simp
    unfold parseF
    rw [e1, hL, if_neg (by omega)]
    have e2 : l ≠ [] → firstP (laidF kind l P) l.length (P - 4) = atF l P := by
      intro hne
      cases l with
      | nil => exact absurd rfl hne
      | cons c r =>
        unfold firstP
        rw [if_pos (by simp)]
        refine numAt_mid (pre := headF kind (c :: r).length) (rest := slotsF (atF (c :: r) P + longF c) r ++ (List.replicate (P - 4 - longsF (c :: r) - 4 - 2 * (c :: r).length) 0 ++ bodyF (c :: r)) ++ fixedF (sumF (preF kind (c :: r) P)) 4) ?_ (headF_length _ _) (by unfold atF; omega)
        rw [hB]; try simp [headF, slotsF]
    by_cases hne : l = []
    · subst hne; rfl
    · rw [e2 hne]
      refine cellsP_mid (P := P) (rest := fixedF (sumF (preF kind l P)) 4) hP l (headF kind l.length ++ (slotsF (atF l P) l ++ List.replicate (P - 4 - longsF l - 4 - 2 * l.length) 0)) (atF l P) hok ?_ ?_ ?_
      · rw [hB]; try simp [headF]
      · simp only [List.length_append, headF_length, slotsF_length, List.length_replicate]; unfold atF; omega
      · unfold atF; omega
  · unfold kindF
    rw [hB]
    simp only [List.cons_append, List.getD_cons_zero, UInt8.toNat_ofNat']
    omega
end Go.Proofs.Ytgnhakgfgdelpaa

-- Powers of two from 512 to 65536.
namespace Go.Proofs.Ytgnhakgfgdelpaa
open Go.RowKit
def isPow (p : Int) : Prop := p = 512 ∨ p = 1024 ∨ p = 2048 ∨ p = 4096 ∨ p = 8192 ∨ p = 16384 ∨ p = 32768 ∨ p = 65536
instance (p : Int) : Decidable (isPow p) := by unfold isPow; infer_instance
def isPowB (p : Int) : Bool := decide (isPow p)
theorem and_pred (k p : Nat) (h1 : 2 ^ k ≤ p) (h2 : p < 2 ^ (k + 1)) : p &&& (p - 1) = 0 ↔ p = 2 ^ k := by
  constructor
  · intro h
    rcases Nat.lt_or_ge (2 ^ k) p with hlt | hge
    · have h3 : p.testBit k = true := by
        have := Nat.testBit_two_pow_add_eq (p - 2 ^ k) k
        rw [show 2 ^ k + (p - 2 ^ k) = p by omega] at this
        rw [this, Nat.testBit_lt_two_pow (by rw [Nat.pow_succ] at h2; omega)]; rfl
      have h4 : (p - 1).testBit k = true := by
        have := Nat.testBit_two_pow_add_eq (p - 1 - 2 ^ k) k
        rw [show 2 ^ k + (p - 1 - 2 ^ k) = p - 1 by omega] at this
        rw [this, Nat.testBit_lt_two_pow (by rw [Nat.pow_succ] at h2; omega)]; rfl
      have h5 := congrArg (fun x => Nat.testBit x k) h
      simp [Nat.testBit_and, h3, h4] at h5
    · omega
  · rintro rfl
    apply Nat.eq_of_testBit_eq
    intro i
    rw [Nat.testBit_and, Nat.testBit_two_pow, Nat.testBit_two_pow_sub_one]
    by_cases h : k = i
    · subst h; simp
    · simp [h]
theorem i64_and_nat (a b : Nat) (ha : a < 9223372036854775808) (hb : b < 9223372036854775808) : bits .and .i64 (a : Int) (b : Int) = ((a &&& b : Nat) : Int) := by
  have oi : ∀ a : Nat, a < 9223372036854775808 → (BitVec.ofInt 64 (a : Int)).toNat = a := fun a ha => by
    rw [BitVec.ofInt_natCast, BitVec.toNat_ofNat]; exact Nat.mod_eq_of_lt (by omega)
  have hx : a &&& b < 2 ^ 63 := Nat.and_lt_two_pow _ (by omega)
  show IntKind.i64.wrap ((BitVec.ofInt 64 (a : Int) &&& BitVec.ofInt 64 (b : Int)).toNat : Int) = _
  rw [BitVec.toNat_and, oi a ha, oi b hb, IntKind.wrap_i64]
  omega
theorem pow_test (p : Int) (h1 : 512 ≤ p) (h2 : p ≤ 65536) : (bits .and .i64 p (p - 1) != 0) = !isPowB p := by
  obtain ⟨n, rfl⟩ := Int.eq_ofNat_of_zero_le (show 0 ≤ p by omega)
  have e : ((n : Int) - 1) = ((n - 1 : Nat) : Int) := by omega
  rw [e, i64_and_nat n (n - 1) (by omega) (by omega)]
  have key : n &&& (n - 1) = 0 ↔ isPow n := by
    unfold isPow
    rcases Nat.lt_or_ge n 1024 with h | h
    · rw [and_pred 9 n (by omega) (by omega)]; omega
    rcases Nat.lt_or_ge n 2048 with h | h
    · rw [and_pred 10 n (by omega) (by omega)]; omega
    rcases Nat.lt_or_ge n 4096 with h | h
    · rw [and_pred 11 n (by omega) (by omega)]; omega
    rcases Nat.lt_or_ge n 8192 with h | h
    · rw [and_pred 12 n (by omega) (by omega)]; omega
    rcases Nat.lt_or_ge n 16384 with h | h
    · rw [and_pred 13 n (by omega) (by omega)]; omega
    rcases Nat.lt_or_ge n 32768 with h | h
    · rw [and_pred 14 n (by omega) (by omega)]; omega
    rcases Nat.lt_or_ge n 65536 with h | h
    · rw [and_pred 15 n (by omega) (by omega)]; omega
    · rw [and_pred 16 n (by omega) (by omega)]; omega
  unfold isPowB
  by_cases h : isPow n
  · rw [key.2 h]; simp [h]
  · have : n &&& (n - 1) ≠ 0 := fun h' => h (key.1 h')
    simp only [h, decide_false, Bool.not_false, bne_iff_ne]; omega
theorem isPowB_range {p : Int} (h : isPowB p = true) : 512 ≤ p ∧ p ≤ 65536 := by
  have := of_decide_eq_true h
  unfold isPow at this
  omega
theorem pow_eq (p : Int) (h1 : 512 ≤ p) (h2 : p ≤ 65536) : (bits .and .i64 p (p - 1) == 0) = isPowB p := by
  have h := pow_test p h1 h2
  have e : (bits .and .i64 p (p - 1) != 0) = !(bits .and .i64 p (p - 1) == 0) := rfl
  rw [e] at h
  simpa using h
theorem isPowB_out {p : Int} (h : p < 512 ∨ 65536 < p) : isPowB p = false := by
  cases e : isPowB p
  · rfl
  · have := isPowB_range e
    omega
end Go.Proofs.Ytgnhakgfgdelpaa
