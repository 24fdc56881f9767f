/- The check sum in plain numbers: bit by bit; four bits at a time by a table; that it is linear and loses nothing. -/
import Derived.Laws.BitsAllLaws
namespace Go.Proofs.Ytgnhakgfgdelpaa

def crcBit (r : Nat) : Nat := if r % 2 = 1 then (r / 2) ^^^ 2197175160 else r / 2
def crcN : Nat → Nat → Nat
  | 0, r => r
  | k + 1, r => crcN k (crcBit r)
def crcByte (r : Nat) (x : UInt8) : Nat := crcN 8 (r ^^^ x.toNat)
def crcF (r : Nat) (l : List UInt8) : Nat := l.foldl crcByte r
def sumF (l : List UInt8) : Nat := crcF 4294967295 l ^^^ 4294967295

def halfTab : List Nat := [0x00000000, 0x105ec76f, 0x20bd8ede, 0x30e349b1, 0x417b1dbc, 0x5125dad3, 0x61c69362, 0x7198540d, 0x82f63b78, 0x92a8fc17, 0xa24bb5a6, 0xb21572c9, 0xc38d26c4, 0xd3d3e1ab, 0xe330a81a, 0xf36e6f75]
def halfF (r : Nat) : Nat := halfTab.getD (r % 16) 0

theorem xor_div2 (a b : Nat) : (a ^^^ b) / 2 = a / 2 ^^^ b / 2 := by
  apply Nat.eq_of_testBit_eq; intro i; simp [Nat.testBit_div_two, Nat.testBit_xor]
theorem xor_mod2 (a b : Nat) : (a ^^^ b) % 2 = (a + b) % 2 := by
  have h := Nat.testBit_xor a b 0
  simp only [Nat.testBit_zero] at h
  have ha : a % 2 = 0 ∨ a % 2 = 1 := by omega
  have hb : b % 2 = 0 ∨ b % 2 = 1 := by omega
  have hc : (a ^^^ b) % 2 = 0 ∨ (a ^^^ b) % 2 = 1 := by omega
  rcases ha with ha | ha <;> rcases hb with hb | hb <;> rcases hc with hc | hc <;> simp [ha, hb, hc] at h <;> omega
theorem crcBit_eq (r : Nat) : crcBit r = r / 2 ^^^ (if r % 2 = 1 then 2197175160 else 0) := by
  unfold crcBit; split <;> simp
theorem crcBit_xor (a b : Nat) : crcBit (a ^^^ b) = crcBit a ^^^ crcBit b := by
  rw [crcBit_eq, crcBit_eq, crcBit_eq, xor_div2, xor_mod2]
  have ha : a % 2 = 0 ∨ a % 2 = 1 := by omega
  have hb : b % 2 = 0 ∨ b % 2 = 1 := by omega
  rcases ha with ha | ha <;> rcases hb with hb | hb
  · rw [if_neg (by omega), if_neg (by omega), if_neg (by omega)]; simp
  · rw [if_pos (by omega), if_neg (by omega), if_pos (by omega)]; simp [Nat.xor_assoc]
  · rw [if_pos (by omega), if_pos (by omega), if_neg (by omega)]
    simp only [Nat.xor_zero]
    rw [Nat.xor_assoc, Nat.xor_assoc, Nat.xor_comm (b / 2)]
  · rw [if_neg (by omega), if_pos (by omega), if_pos (by omega)]
    simp only [Nat.xor_zero]
    rw [Nat.xor_assoc, Nat.xor_comm 2197175160, Nat.xor_assoc, Nat.xor_self, Nat.xor_zero]
theorem crcN_xor (k a b : Nat) : crcN k (a ^^^ b) = crcN k a ^^^ crcN k b := by
  induction k generalizing a b with
  | zero => rfl
  | succ k ih => simp only [crcN, crcBit_xor, ih]
theorem crcN_add (j k r : Nat) : crcN (j + k) r = crcN k (crcN j r) := by
  induction j generalizing r with
  | zero => simp [crcN]
  | succ j ih => rw [Nat.succ_add]; simp only [crcN]; exact ih _
theorem crcN_shl (k q : Nat) : crcN k (2 ^ k * q) = q := by
  induction k generalizing q with
  | zero => simp [crcN]
  | succ k ih =>
    simp only [crcN]
    have e : crcBit (2 ^ (k + 1) * q) = 2 ^ k * q := by
      rw [Nat.pow_succ, Nat.mul_right_comm]
      unfold crcBit
      rw [if_neg (by omega)]; omega
    rw [e, ih]
theorem crcBit_lt (r : Nat) (h : r < 4294967296) : crcBit r < 4294967296 := by
  rw [crcBit_eq]
  refine Nat.xor_lt_two_pow (n := 32) (by omega) ?_
  split <;> omega
theorem crcN_lt (k r : Nat) (h : r < 4294967296) : crcN k r < 4294967296 := by
  induction k generalizing r with
  | zero => exact h
  | succ k ih => exact ih _ (crcBit_lt r h)
theorem xor_split (r : Nat) : r = (2 ^ 4 * (r / 16)) ^^^ (r % 16) := by
  have := nat_join 4 (2 ^ 4 * (r / 16)) (r % 16) (by omega) (by omega)
  have h2 : (2 ^ 4 * (r / 16)) ^^^ (r % 16) = (2 ^ 4 * (r / 16)) ||| (r % 16) := by
    apply Nat.eq_of_testBit_eq
    intro i
    rw [Nat.testBit_xor, Nat.testBit_or]
    by_cases hi : i < 4
    · rw [Nat.testBit_two_pow_mul]; simp [show ¬ (4 ≤ i) by omega]
    · rw [show r % 16 = r % 2 ^ 4 from rfl, Nat.testBit_mod_two_pow]; simp [hi]
  rw [h2, this]; omega
theorem half_eq (r : Nat) : halfF r ^^^ r / 16 = crcN 4 r := by
  conv => rhs; rw [xor_split r]
  rw [crcN_xor, crcN_shl, Nat.xor_comm]
  congr 1
  have h : r % 16 < 16 := by omega
  unfold halfF
  generalize r % 16 = k at h
  have : ∀ k, k < 16 → halfTab.getD k 0 = crcN 4 k := by decide +kernel
  exact this k h
theorem halfF_lt (r : Nat) : halfF r < 4294967296 := by
  have h : r % 16 < 16 := by omega
  unfold halfF
  generalize r % 16 = k at h
  have : ∀ k, k < 16 → halfTab.getD k 0 < 4294967296 := by decide +kernel
  exact this k h
/-- A byte, as the code does it. -/
theorem crcByte_eq (r : Nat) (x : UInt8) : crcByte r x = halfF (halfF (r ^^^ x.toNat) ^^^ (r ^^^ x.toNat) / 16) ^^^ (halfF (r ^^^ x.toNat) ^^^ (r ^^^ x.toNat) / 16) / 16 := by
  rw [half_eq, half_eq, ← crcN_add]; rfl
theorem crcByte_lt (r : Nat) (x : UInt8) (h : r < 4294967296) : crcByte r x < 4294967296 :=
  crcN_lt 8 _ (Nat.xor_lt_two_pow (n := 32) h (by have := x.toNat_lt; omega))
theorem crcF_lt (r : Nat) (l : List UInt8) (h : r < 4294967296) : crcF r l < 4294967296 := by
  induction l generalizing r with
  | nil => exact h
  | cons x l ih => exact ih _ (crcByte_lt r x h)
theorem sumF_lt (l : List UInt8) : sumF l < 4294967296 := Nat.xor_lt_two_pow (n := 32) (crcF_lt _ l (by omega)) (by omega)
theorem crcF_append (r : Nat) (l m : List UInt8) : crcF r (l ++ m) = crcF (crcF r l) m := by simp [crcF]
theorem crcF_snoc (r : Nat) (l : List UInt8) (x : UInt8) : crcF r (l ++ [x]) = crcByte (crcF r l) x := by simp [crcF]
/-! ### Nothing is lost -/
theorem crcBit_zero {c : Nat} (hc : c < 4294967296) (h : crcBit c = 0) : c = 0 := by
  unfold crcBit at h
  split at h
  · have : c / 2 = 2197175160 := by
      have := congrArg (· ^^^ 2197175160) h
      simpa [Nat.xor_assoc] using this
    omega
  · omega
theorem xor_eq_zero' {a b : Nat} (h : a ^^^ b = 0) : a = b := by
  have := congrArg (· ^^^ b) h
  simpa [Nat.xor_assoc] using this
theorem crcN_zero (k : Nat) {c : Nat} (hc : c < 4294967296) (h : crcN k c = 0) : c = 0 := by
  induction k generalizing c with
  | zero => exact h
  | succ k ih => exact crcBit_zero hc (ih (crcBit_lt c hc) h)
theorem crcN_inj (k : Nat) {a b : Nat} (ha : a < 4294967296) (hb : b < 4294967296) (h : crcN k a = crcN k b) : a = b := by
  have h0 : crcN k (a ^^^ b) = 0 := by rw [crcN_xor, h, Nat.xor_self]
  exact xor_eq_zero' (crcN_zero k (Nat.xor_lt_two_pow (n := 32) ha hb) h0)
theorem xor_cancel_right {a b c : Nat} (h : a ^^^ c = b ^^^ c) : a = b := by
  have := congrArg (· ^^^ c) h
  simpa [Nat.xor_assoc] using this
theorem crcF_inj (l : List UInt8) {a b : Nat} (ha : a < 4294967296) (hb : b < 4294967296) (h : crcF a l = crcF b l) : a = b := by
  induction l generalizing a b with
  | nil => exact h
  | cons x l ih =>
    have hx : x.toNat < 4294967296 := by have := x.toNat_lt; omega
    have := ih (crcByte_lt a x ha) (crcByte_lt b x hb) h
    exact xor_cancel_right (crcN_inj 8 (Nat.xor_lt_two_pow (n := 32) ha hx) (Nat.xor_lt_two_pow (n := 32) hb hx) this)
/-- A row of bytes, the first one lowest. -/
def word : List UInt8 → Nat
  | [] => 0
  | x :: l => x.toNat ^^^ (256 * word l)
theorem crcF_word (l : List UInt8) (r : Nat) : crcF r l = crcN (8 * l.length) (r ^^^ word l) := by
  induction l generalizing r with
  | nil => simp [crcF, word, crcN]
  | cons x l ih =>
    have e : crcF r (x :: l) = crcF (crcByte r x) l := rfl
    rw [e, ih, List.length_cons, Nat.mul_add, Nat.mul_one, Nat.add_comm, crcN_add]
    congr 1
    unfold crcByte
    rw [word, ← Nat.xor_assoc, crcN_xor 8 (r ^^^ x.toNat)]
    congr 1
    exact (crcN_shl 8 (word l)).symm
end Go.Proofs.Ytgnhakgfgdelpaa
