/- Powers of two from 512 to 65536. -/
import Derived.Test.YtgnhakgfgdelpaaMem
namespace Go.Proofs.Ytgnhakgfgdelpaa
open Go.RowKit
def isPow (p : Int) : Prop := p = 512 ∨ p = 1024 ∨ p = 2048 ∨ p = 4096 ∨ p = 8192 ∨ p = 16384 ∨ p = 32768 ∨ p = 65536
instance (p : Int) : Decidable (isPow p) := by unfold isPow; infer_instance
def isPowB (p : Int) : Bool := decide (isPow p)
theorem and_pred (k p : Nat) (h1 : 2 ^ k ≤ p) (h2 : p < 2 ^ (k + 1)) : p &&& (p - 1) = 0 ↔ p = 2 ^ k := by
  constructor
  · intro h
    rcases Nat.lt_or_ge (2 ^ k) p with hlt | hge
    · have h3 : p.testBit k = true := by
        have := Nat.testBit_two_pow_add_eq (p - 2 ^ k) k
        rw [show 2 ^ k + (p - 2 ^ k) = p by omega] at this
        rw [this, Nat.testBit_lt_two_pow (by rw [Nat.pow_succ] at h2; omega)]; rfl
      have h4 : (p - 1).testBit k = true := by
        have := Nat.testBit_two_pow_add_eq (p - 1 - 2 ^ k) k
        rw [show 2 ^ k + (p - 1 - 2 ^ k) = p - 1 by omega] at this
        rw [this, Nat.testBit_lt_two_pow (by rw [Nat.pow_succ] at h2; omega)]; rfl
      have h5 := congrArg (fun x => Nat.testBit x k) h
      simp [Nat.testBit_and, h3, h4] at h5
    · omega
  · rintro rfl
    apply Nat.eq_of_testBit_eq
    intro i
    rw [Nat.testBit_and, Nat.testBit_two_pow, Nat.testBit_two_pow_sub_one]
    by_cases h : k = i
    · subst h; simp
    · simp [h]
theorem i64_and_nat (a b : Nat) (ha : a < 9223372036854775808) (hb : b < 9223372036854775808) : bits .and .i64 (a : Int) (b : Int) = ((a &&& b : Nat) : Int) := by
  have oi : ∀ a : Nat, a < 9223372036854775808 → (BitVec.ofInt 64 (a : Int)).toNat = a := fun a ha => by
    rw [BitVec.ofInt_natCast, BitVec.toNat_ofNat]; exact Nat.mod_eq_of_lt (by omega)
  have hx : a &&& b < 2 ^ 63 := Nat.and_lt_two_pow _ (by omega)
  show IntKind.i64.wrap ((BitVec.ofInt 64 (a : Int) &&& BitVec.ofInt 64 (b : Int)).toNat : Int) = _
  rw [BitVec.toNat_and, oi a ha, oi b hb, IntKind.wrap_i64]
  omega
theorem pow_test (p : Int) (h1 : 512 ≤ p) (h2 : p ≤ 65536) : (bits .and .i64 p (p - 1) != 0) = !isPowB p := by
  obtain ⟨n, rfl⟩ := Int.eq_ofNat_of_zero_le (show 0 ≤ p by omega)
  have e : ((n : Int) - 1) = ((n - 1 : Nat) : Int) := by omega
  rw [e, i64_and_nat n (n - 1) (by omega) (by omega)]
  have key : n &&& (n - 1) = 0 ↔ isPow n := by
    unfold isPow
    rcases Nat.lt_or_ge n 1024 with h | h
    · rw [and_pred 9 n (by omega) (by omega)]; omega
    rcases Nat.lt_or_ge n 2048 with h | h
    · rw [and_pred 10 n (by omega) (by omega)]; omega
    rcases Nat.lt_or_ge n 4096 with h | h
    · rw [and_pred 11 n (by omega) (by omega)]; omega
    rcases Nat.lt_or_ge n 8192 with h | h
    · rw [and_pred 12 n (by omega) (by omega)]; omega
    rcases Nat.lt_or_ge n 16384 with h | h
    · rw [and_pred 13 n (by omega) (by omega)]; omega
    rcases Nat.lt_or_ge n 32768 with h | h
    · rw [and_pred 14 n (by omega) (by omega)]; omega
    rcases Nat.lt_or_ge n 65536 with h | h
    · rw [and_pred 15 n (by omega) (by omega)]; omega
    · rw [and_pred 16 n (by omega) (by omega)]; omega
  unfold isPowB
  by_cases h : isPow n
  · rw [key.2 h]; simp [h]
  · have : n &&& (n - 1) ≠ 0 := fun h' => h (key.1 h')
    simp only [h, decide_false, Bool.not_false, bne_iff_ne]; omega
theorem isPowB_range {p : Int} (h : isPowB p = true) : 512 ≤ p ∧ p ≤ 65536 := by
  have := of_decide_eq_true h
  unfold isPow at this
  omega
theorem pow_eq (p : Int) (h1 : 512 ≤ p) (h2 : p ≤ 65536) : (bits .and .i64 p (p - 1) == 0) = isPowB p := by
  have h := pow_test p h1 h2
  have e : (bits .and .i64 p (p - 1) != 0) = !(bits .and .i64 p (p - 1) == 0) := rfl
  rw [e] at h
  simpa using h
theorem isPowB_out {p : Int} (h : p < 512 ∨ 65536 < p) : isPowB p = false := by
  cases e : isPowB p
  · rfl
  · have := isPowB_range e
    omega
end Go.Proofs.Ytgnhakgfgdelpaa
