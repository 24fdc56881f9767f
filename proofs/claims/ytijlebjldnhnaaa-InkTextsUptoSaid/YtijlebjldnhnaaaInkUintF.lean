/- Uint and ReadUint: plain laws, no program. -/
import Derived.Test.YtijlebjldnhnaaaCrc
namespace Go.Proofs.Ytijlebjldnhnaaa
def uintF (n : Nat) : List UInt8 := if n < 128 then [UInt8.ofNat n] else UInt8.ofNat (128 + n % 128) :: uintF (n / 128)
theorem uintF_lt {n : Nat} (h : n < 128) : uintF n = [UInt8.ofNat n] := by rw [uintF, if_pos h]
theorem uintF_ge {n : Nat} (h : ¬ n < 128) : uintF n = UInt8.ofNat (128 + n % 128) :: uintF (n / 128) := by rw [uintF, if_neg h]
theorem uintF_pos (n : Nat) : 1 ≤ (uintF n).length := by
  rw [uintF]; split <;> simp
/-- Of what a number below 128 ^ k is written as. -/
theorem uintF_len : ∀ (k n : Nat), n < 128 ^ (k + 1) → (uintF n).length ≤ k + 1
  | 0, n, h => by rw [uintF_lt (by simpa using h)]; simp
  | k + 1, n, h => by
    by_cases h1 : n < 128
    · rw [uintF_lt h1]; simp
    · rw [uintF_ge h1]
      have : n / 128 < 128 ^ (k + 1) := by
        rw [Nat.div_lt_iff_lt_mul (by omega)]
        rw [Nat.pow_succ] at h; omega
      have := uintF_len k _ this
      simp; omega
theorem uintF_le10 {n : Nat} (h : n < 18446744073709551616) : (uintF n).length ≤ 10 := uintF_len 9 n (Nat.lt_of_lt_of_le h (by decide))
/-- The result of a reading: the number, the bytes taken, the code. -/
def ruF : Nat → Nat → List UInt8 → Nat × Nat × Int
  | _, _, [] => (0, 0, 10)
  | i, n, x :: r =>
    if i = 9 ∧ 1 < x.toNat then (0, 0, 12)
    else if x.toNat = 0 ∧ 0 < i then (0, 0, 11)
    else if x.toNat < 128 then (n + x.toNat % 128 * 128 ^ i, i + 1, 0)
    else ruF (i + 1) (n + x.toNat % 128 * 128 ^ i) r
theorem pow128_le {i : Nat} (h : 128 ^ i < 18446744073709551616) : i ≤ 9 := by
  rcases Nat.lt_or_ge 9 i with h1 | h1
  · have : 128 ^ 10 ≤ 128 ^ i := Nat.pow_le_pow_right (by omega) h1
    have h2 : 128 ^ 10 = 1180591620717411303424 := by decide
    omega
  · exact h1
/-- What was written is read. -/
theorem ruF_uintF : ∀ (i n acc : Nat) (rest : List UInt8), n * 128 ^ i < 18446744073709551616 → (i = 0 ∨ 0 < n) → i ≤ 9 → ruF i acc (uintF n ++ rest) = (acc + n * 128 ^ i, i + (uintF n).length, 0) := by
  intro i n
  induction n using Nat.strongRecOn generalizing i with
  | ind n ih =>
    intro acc rest hb hn hi
    by_cases h : n < 128
    · rw [uintF_lt h]
      have ht : (UInt8.ofNat n).toNat = n := by simp; omega
      have h9 : ¬ (i = 9 ∧ 1 < n) := by
        rintro ⟨rfl, h1⟩
        have : (128 : Nat) ^ 9 = 9223372036854775808 := by decide
        rw [this] at hb; omega
      have h0 : ¬ (n = 0 ∧ 0 < i) := by omega
      simp only [List.cons_append, List.nil_append, ruF, ht, h9, h0, if_false, h, if_true, Nat.mod_eq_of_lt h, List.length_singleton]
    · rw [uintF_ge h]
      have ht : (UInt8.ofNat (128 + n % 128)).toNat = 128 + n % 128 := by simp; omega
      have hp : (128 : Nat) ^ (i + 1) = 128 ^ i * 128 := Nat.pow_succ ..
      have hdiv : n = 128 * (n / 128) + n % 128 := (Nat.div_add_mod n 128).symm
      have hle : n / 128 * 128 ^ (i + 1) ≤ n * 128 ^ i := by
        rw [hp, ← Nat.mul_assoc, Nat.mul_right_comm]
        exact Nat.mul_le_mul_right _ (by omega)
      have hq : 1 ≤ n / 128 := by omega
      have hi1 : i + 1 ≤ 9 := by
        apply pow128_le
        have : 128 ^ (i + 1) ≤ n / 128 * 128 ^ (i + 1) := Nat.le_mul_of_pos_left _ hq
        omega
      have h9 : ¬ (i = 9 ∧ 1 < 128 + n % 128) := by omega
      have h0 : ¬ (128 + n % 128 = 0 ∧ 0 < i) := by omega
      have h2 : ¬ (128 + n % 128 < 128) := by omega
      simp only [List.cons_append, ruF, ht, h9, h0, if_false, h2]
      rw [ih (n / 128) (by omega) (i + 1) _ rest (by omega) (.inr hq) hi1]
      have hm : (128 + n % 128) % 128 = n % 128 := by omega
      rw [hm, List.length_cons]
      have e : acc + n % 128 * 128 ^ i + n / 128 * 128 ^ (i + 1) = acc + n * 128 ^ i := by
        rw [hp, Nat.add_assoc, ← Nat.mul_assoc, Nat.mul_right_comm, ← Nat.add_mul]
        congr 2; omega
      rw [e]
      congr 2; omega
/-- A byte fewer is too short. -/
theorem ruF_short : ∀ (i n acc : Nat), n * 128 ^ i < 18446744073709551616 → i ≤ 9 → ruF i acc (uintF n).dropLast = (0, 0, 10) := by
  intro i n
  induction n using Nat.strongRecOn generalizing i with
  | ind n ih =>
    intro acc hb hi
    by_cases h : n < 128
    · rw [uintF_lt h]; rfl
    · rw [uintF_ge h]
      have ht : (UInt8.ofNat (128 + n % 128)).toNat = 128 + n % 128 := by simp; omega
      have hp : (128 : Nat) ^ (i + 1) = 128 ^ i * 128 := Nat.pow_succ ..
      have hle : n / 128 * 128 ^ (i + 1) ≤ n * 128 ^ i := by
        rw [hp, ← Nat.mul_assoc, Nat.mul_right_comm]
        exact Nat.mul_le_mul_right _ (by omega)
      have hq : 1 ≤ n / 128 := by omega
      have hi1 : i + 1 ≤ 9 := by
        apply pow128_le
        have : 128 ^ (i + 1) ≤ n / 128 * 128 ^ (i + 1) := Nat.le_mul_of_pos_left _ hq
        omega
      have hne : uintF (n / 128) ≠ [] := fun e => by have := uintF_pos (n / 128); rw [e] at this; simp at this
      rw [List.dropLast_cons_of_ne_nil hne]
      have h9 : ¬ (i = 9 ∧ 1 < 128 + n % 128) := by omega
      have h0 : ¬ (128 + n % 128 = 0 ∧ 0 < i) := by omega
      have h2 : ¬ (128 + n % 128 < 128) := by omega
      simp only [ruF, ht, h9, h0, if_false, h2]
      exact ih (n / 128) (by omega) (i + 1) _ (by omega) hi1
theorem tail9 (y m : Nat) (h1 : y ≤ 127) (h2 : m * 9223372036854775808 < 18446744073709551616) : y * 72057594037927936 + m * 9223372036854775808 < 18446744073709551616 := by
  have hm : m < 2 := Nat.lt_of_mul_lt_mul_right (a := 9223372036854775808) (Nat.lt_of_lt_of_eq h2 (by decide))
  have h3 : y * 72057594037927936 ≤ 127 * 72057594037927936 := Nat.mul_le_mul_right _ h1
  have h4 : m * 9223372036854775808 ≤ 1 * 9223372036854775808 := Nat.mul_le_mul_right _ (by omega)
  exact Nat.lt_of_le_of_lt (Nat.add_le_add h3 h4) (by decide)
/-- What is read is written so. -/
theorem ruF_one : ∀ (b : List UInt8) (i acc N K : Nat), i ≤ 9 → ruF i acc b = (N, K, 0) → i < K ∧ K ≤ i + b.length ∧ ∃ m, N = acc + m * 128 ^ i ∧ uintF m = b.take (K - i) ∧ (i = 0 ∨ 0 < m) ∧ m * 128 ^ i < 18446744073709551616
  | [], i, acc, N, K, _, h => by simp [ruF] at h
  | x :: r, i, acc, N, K, hi, h => by
    have hx := x.toNat_lt
    have hp9 : (128 : Nat) ^ 9 = 9223372036854775808 := by decide
    unfold ruF at h
    split at h
    · simp at h
    rename_i h9
    split at h
    · simp at h
    rename_i h0
    split at h
    · rename_i h1
      simp only [Prod.mk.injEq] at h
      obtain ⟨rfl, rfl, _⟩ := h
      refine ⟨by omega, by simp, x.toNat, ?_, ?_, by omega, ?_⟩
      · rw [Nat.mod_eq_of_lt h1]
      · rw [uintF_lt h1, Nat.add_sub_cancel_left]; simp
      · rcases Nat.lt_or_ge i 9 with hl | hg
        · have : 128 ^ i ≤ 128 ^ 8 := Nat.pow_le_pow_right (by omega) (by omega)
          have h8 : (128 : Nat) ^ 8 = 72057594037927936 := by decide
          have : x.toNat * 128 ^ i ≤ 127 * 72057594037927936 := Nat.mul_le_mul (by omega) (by omega)
          omega
        · obtain rfl : i = 9 := by omega
          have : x.toNat ≤ 1 := by omega
          rw [hp9]; omega
    · rename_i h1
      have hi8 : i ≠ 9 := by omega
      obtain ⟨k1, k2, m, k3, k4, k5, k6⟩ := ruF_one r (i + 1) _ N K (by omega) h
      have hm : 0 < m := by omega
      have hp : (128 : Nat) ^ (i + 1) = 128 ^ i * 128 := Nat.pow_succ ..
      have hv : (x.toNat % 128 + 128 * m) * 128 ^ i = x.toNat % 128 * 128 ^ i + m * 128 ^ (i + 1) := by
        rw [Nat.add_mul, hp, ← Nat.mul_assoc, Nat.mul_right_comm m, Nat.mul_comm 128 m]
      refine ⟨by omega, by simp; omega, x.toNat % 128 + 128 * m, ?_, ?_, by omega, ?_⟩
      · rw [k3, hv]; omega
      · have hge : ¬ (x.toNat % 128 + 128 * m < 128) := by omega
        have e1 : (x.toNat % 128 + 128 * m) % 128 = x.toNat % 128 := by omega
        have e2 : (x.toNat % 128 + 128 * m) / 128 = m := by omega
        have e3 : UInt8.ofNat (128 + x.toNat % 128) = x := by
          apply UInt8.toNat_inj.mp; simp; omega
        rw [uintF_ge hge, e1, e2, e3, k4]
        have : K - i = (K - (i + 1)) + 1 := by omega
        rw [this, List.take_succ_cons]
      · rw [hv]
        have hpos : 0 < 128 ^ i := Nat.pow_pos (by omega)
        -- m * 128^(i+1) < 2^64 and both parts are multiples of 128^i
        have hlt : m * 128 ^ (i + 1) < 18446744073709551616 := k6
        rcases Nat.lt_or_ge (i + 1) 9 with hl | hg
        · -- 128^(i+1) divides 2^63
          have hq : 18446744073709551616 = 128 ^ (i + 1) * (2 * 128 ^ (8 - i)) := by
            rw [← Nat.mul_assoc, Nat.mul_comm (128 ^ (i + 1)) 2, Nat.mul_assoc, ← Nat.pow_add, show i + 1 + (8 - i) = 9 by omega, hp9]
          have hx2 : x.toNat % 128 * 128 ^ i < 128 ^ (i + 1) := by
            rw [hp, Nat.mul_comm]; exact Nat.mul_lt_mul_of_pos_left (by omega) hpos
          have : m < 2 * 128 ^ (8 - i) := by
            rw [hq, Nat.mul_comm m] at hlt
            exact Nat.lt_of_mul_lt_mul_left hlt
          have : (m + 1) * 128 ^ (i + 1) ≤ 18446744073709551616 := by
            rw [hq, Nat.mul_comm]
            exact Nat.mul_le_mul_left _ this
          rw [Nat.add_mul] at this
          omega
        · obtain rfl : i = 8 := by omega
          have h8 : (128 : Nat) ^ 8 = 72057594037927936 := by decide
          have e9 : (128 : Nat) ^ (8 + 1) = 9223372036854775808 := hp9
          rw [e9] at hlt ⊢
          have : m ≤ 1 := by omega
          rw [h8]
          have hy : x.toNat % 128 ≤ 127 := by omega
          exact tail9 _ _ hy hlt
end Go.Proofs.Ytijlebjldnhnaaa
