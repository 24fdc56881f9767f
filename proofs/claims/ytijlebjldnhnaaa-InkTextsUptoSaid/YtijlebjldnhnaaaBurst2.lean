/- Bits turned within 32 neighbouring places, over five bytes: the sum is another. -/
import Derived.Test.YtijlebjldnhnaaaBurst
namespace Go.Proofs.Ytijlebjldnhnaaa
/-- A number's lowest n bytes, the lowest first. -/
def leF : Nat → Nat → List UInt8
  | 0, _ => []
  | n + 1, W => UInt8.ofNat (W % 256) :: leF n (W / 256)
theorem leF_length : ∀ (n W : Nat), (leF n W).length = n
  | 0, _ => rfl
  | n + 1, W => by simp [leF, leF_length n]
theorem leF_snoc : ∀ (n W : Nat), leF (n + 1) W = leF n W ++ [UInt8.ofNat (W / 256 ^ n % 256)]
  | 0, W => by simp [leF]
  | n + 1, W => by
    have h := leF_snoc n (W / 256)
    rw [leF, h, leF]
    rw [Nat.div_div_eq_div_mul, ← Nat.pow_succ']
    rfl
theorem word_leF : ∀ (n W : Nat), word (leF n W) = W % 256 ^ n
  | 0, W => by simp [leF, word, Nat.mod_one]
  | n + 1, W => by
    obtain ⟨h1, h2⟩ := word_cons (UInt8.ofNat (W % 256)) (leF n (W / 256))
    rw [word_leF n] at h2
    have h3 : (UInt8.ofNat (W % 256)).toNat = W % 256 := by simp
    rw [h3] at h1
    show word (UInt8.ofNat (W % 256) :: leF n (W / 256)) = _
    have h4 := Nat.div_add_mod (word (UInt8.ofNat (W % 256) :: leF n (W / 256))) 256
    rw [h1, h2] at h4
    rw [← h4, Nat.pow_succ', Nat.mod_mul]
    omega
theorem word_xorL : ∀ (s t : List UInt8), s.length = t.length → word (xorL s t) = word s ^^^ word t
  | [], [], _ => by simp [xorL, word]
  | x :: s, y :: t, h => by
    have ih := word_xorL s t (by simpa using h)
    have e : xorL (x :: s) (y :: t) = (x ^^^ y) :: xorL s t := rfl
    rw [e]
    show (x ^^^ y).toNat ^^^ (256 * word (xorL s t)) = (x.toNat ^^^ (256 * word s)) ^^^ (y.toNat ^^^ (256 * word t))
    rw [ih, UInt8.toNat_xor]
    have hm : 256 * (word s ^^^ word t) = 256 * word s ^^^ 256 * word t := by
      rw [show (256 : Nat) = 2 ^ 8 from rfl, Nat.mul_comm, Nat.mul_comm (2 ^ 8) (word s), Nat.mul_comm (2 ^ 8) (word t), ← Nat.shiftLeft_eq, ← Nat.shiftLeft_eq, ← Nat.shiftLeft_eq, Nat.shiftLeft_xor_distrib]
    rw [hm]
    ac_rfl
theorem crcF_xor (r : Nat) (s t : List UInt8) (h : s.length = t.length) : crcF r (xorL s t) = crcF r s ^^^ crcN (8 * t.length) (word t) := by
  rw [crcF_word, crcF_word, word_xorL s t h, xorL_length s t h, h, ← Nat.xor_assoc, crcN_xor]
/-- The turning bits do not vanish. -/
theorem crc_mask (k s m : Nat) (hs : s ≤ k) (hm : m < 4294967296) (h : crcN k (2 ^ s * m) = 0) : m = 0 := by
  have e : k = s + (k - s) := by omega
  rw [e, crcN_add, crcN_shl] at h
  exact crcN_zero _ hm h
theorem sumF_mask (b : List UInt8) (p n s m : Nat) (hn : n ≤ 5) (h : p + n ≤ b.length) (hs : s < 8) (hm : m < 4294967296) (h5 : n = 5 → 0 < m) (hz : anyNZ (leF n (2 ^ s * m)) = true) :
    sumF (turnF b p (leF n (2 ^ s * m))) ≠ sumF b := by
  intro he
  have hl := leF_length n (2 ^ s * m)
  by_cases h4 : n ≤ 4
  · exact anyNZ_true hz (sumF_turn b p _ (by omega) (by omega) he)
  · obtain rfl : n = 5 := by omega
    have hsl : ((b.drop p).take 5).length = (leF 5 (2 ^ s * m)).length := by rw [hl]; simp; omega
    have e : sumF (turnF b p (leF 5 (2 ^ s * m))) = sumF (b.take p ++ (b.drop p).take 5 ++ b.drop (p + 5)) := by rw [← split3]; exact he
    unfold turnF at e
    rw [hl] at e
    unfold sumF at e
    have e := xor_cancel_right e
    rw [crcF_append, crcF_append, crcF_append, crcF_append] at e
    have ha := crcF_lt 4294967295 (b.take p) (by omega)
    have e := crcF_inj _ (crcF_lt _ _ ha) (crcF_lt _ _ ha) e
    rw [crcF_xor _ _ _ hsl, hl, word_leF] at e
    have hW : 2 ^ s * m < 256 ^ 5 := by
      have h1 : 2 ^ s ≤ 2 ^ 7 := Nat.pow_le_pow_right (by omega) (by omega)
      have h2 : 2 ^ s * m ≤ 128 * 4294967295 := Nat.mul_le_mul h1 (by omega)
      exact Nat.lt_of_le_of_lt h2 (by decide)
    rw [Nat.mod_eq_of_lt hW] at e
    have e0 : crcN 40 (2 ^ s * m) = 0 := by
      have := congrArg (fun x => crcF (crcF 4294967295 (b.take p)) ((b.drop p).take 5) ^^^ x) e
      simp only [← Nat.xor_assoc, Nat.xor_self, Nat.zero_xor] at this
      exact this
    have := crc_mask 40 s m (by omega) hm e0
    have := h5 rfl
    omega
end Go.Proofs.Ytijlebjldnhnaaa
