/- What was written is read, wherever it stands; a byte fewer is too short. -/
import Derived.Test.YtijlebjldnhnaaaLawOrder
import Derived.Test.YtijlebjldnhnaaaLawWrites
namespace Go.Proofs.Ytijlebjldnhnaaa
open Go.RowKit
theorem numF_fixedF_mod (n k : Nat) : numF (fixedF n k) = n % 256 ^ k := by
  induction k generalizing n with
  | zero => simp [fixedF, numF, Nat.mod_one]
  | succ k ih =>
    rw [fixedF, numF_snoc, ih, UInt8.toNat_ofNat', show (256 : Nat) ^ (k + 1) = 256 * 256 ^ k by rw [Nat.pow_succ, Nat.mul_comm], Nat.mod_mul]
    omega
theorem rf_back (A R : List UInt8) (n k : Nat) (h1 : 1 ≤ k) (h8 : k ≤ 8) : rfV ((A ++ fixedF n k) ++ R) (A.length : Int) (k : Int) = (n % 256 ^ k, 0) := by
  have hl := fixedF_length n k
  unfold rfV
  rw [if_neg (by simp; omega), if_neg (by simp; omega), Int.toNat_natCast, Int.toNat_natCast, List.append_assoc, List.drop_left, List.take_left' hl, numF_fixedF_mod]
theorem rf_short (A : List UInt8) (n k : Nat) (h1 : 1 ≤ k) (h8 : k ≤ 8) : rfV (A ++ (fixedF n k).dropLast) (A.length : Int) (k : Int) = (0, 10) := by
  have hl := fixedF_length n k
  unfold rfV
  rw [if_neg (by simp; omega), if_pos (by simp; omega)]
theorem ru_back (B R : List UInt8) (n : Nat) (hn : n < 18446744073709551616) : ruV ((B ++ uintF n) ++ R) (B.length : Int) = (n, ((B ++ uintF n).length : Int), 0) := by
  unfold ruV
  rw [if_neg (by simp; omega), Int.toNat_natCast, List.append_assoc, List.drop_left, ruF_uintF 0 n 0 R (by omega) (Or.inl rfl) (by omega)]
  simp
theorem ru_short (B : List UInt8) (n : Nat) (hn : n < 18446744073709551616) : ruV (B ++ (uintF n).dropLast) (B.length : Int) = (0, 0, 10) := by
  unfold ruV
  rw [if_neg (by simp; omega), Int.toNat_natCast, List.drop_left, ruF_short 0 n 0 (by omega) (by omega)]
  rfl
theorem ro_back (C R t : List UInt8) : roV ((C ++ ordF t) ++ R) (C.length : Int) = (t, ((C ++ ordF t).length : Int), 0) := by
  unfold roV
  rw [if_neg (by simp; omega), Int.toNat_natCast, List.append_assoc, List.drop_left, roA_ordF]
  simp
theorem ro_short (C t : List UInt8) : roV (C ++ (ordF t).dropLast) (C.length : Int) = ([], 0, 10) := by
  unfold roV
  rw [if_neg (by simp; omega), Int.toNat_natCast, List.drop_left, ordF_drop, roA_short]
  rfl
theorem take_short (A B C : List UInt8) (m : Nat) (hB : 1 ≤ B.length) (hm : m + 1 = (A ++ B).length) : ((A ++ B) ++ C).take m = A ++ B.dropLast := by
  rw [List.length_append] at hm
  rw [List.append_assoc, List.take_append, List.take_of_length_le (by omega), List.take_append_of_le_length (by omega), List.dropLast_eq_take]
  rw [show m - A.length = B.length - 1 by omega]
theorem Rf_at (v : Value) (A R l : List UInt8) (n k r : Nat) (hr : r = n % 256 ^ k) (h1 : 1 ≤ k) (h8 : k ≤ 8) (at_ wd : Int) (w : World) (hv : RdB w v l) (hl : l = (A ++ fixedF n k) ++ R) (ha : at_ = (A.length : Int)) (hw : wd = (k : Int)) :
    Calls Try.prog 21 #[v, .int .i64 at_, .int .i64 wd] w fun e w' => e = .returned (.tuple #[(.int .u64 (r : Int)), .int .i64 0]) ∧ w = w' := by
  subst hr; subst hl; subst ha; subst hw
  exact (ReadFixedV v _ _ _ w hv).mono fun e w' h => by unfold RfPost at h; rw [rf_back _ _ _ _ h1 h8] at h; exact h
theorem Rf_few (v : Value) (A l : List UInt8) (n k : Nat) (h1 : 1 ≤ k) (h8 : k ≤ 8) (at_ wd : Int) (w : World) (hv : RdB w v l) (hl : l = A ++ (fixedF n k).dropLast) (ha : at_ = (A.length : Int)) (hw : wd = (k : Int)) :
    Calls Try.prog 21 #[v, .int .i64 at_, .int .i64 wd] w fun e w' => e = .returned (.tuple #[.int .u64 0, .int .i64 10]) ∧ w = w' := by
  subst hl; subst ha; subst hw
  exact (ReadFixedV v _ _ _ w hv).mono fun e w' h => by unfold RfPost at h; rw [rf_short _ _ _ h1 h8] at h; exact h
theorem Ru_at (v : Value) (B R l : List UInt8) (n en : Nat) (hn : n < 18446744073709551616) (at_ : Int) (w : World) (hv : RdB w v l) (hl : l = (B ++ uintF n) ++ R) (ha : at_ = (B.length : Int)) (he : en = (B ++ uintF n).length) :
    Calls Try.prog 23 #[v, .int .i64 at_] w fun e w' => e = .returned (.tuple #[.int .u64 (n : Int), .int .i64 (en : Int), .int .i64 0]) ∧ w = w' := by
  subst hl; subst ha; subst he
  exact (ReadUint_any v _ _ w hv).mono fun e w' h => by unfold RuPost at h; rw [ru_back _ _ _ hn] at h; exact h
theorem Ru_few (v : Value) (B l : List UInt8) (n : Nat) (hn : n < 18446744073709551616) (at_ : Int) (w : World) (hv : RdB w v l) (hl : l = B ++ (uintF n).dropLast) (ha : at_ = (B.length : Int)) :
    Calls Try.prog 23 #[v, .int .i64 at_] w fun e w' => e = .returned (.tuple #[.int .u64 0, .int .i64 0, .int .i64 10]) ∧ w = w' := by
  subst hl; subst ha
  exact (ReadUint_any v _ _ w hv).mono fun e w' h => by unfold RuPost at h; rw [ru_short _ _ hn] at h; exact h
theorem Ro_at (v : Value) (C R t l : List UInt8) (en : Nat) (at_ : Int) (w : World) (hv : RdB w v l) (hl : l = (C ++ ordF t) ++ R) (hm : l.length ≤ 140737488355327) (ha : at_ = (C.length : Int)) (he : en = (C ++ ordF t).length) :
    Calls Try.prog 25 #[v, .int .i64 at_] w fun e w' => ∃ u, e = .returned (.tuple #[u, .int .i64 (en : Int), .int .i64 0]) ∧ OwB w' w.heap.size u t ∧ Below w.heap.size w w' := by
  subst ha; subst he
  exact (ReadOrdered_any v _ _ w hv hm).mono fun e w' h => by unfold RoPost at h; subst hl; rw [ro_back] at h; exact h
theorem Ro_few (v : Value) (C t l : List UInt8) (at_ : Int) (w : World) (hv : RdB w v l) (hl : l = C ++ (ordF t).dropLast) (hm : l.length ≤ 140737488355327) (ha : at_ = (C.length : Int)) :
    Calls Try.prog 25 #[v, .int .i64 at_] w fun e w' => ∃ u, e = .returned (.tuple #[u, .int .i64 0, .int .i64 10]) ∧ Below w.heap.size w w' := by
  subst ha
  exact (ReadOrdered_any v _ _ w hv hm).mono fun e w' h => by
    unfold RoPost at h; subst hl; rw [ro_short] at h
    obtain ⟨u, he, _, hb⟩ := h
    exact ⟨u, he, hb⟩
theorem Fixed_sl (n : Nat) (hn : n < 18446744073709551616) (k : Nat) (wd : Int) (hw : wd = (k : Int)) (h1 : 1 ≤ k) (h8 : k ≤ 8) (w : World) : Calls Try.prog 14 #[.int .u64 n, .int .i64 wd] w fun e w' => ∃ A c, e = .returned (.slice A k c) ∧ OwB w' w.heap.size (.slice A k c) (fixedF n k) ∧ Below w.heap.size w w' := by
  subst hw
  exact (Fixed_any n hn k h1 h8 w).mono fun e w' ⟨he, ho, hb, _⟩ => by
    have hl := fixedF_length n k
    have := ho.owB' (base := w.heap.size) (Nat.le_refl _) (by rw [hl]; simp only [maxLen]; omega)
    rw [hl] at this
    exact ⟨_, _, he, this, hb⟩
theorem Uint_sl (n : Nat) (hn : n < 18446744073709551616) (w : World) : Calls Try.prog 15 #[.int .u64 n] w fun e w' => ∃ A c, e = .returned (.slice A (uintF n).length c) ∧ OwB w' w.heap.size (.slice A (uintF n).length c) (uintF n) ∧ Below w.heap.size w w' :=
  (Uint_any n hn w).mono fun e w' ⟨v, he, ho, hb⟩ => by
    obtain ⟨A, c, rfl⟩ := ho.sl
    exact ⟨A, c, he, ho, hb⟩
end Go.Proofs.Ytijlebjldnhnaaa
