/- Texts joined: Uint and ReadUint; ink.Uint, espalierref01.Uint; ink.common; ink.Common; Packed pages -/
import Derived.Test.YtfcnkpofcekmgaaNN1
import Derived.Test.YtfcnkpofcekmgaaNN2
import Derived.Test.YtfcnkpofcekmgaaNN3
import Derived.Laws.Entries
import Derived.Laws.Externs
import Derived.Deep.RegionHeld3
import Derived.Deep.DeepCutAuto
-- Uint and ReadUint: plain laws, no program.
namespace Go.Proofs.Ytfcnkpofcekmgaa
def uintF (n : Nat) : List UInt8 := if n < 128 then [UInt8.ofNat n] else UInt8.ofNat (128 + n % 128) :: uintF (n / 128)
theorem uintF_lt {n : Nat} (h : n < 128) : uintF n = [UInt8.ofNat n] := by rw [uintF, if_pos h]
theorem uintF_ge {n : Nat} (h : ¬ n < 128) : uintF n = UInt8.ofNat (128 + n % 128) :: uintF (n / 128) := by rw [uintF, if_neg h]
theorem uintF_pos (n : Nat) : 1 ≤ (uintF n).length := by
  rw [uintF]; split <;> simp
/-- Of what a number below 128 ^ k is written as. -/
theorem uintF_len : ∀ (k n : Nat), n < 128 ^ (k + 1) → (uintF n).length ≤ k + 1
  | 0, n, h => by rw [uintF_lt (by simpa using h)]; simp
  | k + 1, n, h => by
    by_cases h1 : n < 128
    · rw [uintF_lt h1]; simp
    · rw [uintF_ge h1]
      have : n / 128 < 128 ^ (k + 1) := by
        rw [Nat.div_lt_iff_lt_mul (by omega)]
        rw [Nat.pow_succ] at h; omega
      have := uintF_len k _ this
      simp; omega
theorem uintF_le10 {n : Nat} (h : n < 18446744073709551616) : (uintF n).length ≤ 10 := uintF_len 9 n (Nat.lt_of_lt_of_le h (by decide))
/-- The result of a reading: the number, the bytes taken, the code. -/
def ruF : Nat → Nat → List UInt8 → Nat × Nat × Int
  | _, _, [] => (0, 0, 10)
  | i, n, x :: r =>
    if i = 9 ∧ 1 < x.toNat then (0, 0, 12)
    else if x.toNat = 0 ∧ 0 < i then (0, 0, 11)
    else if x.toNat < 128 then (n + x.toNat % 128 * 128 ^ i, i + 1, 0)
    else ruF (i + 1) (n + x.toNat % 128 * 128 ^ i) r
theorem pow128_le {i : Nat} (h : 128 ^ i < 18446744073709551616) : i ≤ 9 := by
  rcases Nat.lt_or_ge 9 i with h1 | h1
  · have : 128 ^ 10 ≤ 128 ^ i := Nat.pow_le_pow_right (by omega) h1
    have h2 : 128 ^ 10 = 1180591620717411303424 := by decide
    omega
  · exact h1
/-- What was written is read. -/
theorem ruF_uintF : ∀ (i n acc : Nat) (rest : List UInt8), n * 128 ^ i < 18446744073709551616 → (i = 0 ∨ 0 < n) → i ≤ 9 → ruF i acc (uintF n ++ rest) = (acc + n * 128 ^ i, i + (uintF n).length, 0) := by
  intro i n
  induction n using Nat.strongRecOn generalizing i with
  | ind n ih =>
    intro acc rest hb hn hi
    by_cases h : n < 128
    · rw [uintF_lt h]
      have ht : (UInt8.ofNat n).toNat = n := by simp; omega
      have h9 : ¬ (i = 9 ∧ 1 < n) := by
        rintro ⟨rfl, h1⟩
        have : (128 : Nat) ^ 9 = 9223372036854775808 := by decide
        rw [this] at hb; omega
      have h0 : ¬ (n = 0 ∧ 0 < i) := by omega
      simp only [List.cons_append, List.nil_append, ruF, ht, h9, h0, if_false, h, if_true, Nat.mod_eq_of_lt h, List.length_singleton]
    · rw [uintF_ge h]
      have ht : (UInt8.ofNat (128 + n % 128)).toNat = 128 + n % 128 := by simp; omega
      have hp : (128 : Nat) ^ (i + 1) = 128 ^ i * 128 := Nat.pow_succ ..
      have hdiv : n = 128 * (n / 128) + n % 128 := (Nat.div_add_mod n 128).symm
      have hle : n / 128 * 128 ^ (i + 1) ≤ n * 128 ^ i := by
        rw [hp, ← Nat.mul_assoc, Nat.mul_right_comm]
        exact Nat.mul_le_mul_right _ (by omega)
      have hq : 1 ≤ n / 128 := by omega
      have hi1 : i + 1 ≤ 9 := by
        apply pow128_le
        have : 128 ^ (i + 1) ≤ n / 128 * 128 ^ (i + 1) := Nat.le_mul_of_pos_left _ hq
        omega
      have h9 : ¬ (i = 9 ∧ 1 < 128 + n % 128) := by omega
      have h0 : ¬ (128 + n % 128 = 0 ∧ 0 < i) := by omega
      have h2 : ¬ (128 + n % 128 < 128) := by omega
      simp only [List.cons_append, ruF, ht, h9, h0, if_false, h2]
      rw [ih (n / 128) (by omega) (i + 1) _ rest (by omega) (.inr hq) hi1]
      have hm : (128 + n % 128) % 128 = n % 128 := by omega
      rw [hm, List.length_cons]
      have e : acc + n % 128 * 128 ^ i + n / 128 * 128 ^ (i + 1) = acc + n * 128 ^ i := by
        rw [hp, Nat.add_assoc, ← Nat.mul_assoc, Nat.mul_right_comm, ← Nat.add_mul]
        congr 2; omega
      rw [e]
      congr 2; omega
/-- A byte fewer is too short. -/
theorem ruF_short : ∀ (i n acc : Nat), n * 128 ^ i < 18446744073709551616 → i ≤ 9 → ruF i acc (uintF n).dropLast = (0, 0, 10) := by
  intro i n
  induction n using Nat.strongRecOn generalizing i with
  | ind n ih =>
    intro acc hb hi
    by_cases h : n < 128
    · rw [uintF_lt h]; rfl
    · rw [uintF_ge h]
      have ht : (UInt8.ofNat (128 + n % 128)).toNat = 128 + n % 128 := by simp; omega
      have hp : (128 : Nat) ^ (i + 1) = 128 ^ i * 128 := Nat.pow_succ ..
      have hle : n / 128 * 128 ^ (i + 1) ≤ n * 128 ^ i := by
        rw [hp, ← Nat.mul_assoc, Nat.mul_right_comm]
        exact Nat.mul_le_mul_right _ (by omega)
      have hq : 1 ≤ n / 128 := by omega
      have hi1 : i + 1 ≤ 9 := by
        apply pow128_le
        have : 128 ^ (i + 1) ≤ n / 128 * 128 ^ (i + 1) := Nat.le_mul_of_pos_left _ hq
        omega
      have hne : uintF (n / 128) ≠ [] := fun e => by have := uintF_pos (n / 128); rw [e] at this; simp at this
      rw [List.dropLast_cons_of_ne_nil hne]
      have h9 : ¬ (i = 9 ∧ 1 < 128 + n % 128) := by omega
      have h0 : ¬ (128 + n % 128 = 0 ∧ 0 < i) := by omega
      have h2 : ¬ (128 + n % 128 < 128) := by omega
      simp only [ruF, ht, h9, h0, if_false, h2]
      exact ih (n / 128) (by omega) (i + 1) _ (by omega) hi1
theorem tail9 (y m : Nat) (h1 : y ≤ 127) (h2 : m * 9223372036854775808 < 18446744073709551616) : y * 72057594037927936 + m * 9223372036854775808 < 18446744073709551616 := by
  have hm : m < 2 := Nat.lt_of_mul_lt_mul_right (a := 9223372036854775808) (Nat.lt_of_lt_of_eq h2 (by decide))
  have h3 : y * 72057594037927936 ≤ 127 * 72057594037927936 := Nat.mul_le_mul_right _ h1
  have h4 : m * 9223372036854775808 ≤ 1 * 9223372036854775808 := Nat.mul_le_mul_right _ (by omega)
  exact Nat.lt_of_le_of_lt (Nat.add_le_add h3 h4) (by decide)
/-- What is read is written so. -/
theorem ruF_one : ∀ (b : List UInt8) (i acc N K : Nat), i ≤ 9 → ruF i acc b = (N, K, 0) → i < K ∧ K ≤ i + b.length ∧ ∃ m, N = acc + m * 128 ^ i ∧ uintF m = b.take (K - i) ∧ (i = 0 ∨ 0 < m) ∧ m * 128 ^ i < 18446744073709551616
  | [], i, acc, N, K, _, h => by simp [ruF] at h
  | x :: r, i, acc, N, K, hi, h => by
    have hx := x.toNat_lt
    have hp9 : (128 : Nat) ^ 9 = 9223372036854775808 := by decide
    unfold ruF at h
    split at h
    · simp at h
    rename_i h9
    split at h
    · simp at h
    rename_i h0
    split at h
    · rename_i h1
      simp only [Prod.mk.injEq] at h
      obtain ⟨rfl, rfl, _⟩ := h
      refine ⟨by omega, by simp, x.toNat, ?_, ?_, by omega, ?_⟩
      · rw [Nat.mod_eq_of_lt h1]
      · rw [uintF_lt h1, Nat.add_sub_cancel_left]; simp
      · rcases Nat.lt_or_ge i 9 with hl | hg
        · have : 128 ^ i ≤ 128 ^ 8 := Nat.pow_le_pow_right (by omega) (by omega)
          have h8 : (128 : Nat) ^ 8 = 72057594037927936 := by decide
          have : x.toNat * 128 ^ i ≤ 127 * 72057594037927936 := Nat.mul_le_mul (by omega) (by omega)
          omega
        · obtain rfl : i = 9 := by omega
          have : x.toNat ≤ 1 := by omega
          rw [hp9]; omega
    · rename_i h1
      have hi8 : i ≠ 9 := by omega
      obtain ⟨k1, k2, m, k3, k4, k5, k6⟩ := ruF_one r (i + 1) _ N K (by omega) h
      have hm : 0 < m := by omega
      have hp : (128 : Nat) ^ (i + 1) = 128 ^ i * 128 := Nat.pow_succ ..
      have hv : (x.toNat % 128 + 128 * m) * 128 ^ i = x.toNat % 128 * 128 ^ i + m * 128 ^ (i + 1) := by
        rw [Nat.add_mul, hp, ← Nat.mul_assoc, Nat.mul_right_comm m, Nat.mul_comm 128 m]
      refine ⟨by omega, by simp; omega, x.toNat % 128 + 128 * m, ?_, ?_, by omega, ?_⟩
      · rw [k3, hv]; omega
      · have hge : ¬ (x.toNat % 128 + 128 * m < 128) := by omega
        have e1 : (x.toNat % 128 + 128 * m) % 128 = x.toNat % 128 := by omega
        have e2 : (x.toNat % 128 + 128 * m) / 128 = m := by omega
        have e3 : UInt8.ofNat (128 + x.toNat % 128) = x := by
          apply UInt8.toNat_inj.mp; simp; omega
        rw [uintF_ge hge, e1, e2, e3, k4]
        have : K - i = (K - (i + 1)) + 1 := by omega
        rw [this, List.take_succ_cons]
      · rw [hv]
        have hpos : 0 < 128 ^ i := Nat.pow_pos (by omega)
        -- m * 128^(i+1) < 2^64 and both parts are multiples of 128^i
        have hlt : m * 128 ^ (i + 1) < 18446744073709551616 := k6
        rcases Nat.lt_or_ge (i + 1) 9 with hl | hg
        · -- 128^(i+1) divides 2^63
          have hq : 18446744073709551616 = 128 ^ (i + 1) * (2 * 128 ^ (8 - i)) := by
            rw [← Nat.mul_assoc, Nat.mul_comm (128 ^ (i + 1)) 2, Nat.mul_assoc, ← Nat.pow_add, show i + 1 + (8 - i) = 9 by omega, hp9]
          have hx2 : x.toNat % 128 * 128 ^ i < 128 ^ (i + 1) := by
            rw [hp, Nat.mul_comm]; exact Nat.mul_lt_mul_of_pos_left (by omega) hpos
          have : m < 2 * 128 ^ (8 - i) := by
            rw [hq, Nat.mul_comm m] at hlt
            exact Nat.lt_of_mul_lt_mul_left hlt
          have : (m + 1) * 128 ^ (i + 1) ≤ 18446744073709551616 := by
            rw [hq, Nat.mul_comm]
            exact Nat.mul_le_mul_left _ this
          rw [Nat.add_mul] at this
          omega
        · obtain rfl : i = 8 := by omega
          have h8 : (128 : Nat) ^ 8 = 72057594037927936 := by decide
          have e9 : (128 : Nat) ^ (8 + 1) = 9223372036854775808 := hp9
          rw [e9] at hlt ⊢
          have : m ≤ 1 := by omega
          rw [h8]
          have hy : x.toNat % 128 ≤ 127 := by omega
          exact tail9 _ _ hy hlt
end Go.Proofs.Ytfcnkpofcekmgaa

-- ink.Uint, espalierref01.Uint: walks.
namespace Go.Proofs.Ytfcnkpofcekmgaa
open Go.RowKit
theorem u8_ne {y z : UInt8} (h : y ≠ z) : ((y.toNat : Int) == (z.toNat : Int)) = false := by
  have : y.toNat ≠ z.toNat := fun e => h (UInt8.toNat_inj.mp e)
  simp; omega
section laws
variable {w : World} {ops : Array Oper} {rest : List Oper} {o : Oper} {a : Act} {Q : Exit → Act → World → Prop}
/-- make([]byte, 0, n). -/
theorem wp_make_B0 (hg : o.guard = none) (l c : Operand) (hop : o.op = Op.makeSlice 29 l c)
    (C : Int) (n : Nat) (hl : a.eval l = .int .i64 0) (hc : a.eval c = .int .i64 C) (hL : C = (n : Int)) (hn : n ≤ 281474976710656) (base : Nat) (hb : base ≤ w.heap.size)
    (hK : ∀ w', OwB w' base (.slice (some ⟨w.heap.size, 0, none⟩) 0 n) [] → Below w.heap.size w w' → w'.heap.size = w.heap.size + 1 → wpList Try.prog ops Q rest (a.put o.dst (.slice (some ⟨w.heap.size, 0, none⟩) 0 n)) w') :
    wpList Try.prog ops Q (o :: rest) a w := by
  obtain ⟨i, hi, hz0, hz1, hz2⟩ := info_parts u8_info
  refine wpList_plain hg fun K hK' => ?_
  have hr := run_make (P := Try.prog) w 29 5 i _ Try.underlying29 hi hz0 .i64 .i64 0 n (by omega) (by omega) (by rw [hz2]; omega) (by omega)
  subst hL
  unfold Oper.wp
  simp [execOp, hop, hl, hc, Result.andThen]
  simp at hr
  rw [hr]
  simp [Result.andThen]
  refine hK' _ _ (hK _ ?_ ((Below.refl _ _).alloc (Nat.le_refl _) _) (by simp))
  have e := toList_madeCells_one (.int .u8 0) n
  have h1 := OBlk.new w 5 (madeCells #[.int .u8 0] n)
  rw [e, ← bvs_replicate] at h1
  have := h1.owB (base := base) hb (by simp only [maxLen, List.length_replicate]; omega) (n := 0) (by omega)
  rw [List.length_replicate] at this
  simpa [Value.cells, hz1] using this
end laws
set_option maxRecDepth 20000 in
theorem or128 (n : Nat) : bits .or .u8 ((n : Int) % 256) 128 = ((UInt8.ofNat (128 + n % 128)).toNat : Int) := by
  have h1 : (BitVec.ofInt 8 ((n : Int) % 256)).toNat = n % 256 := by rw [BitVec.toNat_ofInt]; omega
  have h2 : (BitVec.ofInt 8 (128 : Int)).toNat = 128 := rfl
  show IntKind.u8.wrap ((BitVec.ofInt 8 ((n : Int) % 256) ||| BitVec.ofInt 8 (128 : Int)).toNat : Int) = _
  rw [BitVec.toNat_or, h1, h2, IntKind.wrap_u8]
  have key : ∀ k : Fin 256, k.val ||| 128 = 128 + k.val % 128 := by decide
  have := key ⟨n % 256, by omega⟩
  simp only at this
  rw [this]
  simp
set_option maxRecDepth 20000 in
set_option maxHeartbeats 1000000 in
theorem Uint_any (n : Nat) (hn : n < 18446744073709551616) (w : World) :
    Calls Try.prog 57 #[.int .u64 n] w fun e w' => ∃ v, e = .returned v ∧ OwB w' w.heap.size v (uintF n) ∧ Below w.heap.size w w' := by
  have HL := Lib.hid (uintF_le10 hn)
  go_enter Try.func57, Try.ntmps57
  go_wp2_with (first | (at_make; refine wp_make_B0 rfl _ _ rfl _ 10 rfl rfl rfl (by omega) w.heap.size (Nat.le_refl _) ?_; intro w1 ho1 hw1 hs1) | fail)
  go_loopw [0, 3] (fun m v wr => ∃ (k : Nat) (pre : List UInt8), m = .int .u64 (k : Int) ∧ k < 18446744073709551616 ∧ Hid (uintF n = pre ++ uintF k) ∧ OwB wr w.heap.size v pre ∧ Below w.heap.size w wr)
    (fun m _ _ => (intOf m).toNat)
  case atStart => exact ⟨n, [], rfl, hn, Lib.hid rfl, ho1, hw1⟩
  case round =>
    clear ho1 hw1 hs1
    obtain ⟨k, pre, rfl, hk, HE, ho, hb⟩ := hrel
    have hbs := hb.size
    by_cases h : k < 128
    · have hlen : pre.length + 1 ≤ 10 := by
        have h1 := HL.out
        rw [HE.out, uintF_lt h] at h1
        simpa using h1
      go_wp2_with (first
        | (at_builtin; refine wp_append_B1 rfl (.tmp 15) (.tmp 18) rfl w.heap.size _ pre rfl ho (UInt8.ofNat k) _ (by rw [u8_byte]; first | rfl | (congr 1; omega)) 5 rfl (by omega) hbs ?_; intro v2 w2 ho2 hg2 _)
        | fail)
      go_ret
      refine ⟨v2, rfl, ?_, hb.grown hg2 hbs (fun g hg => (ho.lt g hg).1)⟩
      rw [HE.out, uintF_lt h]
      exact ho2
    · have hlen : pre.length + 1 ≤ 10 := by
        have h1 := HL.out
        rw [HE.out, uintF_ge h] at h1
        simp at h1; omega
      have hor := or128 k
      have hu := uintF_ge h
      have HU := Lib.hid hu
      clear hu
      go_wp2_with (first
        | (at_builtin; refine wp_append_B1 rfl (.tmp 9) (.tmp 13) rfl w.heap.size _ pre rfl ho (UInt8.ofNat (128 + k % 128)) _ rfl 5 rfl (by omega) hbs ?_; intro v2 w2 ho2 hg2 _)
        | fail)
      go_roundw
      case rel => exact ⟨k / 128, pre ++ [UInt8.ofNat (128 + k % 128)], by go_num, by omega, Lib.hid (by rw [HE.out, HU.out]; simp), ho2, hb.grown hg2 hbs (fun g hg => (ho.lt g hg).1)⟩
      case measure => simp [intOf]; omega
end Go.Proofs.Ytfcnkpofcekmgaa

-- ink.common: the walk.
namespace Go.Proofs.Ytfcnkpofcekmgaa
open Go.RowKit
set_option maxRecDepth 20000 in
set_option maxHeartbeats 2000000 in
theorem common_any (va vb : Value) (a b : List UInt8) (w : World) (ha : RdB w va a) (hb : RdB w vb b) :
    Calls Try.prog 63 #[va, vb] w fun e w' => e = .returned (.int .i64 (comF a b : Nat)) ∧ Below w.heap.size w w' := by
  obtain ⟨A, ca, rfl, hma⟩ := ha.form
  obtain ⟨B, cb, rfl, hmb⟩ := hb.form
  by_cases hle : (a.length : Int) ≤ (b.length : Int)
  · go_enter Try.func63, Try.ntmps63
    go_wp2_with fail
    go_loopw [13] (fun i wr => ∃ j : Nat, i = .int .i64 (j : Int) ∧ j ≤ a.length ∧ Hid (∀ i, i < j → a[i]? = b[i]?) ∧ Below w.heap.size w wr)
      (fun i _ => a.length - (intOf i).toNat)
    case atStart => exact ⟨0, rfl, Nat.zero_le _, Lib.hid (fun i h => by omega), Below.refl _ _⟩
    case round =>
      obtain ⟨j, rfl, hj, HS, hbl⟩ := hrel
      by_cases hlt : j < a.length
      · have ja : j < a.length := by omega
        have jb : j < b.length := by omega
        obtain ⟨ad, rfl, hca⟩ := (ha.below hbl (Nat.le_refl _)).at_ ja
        obtain ⟨bd, rfl, hcb⟩ := (hb.below hbl (Nat.le_refl _)).at_ jb
        have i1 : (j : Int) < (a.length : Int) := by omega
        have i2 : (j : Int) < (b.length : Int) := by omega
        by_cases hxy : a[j] = b[j]
        · have HS2 : Hid (∀ i, i < j + 1 → a[i]? = b[i]?) := Lib.hid fun i hi => by
            by_cases e : i = j
            · subst e; rw [List.getElem?_eq_getElem ja, List.getElem?_eq_getElem jb, hxy]
            · exact HS.out i (by omega)
          rw [hxy] at hca
          clear hxy
          generalize b[j] = x at hca hcb
          go_upto_region 5 with (fail)
          go_region
          go_wp2_with fail
          go_roundw
          case rel => exact ⟨j + 1, by go_num, by omega, HS2, hbl.drew⟩
          case measure => simp [intOf]; omega
        · have hcom := Lib.hid (comF_of a b j (by omega) (by omega) HS.out (fun _ _ => hxy))
          have e1 := u8_ne hxy
          clear hxy
          generalize a[j] = x at hca e1
          generalize b[j] = y at hcb e1
          go_upto_region 5 with (fail)
          go_region
          go_wp2_with fail
          go_ret
          rw [hcom.out]
          exact ⟨rfl, hbl.drew⟩
      · obtain rfl : j = a.length := by omega
        have hcom := Lib.hid (comF_of a b a.length (by omega) (by omega) HS.out (fun h h' => by omega))
        go_wp2_with fail
        go_ret
        rw [hcom.out]
        exact ⟨rfl, hbl⟩
  · go_enter Try.func63, Try.ntmps63
    go_wp2_with fail
    go_loopw [13] (fun i wr => ∃ j : Nat, i = .int .i64 (j : Int) ∧ j ≤ b.length ∧ Hid (∀ i, i < j → a[i]? = b[i]?) ∧ Below w.heap.size w wr)
      (fun i _ => b.length - (intOf i).toNat)
    case atStart => exact ⟨0, rfl, Nat.zero_le _, Lib.hid (fun i h => by omega), Below.refl _ _⟩
    case round =>
      obtain ⟨j, rfl, hj, HS, hbl⟩ := hrel
      by_cases hlt : j < b.length
      · have ja : j < a.length := by omega
        have jb : j < b.length := by omega
        obtain ⟨ad, rfl, hca⟩ := (ha.below hbl (Nat.le_refl _)).at_ ja
        obtain ⟨bd, rfl, hcb⟩ := (hb.below hbl (Nat.le_refl _)).at_ jb
        have i1 : (j : Int) < (a.length : Int) := by omega
        have i2 : (j : Int) < (b.length : Int) := by omega
        by_cases hxy : a[j] = b[j]
        · have HS2 : Hid (∀ i, i < j + 1 → a[i]? = b[i]?) := Lib.hid fun i hi => by
            by_cases e : i = j
            · subst e; rw [List.getElem?_eq_getElem ja, List.getElem?_eq_getElem jb, hxy]
            · exact HS.out i (by omega)
          rw [hxy] at hca
          clear hxy
          generalize b[j] = x at hca hcb
          go_upto_region 5 with (fail)
          go_region
          go_wp2_with fail
          go_roundw
          case rel => exact ⟨j + 1, by go_num, by omega, HS2, hbl.drew⟩
          case measure => simp [intOf]; omega
        · have hcom := Lib.hid (comF_of a b j (by omega) (by omega) HS.out (fun _ _ => hxy))
          have e1 := u8_ne hxy
          clear hxy
          generalize a[j] = x at hca e1
          generalize b[j] = y at hcb e1
          go_upto_region 5 with (fail)
          go_region
          go_wp2_with fail
          go_ret
          rw [hcom.out]
          exact ⟨rfl, hbl.drew⟩
      · obtain rfl : j = b.length := by omega
        have hcom := Lib.hid (comF_of a b b.length (by omega) (by omega) HS.out (fun h h' => by omega))
        go_wp2_with fail
        go_ret
        rw [hcom.out]
        exact ⟨rfl, hbl⟩
end Go.Proofs.Ytfcnkpofcekmgaa

-- ink.Common: the walk.
namespace Go.Proofs.Ytfcnkpofcekmgaa
open Go.RowKit
def comLs : List (List UInt8) → Nat
  | [] => 0
  | t :: r => r.foldl (fun n x => min n (comF t x)) t.length
theorem L_elem : Try.prog.underlying 94 = some (.slice (Try.prog.elem 94)) := by kernel_rfl
theorem L_sizeOf (w : World) : (sizeOf (Try.prog.elem 94)).run Try.prog w = .ok 1 w := by
  have he : Try.prog.elem 94 = 29 := by kernel_rfl
  rw [he]
  obtain ⟨i, hi, hz0, hz1, hz2⟩ := info_parts L_info
  simp [sizeOf, typeInfo, hi, hz1]
/-- x[lo:] of slices that are read. -/
theorem RdL.run_l {w : World} {A : Option Addr} {n c : Nat} {ls : List (List UInt8)} (h : RdL w (.slice A n c) ls) (lo : Nat) (h1 : lo ≤ ls.length) :
    ∃ A' c', (∀ w', (Instr.slice 94 (.slice A n c) (some (.int .i64 (lo : Int))) none none).run Try.prog w' = .ok (.slice A' (ls.length - lo) c') w') ∧ RdL w (.slice A' (ls.length - lo) c') (ls.drop lo) := by
  obtain ⟨vs, ⟨h0, A0, c0, hv, h2, h3, h4⟩, h5, h6⟩ := h
  injection hv with hA hn hc
  subst hA; subst hc; subst hn
  have hle : lo ≤ vs.length := by omega
  refine ⟨_, _, fun w' => ?_, vs.drop lo, ⟨by simp, (if c = lo then A else A.map (·.add lo)), c - lo, by rw [List.length_drop, ← h5], by simp; omega, by omega, fun j u hj => ?_⟩, by simp; omega, fun i hi => ?_⟩
  · have := run_slice_l (P := Try.prog) w' 94 A vs.length c L_elem .i64 lo (by omega) (by omega)
    rw [this, L_sizeOf, ← h5]
    simp [Result.andThen, sliced]
  · rw [List.getElem?_drop] at hj
    obtain ⟨ad, rfl, hcell⟩ := h4 _ _ hj
    have hlt := (List.getElem?_eq_some_iff.mp hj).1
    rw [if_neg (by omega)]
    exact ⟨ad.add lo, rfl, by rw [add_of_add]; exact hcell⟩
  · have hi' : lo + i < ls.length := by simp at hi; omega
    obtain ⟨u, hu, hr⟩ := h6 (lo + i) hi'
    refine ⟨u, by rw [List.getElem?_drop]; exact hu, ?_⟩
    rw [List.getElem_drop]
    exact hr
set_option maxRecDepth 20000 in
set_option maxHeartbeats 2000000 in
theorem Common_any (v : Value) (ls : List (List UInt8)) (w : World) (hv : RdL w v ls) : Calls Try.prog 55 #[v] w fun e w' => e = .returned (.int .i64 (comLs ls : Nat)) ∧ Below w.heap.size w w' := by
  obtain ⟨A, c, rfl, hm⟩ := hv.form
  cases ls with
  | nil =>
    go_enter Try.func55, Try.ntmps55
    go_wp2_with fail
    go_ret
    exact ⟨rfl, Below.refl _ _⟩
  | cons t r =>
    obtain ⟨ad, A0, c0, rfl, hc0, hr0⟩ := hv.at_ (k := 0) (by simp)
    have htl : t.length ≤ 9223372036854775807 := hr0.le
    have hc0 : w.cell? ad = some (.slice A0 t.length c0) := by simpa [Addr.add] using hc0
    have hr0 : RdB w (.slice A0 t.length c0) t := hr0
    obtain ⟨A1, c1, q1, hr1⟩ := hv.run_l 1 (by simp)
    have q1 : ∀ w', (Instr.slice 94 (.slice (some ad) (t :: r).length c) (some (.int .i64 1)) none none).run Try.prog w' = .ok (.slice A1 r.length c1) w' := fun w' => q1 w'
    have hr1 : RdL w (.slice A1 r.length c1) r := hr1
    have hrl : r.length + 1 ≤ 9223372036854775807 := by simpa using hm
    have hL : (t :: r).length = r.length + 1 := rfl
    rw [hL] at q1 hv hm ⊢
    have e0 : (((r.length : Int) + 1) == 0) = false := by simp; omega
    have i0 : (0 : Int) < (r.length : Int) + 1 := by omega
    clear hL
    go_enter Try.func55, Try.ntmps55
    go_wp2_with fail
    clear q1
    go_loopw [3, 16] (fun n i wr => ∃ j N : Nat, i = .int .i64 (j : Int) ∧ n = .int .i64 (N : Int) ∧ j ≤ r.length ∧ Hid (N = (r.take j).foldl (fun n x => min n (comF t x)) t.length) ∧ Below w.heap.size w wr)
      (fun _ i _ => r.length - (intOf i).toNat)
    case atStart => exact ⟨0, t.length, rfl, rfl, Nat.zero_le _, Lib.hid rfl, Below.refl _ _⟩
    case round =>
      obtain ⟨j, N, rfl, rfl, hj, HN, hb⟩ := hrel
      have hc0' : wr.cell? ad = some (.slice A0 t.length c0) := by
        obtain ⟨ad', A0', c0', e, h, _⟩ := (hv.below hb (Nat.le_refl _)).at_ (k := 0) (by simp)
        have hlt : ad.block < w.heap.size := block_lt_of_cell hc0
        rw [hb.cell hlt]; exact hc0
      by_cases hlt : j < r.length
      · obtain ⟨ad1, A2, c2, rfl, hcx, hrx⟩ := hr1.at_ hlt
        have hcx' : wr.cell? (ad1.add j) = some (.slice A2 r[j].length c2) := by
          have hlt' : (ad1.add j).block < w.heap.size := block_lt_of_cell hcx
          rw [hb.cell hlt']; exact hcx
        have HF : Hid ((r.take (j + 1)).foldl (fun n x => min n (comF t x)) t.length = min N (comF t r[j])) := Lib.hid (by
          rw [← List.take_append_getElem hlt, List.foldl_append, ← HN.out]; rfl)
        have hxl := hrx.le
        clear hcx
        generalize r[j] = x at *
        have i1 : (j : Int) < (r.length : Int) := by omega
        rcases (by omega : (N : Int) ≤ (comF t x : Int) ∨ (comF t x : Int) < (N : Int)) with hle | hle
        · go_wp2_with fail
          refine (common_any _ _ t x _ (hr0.below hb (Nat.le_refl _)) (hrx.below hb (Nat.le_refl _))).mono ?_
          rintro e w2 ⟨rfl, hw2⟩
          have hb2 := hb.trans (hw2.mono hb.size)
          go_wp2_with fail
          go_roundw
          case rel => exact ⟨j + 1, N, by go_num, rfl, by omega, Lib.hid (by rw [HF.out]; omega), hb2⟩
          case measure => simp [intOf]; omega
        · go_wp2_with fail
          refine (common_any _ _ t x _ (hr0.below hb (Nat.le_refl _)) (hrx.below hb (Nat.le_refl _))).mono ?_
          rintro e w2 ⟨rfl, hw2⟩
          have hb2 := hb.trans (hw2.mono hb.size)
          go_wp2_with fail
          go_roundw
          case rel => exact ⟨j + 1, comF t x, by go_num, rfl, by omega, Lib.hid (by rw [HF.out]; omega), hb2⟩
          case measure => simp [intOf]; omega
      · obtain rfl : j = r.length := by omega
        have HC : Hid (comLs (t :: r) = N) := Lib.hid (by rw [HN.out, List.take_length]; rfl)
        go_wp2_with fail
        go_ret
        rw [HC.out]
        exact ⟨rfl, hb⟩
end Go.Proofs.Ytfcnkpofcekmgaa

-- Packed pages: what is written, how it is read: plain laws.
namespace Go.Proofs.Ytfcnkpofcekmgaa
def u64N (n : Int) : Nat := (n % 18446744073709551616).toNat
theorem u64N_lt (n : Int) : u64N n < 18446744073709551616 := by unfold u64N; omega
theorem u64N_of {n : Int} (h : 0 ≤ n) (h2 : n < 18446744073709551616) : u64N n = n.toNat := by unfold u64N; rw [Int.emod_eq_of_lt h h2]
def u8I (k : Int) : UInt8 := UInt8.ofNat (k % 256).toNat
def restF (kind : Int) (i : Nat) (key : List UInt8) (pre : Nat) : List UInt8 := if kind = 3 ∧ i = 0 then key else key.drop pre
def kvF (c : PC) : List UInt8 := if c.kind = 1 then uintF c.val.length ++ c.val else uintF (u64N c.page) ++ uintF (u64N c.count)
def pcF (kind : Int) (i : Nat) (c : PC) (pre : Nat) : List UInt8 := u8I c.kind :: (uintF (restF kind i c.key pre).length ++ (restF kind i c.key pre ++ kvF c))
def pbodyF (kind : Int) (pre : Nat) : Nat → List PC → List UInt8
  | _, [] => []
  | i, c :: r => pcF kind i c pre ++ pbodyF kind pre (i + 1) r
def pslotsF (kind : Int) (pre : Nat) : Nat → Nat → List PC → List UInt8
  | _, _, [] => []
  | a, i, c :: r => fixedF a 2 ++ pslotsF kind pre (a + (pcF kind i c pre).length) (i + 1) r
def takenF (kind : Int) (l : List PC) (pre : Nat) : Nat := 10 + pre + 2 * l.length + (pbodyF kind pre 0 l).length
def keysF (kind : Int) (l : List PC) : List (List UInt8) := (if kind = 3 then l.drop 1 else l).map PC.key
def sharedF (kind : Int) (l : List PC) : Nat := comLs (keysF kind l)
def psizeF (kind : Int) (l : List PC) : Nat := takenF kind l (sharedF kind l)
def encK (kind : Int) (l : List PC) (P : Nat) : Int := if scanE kind P none l ≠ 0 then scanE kind P none l else if P < psizeF kind l then 61 else 0
def prefF (kind : Int) (l : List PC) : List UInt8 := match l.getLast? with
  | none => []
  | some c => c.key.take (sharedF kind l)
def preK (kind : Int) (l : List PC) (P : Nat) : List UInt8 :=
  u8I kind :: 2 :: (fixedF l.length 2 ++ (fixedF (sharedF kind l) 2 ++ (prefF kind l ++ (pslotsF kind (sharedF kind l) (6 + sharedF kind l + 2 * l.length) 0 l ++ (pbodyF kind (sharedF kind l) 0 l ++ List.replicate (P - psizeF kind l) 0)))))
def laidK (kind : Int) (l : List PC) (P : Nat) : List UInt8 := preK kind l P ++ fixedF (sumF (preK kind l P)) 4
theorem encK_zero {kind : Int} {l : List PC} {P : Nat} : encK kind l P = 0 ↔ scanE kind P none l = 0 ∧ psizeF kind l ≤ P := by
  unfold encK
  split
  · rename_i h; exact ⟨fun e => absurd e h, fun e => absurd e.1 h⟩
  · rename_i h
    split
    · exact ⟨fun e => by omega, fun e => by omega⟩
    · exact ⟨fun _ => ⟨by simpa using h, by omega⟩, fun _ => rfl⟩
theorem encK_range (kind : Int) (l : List PC) (P : Nat) : 0 ≤ encK kind l P ∧ encK kind l P ≤ 63 := by
  unfold encK
  rcases scan_range kind P l none with h | h | h
  · rw [h]; simp; split <;> simp
  · rw [h]; simp
  · rw [h]; simp
theorem pslotsF_length (kind : Int) (pre : Nat) : ∀ (a i : Nat) (l : List PC), (pslotsF kind pre a i l).length = 2 * l.length
  | _, _, [] => rfl
  | a, i, c :: r => by simp only [pslotsF, List.length_append, fixedF_length, pslotsF_length, List.length_cons]; omega
theorem pbodyF_append (kind : Int) (pre : Nat) : ∀ (i : Nat) (a b : List PC), pbodyF kind pre i (a ++ b) = pbodyF kind pre i a ++ pbodyF kind pre (i + a.length) b
  | i, [], b => rfl
  | i, c :: r, b => by
    simp only [List.cons_append, pbodyF, pbodyF_append kind pre (i + 1) r b, List.append_assoc, List.length_cons]
    rw [show i + 1 + r.length = i + (r.length + 1) by omega]
theorem pslotsF_append (kind : Int) (pre : Nat) : ∀ (a i : Nat) (x y : List PC), pslotsF kind pre a i (x ++ y) = pslotsF kind pre a i x ++ pslotsF kind pre (a + (pbodyF kind pre i x).length) (i + x.length) y
  | a, i, [], y => rfl
  | a, i, c :: r, y => by
    simp only [List.cons_append, pslotsF, pslotsF_append kind pre _ (i + 1) r y, List.append_assoc, List.length_cons, pbodyF, List.length_append]
    rw [show i + 1 + r.length = i + (r.length + 1) by omega, show a + (pcF kind i c pre).length + (pbodyF kind pre (i + 1) r).length = a + ((pcF kind i c pre).length + (pbodyF kind pre (i + 1) r).length) by omega]
/-! ### what keys share -/
theorem comLs_cons (t : List UInt8) (r : List (List UInt8)) : comLs (t :: r) ≤ t.length ∧ ∀ x ∈ r, comLs (t :: r) ≤ comF t x := by
  show r.foldl (fun n x => min n (comF t x)) t.length ≤ t.length ∧ _
  have key : ∀ (r : List (List UInt8)) (m : Nat), r.foldl (fun n x => min n (comF t x)) m ≤ m ∧ ∀ x ∈ r, r.foldl (fun n x => min n (comF t x)) m ≤ comF t x := by
    intro r
    induction r with
    | nil => intro m; exact ⟨Nat.le_refl _, by simp⟩
    | cons y s ih =>
      intro m
      have h := ih (min m (comF t y))
      refine ⟨Nat.le_trans h.1 (Nat.min_le_left _ _), fun x hx => ?_⟩
      rcases List.mem_cons.1 hx with rfl | hx
      · exact Nat.le_trans h.1 (Nat.min_le_right _ _)
      · exact h.2 x hx
  exact ⟨(key r t.length).1, fun x hx => (key r t.length).2 x hx⟩
/-- All keys begin alike, and are that long. -/
theorem comLs_take {ks : List (List UInt8)} {x y : List UInt8} (hx : x ∈ ks) (hy : y ∈ ks) : comLs ks ≤ x.length ∧ x.take (comLs ks) = y.take (comLs ks) := by
  cases ks with
  | nil => cases hx
  | cons t r =>
    obtain ⟨h1, h2⟩ := comLs_cons t r
    have key : ∀ z ∈ t :: r, comLs (t :: r) ≤ z.length ∧ z.take (comLs (t :: r)) = t.take (comLs (t :: r)) := fun z hz => by
      rcases List.mem_cons.1 hz with rfl | hz
      · exact ⟨h1, rfl⟩
      · have h3 := h2 z hz
        have h4 := comF_le t z
        refine ⟨by omega, ?_⟩
        have e := comF_take t z
        have e2 := congrArg (List.take (comLs (t :: r))) e
        rw [List.take_take, List.take_take, Nat.min_eq_left h3] at e2
        exact e2.symm
    exact ⟨(key x hx).1, (key x hx).2.trans (key y hy).2.symm⟩
/-- A cell's key is the prefix, and its rest. -/
theorem key_split {kind : Int} {l : List PC} {i : Nat} (hi : i < l.length) (hn : ¬ (kind = 3 ∧ i = 0)) :
    sharedF kind l ≤ l[i].key.length ∧ l[i].key = prefF kind l ++ l[i].key.drop (sharedF kind l) ∧ (prefF kind l).length = sharedF kind l := by
  have hmem : ∀ j (hj : j < l.length), ¬ (kind = 3 ∧ j = 0) → l[j].key ∈ keysF kind l := fun j hj hnj => by
    unfold keysF
    refine List.mem_map_of_mem ?_
    by_cases hk : kind = 3
    · rw [if_pos hk]
      have : l[j] = (l.drop 1)[j - 1]'(by simp; omega) := by simp only [List.getElem_drop]; congr 1; omega
      rw [this]; exact List.getElem_mem _
    · rw [if_neg hk]; exact List.getElem_mem _
  have hlast : l.getLast? = some (l[l.length - 1]'(by omega)) := by rw [List.getLast?_eq_getElem?, List.getElem?_eq_getElem (by omega)]
  have hp : prefF kind l = (l[l.length - 1]'(by omega)).key.take (sharedF kind l) := by unfold prefF; rw [hlast]
  have hm1 := hmem i hi hn
  have hm2 := hmem (l.length - 1) (by omega) (fun h => hn ⟨h.1, by omega⟩)
  have h1 := comLs_take hm1 hm2
  have h2 := comLs_take hm2 hm1
  refine ⟨h1.1, ?_, ?_⟩
  · rw [hp]
    have : (l[l.length - 1]'(by omega)).key.take (sharedF kind l) = l[i].key.take (sharedF kind l) := h2.2
    rw [this, List.take_append_drop]
  · rw [hp, List.length_take]
    exact Nat.min_eq_left h2.1
theorem prefF_length_le (kind : Int) (l : List PC) : (prefF kind l).length ≤ sharedF kind l := by
  unfold prefF
  split
  · simp
  · rw [List.length_take]; omega
theorem sharedF_pos {kind : Int} {l : List PC} (h : 0 < sharedF kind l) : ∃ i, ∃ hi : i < l.length, ¬ (kind = 3 ∧ i = 0) := by
  unfold sharedF keysF at h
  by_cases hk : kind = 3
  · rw [if_pos hk] at h
    refine ⟨1, ?_, by omega⟩
    rcases Nat.lt_or_ge 1 l.length with h1 | h1
    · exact h1
    · rw [List.drop_of_length_le h1] at h; simp [comLs] at h
  · refine ⟨0, ?_, by omega⟩
    rcases Nat.eq_zero_or_pos l.length with h1 | h1
    · rw [if_neg hk, List.eq_nil_of_length_eq_zero h1] at h; simp [comLs] at h
    · exact h1
theorem prefF_length (kind : Int) (l : List PC) : (prefF kind l).length = sharedF kind l := by
  rcases Nat.eq_zero_or_pos (sharedF kind l) with h | h
  · have := prefF_length_le kind l; omega
  · obtain ⟨i, hi, hn⟩ := sharedF_pos h
    exact (key_split hi hn).2.2
/-! ### lengths -/
theorem preK_length {kind : Int} {l : List PC} {P : Nat} (h : psizeF kind l ≤ P) : (preK kind l P).length = P - 4 := by
  have e : psizeF kind l = 10 + sharedF kind l + 2 * l.length + (pbodyF kind (sharedF kind l) 0 l).length := rfl
  unfold preK
  simp only [List.length_cons, List.length_append, fixedF_length, prefF_length, pslotsF_length, List.length_replicate]
  omega
theorem laidK_length {kind : Int} {l : List PC} {P : Nat} (h : psizeF kind l ≤ P) : (laidK kind l P).length = P := by
  have e : psizeF kind l = 10 + sharedF kind l + 2 * l.length + (pbodyF kind (sharedF kind l) 0 l).length := rfl
  unfold laidK
  rw [List.length_append, preK_length h, fixedF_length]; omega
/-! ### how a page is read -/
def readK (d : List UInt8) (kind : Int) (i : Nat) (pre : List UInt8) (at_ : Nat) : Option (PC × Nat) :=
  if d.length ≤ at_ then none else
  if (ruF 0 0 (d.drop (at_ + 1))).2.2 ≠ 0 then none else
  if d.length < at_ + 1 + (ruF 0 0 (d.drop (at_ + 1))).2.1 + (ruF 0 0 (d.drop (at_ + 1))).1 then none else
  readT d ((if kind = 3 ∧ i = 0 then [] else pre) ++ (d.drop (at_ + 1 + (ruF 0 0 (d.drop (at_ + 1))).2.1)).take (ruF 0 0 (d.drop (at_ + 1))).1) ((d.getD at_ 0).toNat : Int) (at_ + 1 + (ruF 0 0 (d.drop (at_ + 1))).2.1 + (ruF 0 0 (d.drop (at_ + 1))).1)
where
  readT (d key : List UInt8) (kb : Int) (t : Nat) : Option (PC × Nat) :=
    if (ruF 0 0 (d.drop t)).2.2 ≠ 0 then none else
    if kb = 1 then
      if d.length < t + (ruF 0 0 (d.drop t)).2.1 + (ruF 0 0 (d.drop t)).1 then none
      else some (⟨key, kb, (d.drop (t + (ruF 0 0 (d.drop t)).2.1)).take (ruF 0 0 (d.drop t)).1, 0, 0⟩, t + (ruF 0 0 (d.drop t)).2.1 + (ruF 0 0 (d.drop t)).1)
    else readN d key kb (ruF 0 0 (d.drop t)).1 (t + (ruF 0 0 (d.drop t)).2.1)
  readN (d key : List UInt8) (kb : Int) (pg t : Nat) : Option (PC × Nat) :=
    if 2147483648 < pg then none else
    if (ruF 0 0 (d.drop t)).2.2 ≠ 0 then none else
    if 2147483648 < (ruF 0 0 (d.drop t)).1 then none
    else some (⟨key, kb, [], pg, ((ruF 0 0 (d.drop t)).1 : Nat)⟩, t + (ruF 0 0 (d.drop t)).2.1)
def cellsK (b d : List UInt8) (kind : Int) (pre : List UInt8) : Nat → Nat → Nat → Option (List PC)
  | _, _, 0 => some []
  | i, a, m + 1 => if numAt b (6 + pre.length + 2 * i) 2 ≠ a then none else match readK d kind i pre a with
    | none => none
    | some (c, t) => (cellsK b d kind pre (i + 1) t m).map (c :: ·)
def preP (b : List UInt8) : List UInt8 := (b.drop 6).take (numAt b 4 2)
def parseK (b : List UInt8) : Option (List PC) :=
  if b.length - 4 < 6 + numAt b 4 2 + 2 * numAt b 2 2 then none
  else cellsK b (b.take (b.length - 4)) (kindF b) (preP b) 0 (6 + numAt b 4 2 + 2 * numAt b 2 2) (numAt b 2 2)
theorem ruF_mid {d pre rest : List UInt8} {n t : Nat} (hd : d = pre ++ (uintF n ++ rest)) (ht : pre.length = t) (hn : n < 18446744073709551616) : ruF 0 0 (d.drop t) = (n, (uintF n).length, 0) := by
  subst hd ht
  rw [List.drop_left]
  have := ruF_uintF 0 n 0 rest (by simpa using hn) (.inl rfl) (by omega)
  simpa using this
theorem readN_mid {P : Nat} {d pre rest key : List UInt8} {c : PC} {t : Nat} (hc : OkC P c) (h1 : c.kind ≠ 1) (hd : d = pre ++ (uintF (u64N c.count) ++ rest)) (ht : pre.length = t) (hk : key = c.key) :
    readK.readN d key c.kind (u64N c.page) t = some (c, t + (uintF (u64N c.count)).length) := by
  obtain ⟨hv, hp0, hp1, hc0, hc1⟩ := hc.v1 h1
  have e1 : u64N c.page = c.page.toNat := u64N_of hp0 (by omega)
  have e2 : u64N c.count = c.count.toNat := u64N_of hc0 (by omega)
  have hr := ruF_mid hd ht (u64N_lt _)
  unfold readK.readN
  rw [hr]
  simp only
  rw [if_neg (by omega), if_neg (by simp), if_neg (by omega), e1, e2, hk]
  obtain ⟨key, kind, val, page, count⟩ := c
  simp only at hv hp0 hc0 ⊢
  subst hv
  rw [show ((page.toNat : Nat) : Int) = page by omega, show ((count.toNat : Nat) : Int) = count by omega]
theorem readT_mid {P : Nat} {d pre rest key : List UInt8} {c : PC} {t : Nat} (hc : OkC P c) (hP : P ≤ 65536) (hd : d = pre ++ (kvF c ++ rest)) (ht : pre.length = t) (hk : key = c.key) :
    readK.readT d key c.kind t = some (c, t + (kvF c).length) := by
  unfold readK.readT
  by_cases h1 : c.kind = 1
  · obtain ⟨hv, hp0, hc0⟩ := hc.v0 h1
    have e : kvF c = uintF c.val.length ++ c.val := by unfold kvF; rw [if_pos h1]
    rw [e] at hd ⊢
    have hr := ruF_mid (d := d) (n := c.val.length) (rest := c.val ++ rest) (by rw [hd, List.append_assoc]) ht (by omega)
    rw [hr]
    simp only
    have hl : t + (uintF c.val.length).length + c.val.length ≤ d.length := by rw [hd]; simp; omega
    rw [if_neg (by simp), if_pos h1, if_neg (by omega)]
    have e2 : (d.drop (t + (uintF c.val.length).length)).take c.val.length = c.val := by
      refine take_mid (pre := pre ++ uintF c.val.length) (rest := rest) (by rw [hd]; simp) (by simp [ht]) rfl
    rw [e2, hk]
    obtain ⟨key, kind, val, page, count⟩ := c
    simp only at hp0 hc0 h1 ⊢
    subst hp0 hc0 h1
    simp; omega
  · have e : kvF c = uintF (u64N c.page) ++ uintF (u64N c.count) := by unfold kvF; rw [if_neg h1]
    rw [e] at hd ⊢
    have hr := ruF_mid (d := d) (n := u64N c.page) (rest := uintF (u64N c.count) ++ rest) (by rw [hd, List.append_assoc]) ht (u64N_lt _)
    rw [hr]
    simp only
    rw [if_neg (by simp), if_neg h1, readN_mid (pre := pre ++ uintF (u64N c.page)) (rest := rest) hc h1 (by rw [hd]; simp) (by simp [ht]) hk]
    simp; omega
/-- A cell that stands there is read. -/
theorem readK_mid {P : Nat} {d pr rest pre : List UInt8} {kind : Int} {i : Nat} {c : PC} {at_ s : Nat} (hc : OkC P c) (hP : P ≤ 65536) (hd : d = pr ++ (pcF kind i c s ++ rest)) (ha : pr.length = at_)
    (hk : c.key = (if kind = 3 ∧ i = 0 then [] else pre) ++ restF kind i c.key s) : readK d kind i pre at_ = some (c, at_ + (pcF kind i c s).length) := by
  have hrl : (restF kind i c.key s).length ≤ c.key.length := by unfold restF; split <;> simp
  have hk0 := hc.k0
  have hkd := hc.kd
  generalize hr : restF kind i c.key s = r at *
  have hp : pcF kind i c s = u8I c.kind :: (uintF r.length ++ (r ++ kvF c)) := by unfold pcF; rw [hr]
  rw [hp] at hd ⊢
  have h1 := ruF_mid (d := d) (pre := pr ++ [u8I c.kind]) (n := r.length) (t := at_ + 1) (rest := r ++ (kvF c ++ rest)) (by rw [hd]; simp) (by simp [ha]) (by omega)
  have hl : at_ + 1 + (uintF r.length).length + r.length + (kvF c).length ≤ d.length := by rw [hd]; simp; omega
  have hu := uintF_pos r.length
  have e2 : (d.drop (at_ + 1 + (uintF r.length).length)).take r.length = r := by
    refine take_mid (pre := pr ++ (u8I c.kind :: uintF r.length)) (rest := kvF c ++ rest) (by rw [hd]; simp) (by simp [ha]; omega) rfl
  have e3 : ((d.getD at_ 0).toNat : Int) = c.kind := by
    have : d.getD at_ 0 = u8I c.kind := by rw [hd, List.getD, ← ha]; simp
    rw [this]
    unfold u8I
    rw [UInt8.toNat_ofNat']; omega
  unfold readK
  rw [h1]
  simp only
  rw [if_neg (by omega), if_neg (by simp), if_neg (by omega), e2, e3, ← hk, readT_mid (pre := pr ++ (u8I c.kind :: (uintF r.length ++ r))) (rest := rest) hc hP (by rw [hd]; simp) (by simp [ha]; omega) rfl]
  simp; omega
theorem cellsK_mid {P : Nat} {b d : List UInt8} {kind : Int} {pre : List UInt8} {s : Nat} (hP : P ≤ 65536) (hs : pre.length = s) : ∀ (l : List PC) (i a : Nat) (pr rest spr srest : List UInt8), (∀ c ∈ l, OkC P c) →
    d = pr ++ (pbodyF kind s i l ++ rest) → pr.length = a → b = spr ++ (pslotsF kind s a i l ++ srest) → spr.length = 6 + s + 2 * i → d.length ≤ 65536 →
    (∀ (j : Nat) (hj : j < l.length), l[j].key = (if kind = 3 ∧ i + j = 0 then [] else pre) ++ restF kind (i + j) l[j].key s) → cellsK b d kind pre i a l.length = some l
  | [], _, _, _, _, _, _, _, _, _, _, _, _, _ => rfl
  | c :: r, i, a, pr, rest, spr, srest, hl, hd, ha, hb, hsp, hdl, hk => by
    have e0 : numAt b (6 + pre.length + 2 * i) 2 = a := by
      refine numAt_mid (pre := spr) (rest := pslotsF kind s (a + (pcF kind i c s).length) (i + 1) r ++ srest) (by rw [hb]; simp [pslotsF]) (by rw [hs]; exact hsp) ?_
      show a < 65536
      have : a + (pcF kind i c s).length ≤ d.length := by rw [hd]; simp [pbodyF]; omega
      have : 0 < (pcF kind i c s).length := by simp [pcF]
      omega
    have e1 := readK_mid (d := d) (pr := pr) (rest := pbodyF kind s (i + 1) r ++ rest) (pre := pre) (at_ := a) (i := i) (kind := kind) (s := s) (hl c (by simp)) hP (by rw [hd]; simp [pbodyF]) ha (by have := hk 0 (by simp); simpa using this)
    have e2 := cellsK_mid (b := b) (d := d) (kind := kind) (pre := pre) hP hs r (i + 1) (a + (pcF kind i c s).length) (pr ++ pcF kind i c s) rest (spr ++ fixedF a 2) srest (fun x hx => hl x (by simp [hx]))
      (by rw [hd]; simp [pbodyF]) (by simp [ha]) (by rw [hb]; simp [pslotsF]) (by simp [hsp, fixedF_length]; omega) hdl (fun j hj => by
        have := hk (j + 1) (by simpa using hj)
        simp only [List.getElem_cons_succ] at this
        rw [show i + 1 + j = i + (j + 1) by omega]; exact this)
    rw [List.length_cons, cellsK, if_neg (by simp [e0]), e1]
    show (cellsK b d kind pre (i + 1) (a + (pcF kind i c s).length) r.length).map (c :: ·) = _
    rw [e2]; rfl
/-- What Encode writes is read. -/
theorem parse_laidK {kind : Int} {l : List PC} {P : Nat} (hP : P ≤ 65536) (hk : isKindB kind = true) (h : encK kind l P = 0) :
    parseK (laidK kind l P) = some l ∧ kindF (laidK kind l P) = kind ∧ (laidK kind l P).getD 1 0 = 2 := by
  obtain ⟨h1, h2⟩ := encK_zero.1 h
  have hok : ∀ c ∈ l, OkC P c := fun c hc => may_ok (scan_may h1 c hc)
  have hz : psizeF kind l = 10 + sharedF kind l + 2 * l.length + (pbodyF kind (sharedF kind l) 0 l).length := rfl
  have hL := laidK_length (kind := kind) h2
  have hkd : kind = 2 ∨ kind = 3 := of_decide_eq_true hk
  have hB : laidK kind l P = (u8I kind :: 2 :: (fixedF l.length 2 ++ (fixedF (sharedF kind l) 2 ++ (prefF kind l ++ (pslotsF kind (sharedF kind l) (6 + sharedF kind l + 2 * l.length) 0 l ++ (pbodyF kind (sharedF kind l) 0 l ++ List.replicate (P - psizeF kind l) 0)))))) ++ fixedF (sumF (preK kind l P)) 4 := rfl
  have hT : (laidK kind l P).take ((laidK kind l P).length - 4) = preK kind l P := by
    rw [hL]
    show (preK kind l P ++ _).take _ = _
    rw [List.take_left' (preK_length h2)]
  have e1 : numAt (laidK kind l P) 2 2 = l.length := by
    refine numAt_mid (pre := [u8I kind, 2]) (rest := (fixedF (sharedF kind l) 2 ++ (prefF kind l ++ (pslotsF kind (sharedF kind l) (6 + sharedF kind l + 2 * l.length) 0 l ++ (pbodyF kind (sharedF kind l) 0 l ++ List.replicate (P - psizeF kind l) 0)))) ++ fixedF (sumF (preK kind l P)) 4) (by rw [hB]; simp) rfl (by show _ < 65536; omega)
  have e2 : numAt (laidK kind l P) 4 2 = sharedF kind l := by
    refine numAt_mid (pre := u8I kind :: 2 :: fixedF l.length 2) (rest := (prefF kind l ++ (pslotsF kind (sharedF kind l) (6 + sharedF kind l + 2 * l.length) 0 l ++ (pbodyF kind (sharedF kind l) 0 l ++ List.replicate (P - psizeF kind l) 0))) ++ fixedF (sumF (preK kind l P)) 4) (by rw [hB]; simp) (by simp [fixedF_length]) (by show _ < 65536; omega)
  have e3 : preP (laidK kind l P) = prefF kind l := by
    unfold preP
    rw [e2]
    refine take_mid (pre := u8I kind :: 2 :: (fixedF l.length 2 ++ fixedF (sharedF kind l) 2)) (rest := (pslotsF kind (sharedF kind l) (6 + sharedF kind l + 2 * l.length) 0 l ++ (pbodyF kind (sharedF kind l) 0 l ++ List.replicate (P - psizeF kind l) 0)) ++ fixedF (sumF (preK kind l P)) 4) (by rw [hB]; simp) (by simp [fixedF_length]) (prefF_length kind l)
  have e4 : kindF (laidK kind l P) = kind := by
    unfold kindF
    rw [hB]
    simp only [List.cons_append, List.getD_cons_zero]
    unfold u8I
    rw [UInt8.toNat_ofNat']; omega
  refine ⟨?_, e4, by rw [hB]; rfl⟩
  unfold parseK
  rw [e1, e2, e3, e4, hT, if_neg (by omega)]
  refine cellsK_mid (P := P) hP (prefF_length kind l) l 0 _ (u8I kind :: 2 :: (fixedF l.length 2 ++ (fixedF (sharedF kind l) 2 ++ (prefF kind l ++ pslotsF kind (sharedF kind l) (6 + sharedF kind l + 2 * l.length) 0 l)))) (List.replicate (P - psizeF kind l) 0)
    (u8I kind :: 2 :: (fixedF l.length 2 ++ (fixedF (sharedF kind l) 2 ++ prefF kind l))) ((pbodyF kind (sharedF kind l) 0 l ++ List.replicate (P - psizeF kind l) 0) ++ fixedF (sumF (preK kind l P)) 4) hok ?_ ?_ ?_ ?_ ?_ ?_
  · show preK kind l P = _
    unfold preK; simp
  · simp only [List.length_cons, List.length_append, fixedF_length, prefF_length, pslotsF_length]; omega
  · rw [hB]; simp
  · simp only [List.length_cons, List.length_append, fixedF_length, prefF_length]; omega
  · rw [preK_length h2]; omega
  · intro j hj
    rw [Nat.zero_add]
    unfold restF
    by_cases hn : kind = 3 ∧ j = 0
    · rw [if_pos hn, if_pos hn]; rfl
    · rw [if_neg hn, if_neg hn]
      exact (key_split hj hn).2.1
/-- What a packed page says. -/
def isPk (b : List UInt8) (kind : Int) (l : List PC) : Prop := isPowB (b.length : Int) = true ∧ isKindB kind = true ∧ encK kind l b.length = 0 ∧ laidK kind l b.length = b
theorem isPk_parse {b : List UInt8} {kind : Int} {l : List PC} (h : isPk b kind l) : parseK b = some l ∧ kindF b = kind ∧ b.getD 1 0 = 2 := by
  obtain ⟨h1, h2, h3, h4⟩ := h
  have hP := (isPowB_range h1).2
  have := parse_laidK (P := b.length) (by omega) h2 h3
  rw [h4] at this
  exact this
/-! ### three cells -/
theorem pcF_le {kind : Int} {i pre P : Nat} {c : PC} (hc : OkC P c) (hP : P ≤ 65536) (hP2 : 512 ≤ P) : (pcF kind i c pre).length + (c.key.length - (restF kind i c.key pre).length) ≤ 5 + P / 8 + P / 16 * 3 := by
  have hrl : (restF kind i c.key pre).length ≤ c.key.length := by unfold restF; split <;> simp
  have hk0 := hc.k0
  have u1 : (uintF (restF kind i c.key pre).length).length ≤ 2 := uintF_len 1 _ (by show _ < 16384; omega)
  unfold pcF
  simp only [List.length_cons, List.length_append]
  unfold kvF
  by_cases h1 : c.kind = 1
  · obtain ⟨hv, _, _⟩ := hc.v0 h1
    have u2 : (uintF c.val.length).length ≤ 2 := uintF_len 1 _ (by show _ < 16384; omega)
    rw [if_pos h1, List.length_append]; omega
  · obtain ⟨hv, hp0, hp1, hc0, hc1⟩ := hc.v1 h1
    have u2 : (uintF (u64N c.page)).length ≤ 3 := uintF_len 2 _ (by rw [u64N_of hp0 (by omega)]; show _ < 2097152; omega)
    have u3 : (uintF (u64N c.count)).length ≤ 5 := uintF_len 4 _ (by rw [u64N_of hc0 (by omega)]; show _ < 34359738368; omega)
    rw [if_neg h1, List.length_append]; omega
theorem may_branch {P : Nat} {c : PC} (h : mayP 3 P c = true) : c.kind = 3 := by
  unfold mayP at h
  split at h
  · cases h
  · rw [if_pos rfl] at h
    exact (of_decide_eq_true h).1
theorem pcF_le3 {i pre P : Nat} {c : PC} (hc : OkC P c) (h3 : c.kind = 3) (hP : P ≤ 65536) (kind : Int) : (pcF kind i c pre).length ≤ 11 + P / 8 := by
  have hrl : (restF kind i c.key pre).length ≤ c.key.length := by unfold restF; split <;> simp
  have hk0 := hc.k0
  have u1 : (uintF (restF kind i c.key pre).length).length ≤ 2 := uintF_len 1 _ (by show _ < 16384; omega)
  have h1 : c.kind ≠ 1 := by omega
  obtain ⟨hv, hp0, hp1, hc0, hc1⟩ := hc.v1 h1
  have u2 : (uintF (u64N c.page)).length ≤ 3 := uintF_len 2 _ (by rw [u64N_of hp0 (by omega)]; show _ < 2097152; omega)
  have u3 : (uintF (u64N c.count)).length ≤ 5 := uintF_len 4 _ (by rw [u64N_of hc0 (by omega)]; show _ < 34359738368; omega)
  unfold pcF
  simp only [List.length_cons, List.length_append]
  unfold kvF
  rw [if_neg h1, List.length_append]; omega
/-- Three cells that may be fit. -/
theorem three_fit {kind : Int} {l : List PC} {P : Nat} (hP : P ≤ 65536) (hP2 : 512 ≤ P) (h16 : P % 16 = 0) (hm : ∀ c ∈ l, mayP kind P c = true) (h3 : l.length ≤ 3) : psizeF kind l ≤ P := by
  have hz : psizeF kind l = 10 + sharedF kind l + 2 * l.length + (pbodyF kind (sharedF kind l) 0 l).length := rfl
  have hok : ∀ c ∈ l, OkC P c := fun c hc => may_ok (hm c hc)
  have hrs : ∀ (j : Nat) (hj : j < l.length), ¬ (kind = 3 ∧ j = 0) → (restF kind j l[j].key (sharedF kind l)).length + sharedF kind l = l[j].key.length := fun j hj hn => by
    have := (key_split hj hn).1
    unfold restF
    rw [if_neg hn, List.length_drop]; omega
  by_cases hk : kind = 3
  · subst hk
    have hb : ∀ (j : Nat) (hj : j < l.length), (pcF 3 j l[j] (sharedF 3 l)).length ≤ 11 + P / 8 := fun j hj => pcF_le3 (hok _ (List.getElem_mem hj)) (may_branch (hm _ (List.getElem_mem hj))) hP 3
    have hs : sharedF 3 l ≤ P / 8 := by
      rcases Nat.eq_zero_or_pos (sharedF 3 l) with h | h
      · omega
      · obtain ⟨i, hi, hn⟩ := sharedF_pos h
        have h1 := (key_split hi hn).1
        have h2 := (hok _ (List.getElem_mem hi)).k0
        omega
    rw [hz]
    generalize sharedF 3 l = s at *
    match l, h3 with
    | [], _ => simp [pbodyF]; omega
    | [a], _ =>
      have h0 := hb 0 (by simp)
      simp only [List.getElem_cons_zero] at h0
      simp only [pbodyF, List.length_append, List.length_nil, List.length_cons, Nat.zero_add, Nat.reduceAdd]; omega
    | [a, b], _ =>
      have h0 := hb 0 (by simp)
      have h1 := hb 1 (by simp)
      simp only [List.getElem_cons_zero, List.getElem_cons_succ] at h0 h1
      simp only [pbodyF, List.length_append, List.length_nil, List.length_cons, Nat.zero_add, Nat.reduceAdd]; omega
    | [a, b, c], _ =>
      have h0 := hb 0 (by simp)
      have h1 := hb 1 (by simp)
      have h2 := hb 2 (by simp)
      simp only [List.getElem_cons_zero, List.getElem_cons_succ] at h0 h1 h2
      simp only [pbodyF, List.length_append, List.length_nil, List.length_cons, Nat.zero_add, Nat.reduceAdd]; omega
  · have hb : ∀ (j : Nat) (hj : j < l.length), (pcF kind j l[j] (sharedF kind l)).length + sharedF kind l ≤ 5 + P / 8 + P / 16 * 3 := fun j hj => by
      have h1 := pcF_le (kind := kind) (i := j) (pre := sharedF kind l) (hok _ (List.getElem_mem hj)) hP hP2
      have h2 := hrs j hj (fun e => hk e.1)
      omega
    have hs0 : l = [] → sharedF kind l = 0 := fun e => by subst e; unfold sharedF keysF; simp [comLs]
    rw [hz]
    generalize sharedF kind l = s at *
    match l, h3 with
    | [], _ => have := hs0 rfl; simp [pbodyF]; omega
    | [a], _ =>
      have h0 := hb 0 (by simp)
      simp only [List.getElem_cons_zero] at h0
      simp only [pbodyF, List.length_append, List.length_nil, List.length_cons, Nat.zero_add, Nat.reduceAdd]; omega
    | [a, b], _ =>
      have h0 := hb 0 (by simp)
      have h1 := hb 1 (by simp)
      simp only [List.getElem_cons_zero, List.getElem_cons_succ] at h0 h1
      simp only [pbodyF, List.length_append, List.length_nil, List.length_cons, Nat.zero_add, Nat.reduceAdd]; omega
    | [a, b, c], _ =>
      have h0 := hb 0 (by simp)
      have h1 := hb 1 (by simp)
      have h2 := hb 2 (by simp)
      simp only [List.getElem_cons_zero, List.getElem_cons_succ] at h0 h1 h2
      simp only [pbodyF, List.length_append, List.length_nil, List.length_cons, Nat.zero_add, Nat.reduceAdd]; omega
end Go.Proofs.Ytfcnkpofcekmgaa
