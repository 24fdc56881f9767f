/- ink.ReadUint, espalierref01.ReadUint: walks. -/
import Derived.Test.YtijlebjldnhnaaaInkUint
import Derived.Test.YtijlebjldnhnaaaCut
namespace Go.Proofs.Ytijlebjldnhnaaa
open Go.RowKit
def ruV (l : List UInt8) (at_ : Int) : Nat × Int × Int :=
  if at_ < 0 ∨ (l.length : Int) < at_ then (0, 0, 1)
  else ((ruF 0 0 (l.drop at_.toNat)).1, bif (ruF 0 0 (l.drop at_.toNat)).2.2 == 0 then at_ + (ruF 0 0 (l.drop at_.toNat)).2.1 else 0, (ruF 0 0 (l.drop at_.toNat)).2.2)
def RuPost (l : List UInt8) (at_ : Int) (w : World) (e : Ending) (w' : World) : Prop :=
  e = .returned (.tuple #[.int .u64 ((ruV l at_).1 : Nat), .int .i64 (ruV l at_).2.1, .int .i64 (ruV l at_).2.2]) ∧ w = w'
theorem ruF_big {i n : Nat} {x : UInt8} {r : List UInt8} (h : i = 9 ∧ 1 < x.toNat) : ruF i n (x :: r) = (0, 0, 12) := by rw [ruF, if_pos h]
theorem ruF_form {i n : Nat} {x : UInt8} {r : List UInt8} (h9 : ¬ (i = 9 ∧ 1 < x.toNat)) (h : x.toNat = 0 ∧ 0 < i) : ruF i n (x :: r) = (0, 0, 11) := by rw [ruF, if_neg h9, if_pos h]
theorem ruF_end {i n : Nat} {x : UInt8} {r : List UInt8} (h9 : ¬ (i = 9 ∧ 1 < x.toNat)) (h : ¬ (x.toNat = 0 ∧ 0 < i)) (hx : x.toNat < 128) : ruF i n (x :: r) = (n + x.toNat % 128 * 128 ^ i, i + 1, 0) := by rw [ruF, if_neg h9, if_neg h, if_pos hx]
theorem ruF_more {i n : Nat} {x : UInt8} {r : List UInt8} (h9 : ¬ (i = 9 ∧ 1 < x.toNat)) (hx : ¬ x.toNat < 128) : ruF i n (x :: r) = ruF (i + 1) (n + x.toNat % 128 * 128 ^ i) r := by
  rw [ruF, if_neg h9, if_neg (by omega), if_neg hx]
theorem and127 (x : UInt8) : bits .and .u8 (x.toNat : Int) 127 = ((x.toNat % 128 : Nat) : Int) := by
  have hx := x.toNat_lt
  have h1 : (BitVec.ofInt 8 (x.toNat : Int)).toNat = x.toNat := by rw [BitVec.toNat_ofInt]; omega
  have h2 : (BitVec.ofInt 8 (127 : Int)).toNat = 127 := rfl
  show IntKind.u8.wrap ((BitVec.ofInt 8 (x.toNat : Int) &&& BitVec.ofInt 8 (127 : Int)).toNat : Int) = _
  rw [BitVec.toNat_and, h1, h2, IntKind.wrap_u8, show (127 : Nat) = 2 ^ 7 - 1 from rfl, Nat.and_two_pow_sub_one_eq_mod]
  omega
theorem or_shift (k x j : Nat) (hk : k < 128 ^ j) (hx : x % 128 * 128 ^ j < 18446744073709551616) (hs : k + x % 128 * 128 ^ j < 18446744073709551616) :
    bits .or .u64 (k : Int) (IntKind.u64.wrap ((x : Int) % 128 * 2 ^ (7 * j))) = ((k + x % 128 * 128 ^ j : Nat) : Int) := by
  have hp : (128 : Nat) ^ j = 2 ^ (7 * j) := by rw [Nat.pow_mul]
  have e1 : (x : Int) % 128 * 2 ^ (7 * j) = ((x % 128 * 128 ^ j : Nat) : Int) := by rw [hp]; push_cast; rfl
  rw [e1, IntKind.wrap_u64, show ((x % 128 * 128 ^ j : Nat) : Int) % 18446744073709551616 = ((x % 128 * 128 ^ j : Nat) : Int) by omega, u64_or_nat k _ (by omega) hx]
  congr 1
  rw [hp] at hk ⊢
  rw [Nat.or_comm, Nat.mul_comm (x % 128), ← Nat.two_pow_add_eq_or_of_lt hk, Nat.add_comm]
theorem pow9 : (128 : Nat) ^ 9 = 9223372036854775808 := by decide
theorem step_bound {k x j : Nat} (hk : k < 128 ^ j) (hj : j ≤ 9) (h9 : j = 9 → x ≤ 1) : x % 128 * 128 ^ j < 18446744073709551616 ∧ k + x % 128 * 128 ^ j < 18446744073709551616 ∧ k + x % 128 * 128 ^ j < 128 ^ (j + 1) := by
  have hp : (128 : Nat) ^ (j + 1) = 128 ^ j * 128 := Nat.pow_succ ..
  have hpos : 0 < 128 ^ j := Nat.pow_pos (by omega)
  have h1 : k + x % 128 * 128 ^ j < 128 ^ (j + 1) := by
    rw [hp, Nat.mul_comm (128 ^ j) 128]
    have : x % 128 * 128 ^ j ≤ 127 * 128 ^ j := Nat.mul_le_mul_right _ (by omega)
    omega
  refine ⟨?_, ?_, h1⟩
  · rcases Nat.lt_or_ge j 9 with h | h
    · have : 128 ^ (j + 1) ≤ 128 ^ 9 := Nat.pow_le_pow_right (by omega) (by omega)
      rw [pow9] at this
      omega
    · obtain rfl : j = 9 := by omega
      have := h9 rfl
      have : x % 128 * 128 ^ 9 ≤ 1 * 128 ^ 9 := Nat.mul_le_mul_right _ (by omega)
      rw [pow9] at this ⊢
      omega
  · rcases Nat.lt_or_ge j 9 with h | h
    · have : 128 ^ (j + 1) ≤ 128 ^ 9 := Nat.pow_le_pow_right (by omega) (by omega)
      rw [pow9] at this
      omega
    · obtain rfl : j = 9 := by omega
      have := h9 rfl
      have : x % 128 * 128 ^ 9 ≤ 1 * 128 ^ 9 := Nat.mul_le_mul_right _ (by omega)
      rw [pow9] at this hk ⊢
      omega
theorem ret3 {a a' b b' c c' : Value} (h1 : a = a') (h2 : b = b') (h3 : c = c') : Ending.returned (.tuple #[a, b, c]) = .returned (.tuple #[a', b', c']) := by rw [h1, h2, h3]
set_option maxRecDepth 20000 in
set_option maxHeartbeats 2000000 in
theorem ReadUint_any (v : Value) (l : List UInt8) (at_ : Int) (w : World) (hv : RdB w v l) : Calls Try.prog 23 #[v, .int .i64 at_] w (RuPost l at_ w) := by
  obtain ⟨A, c, rfl, hm⟩ := hv.form
  by_cases h1 : at_ < 0
  · have hV : Hid (ruV l at_ = (0, 0, 1)) := by show _ = _; unfold ruV; rw [if_pos (.inl h1)]
    go_enter Try.func23, Try.ntmps23
    go_wp2_with fail
    go_ret3
    unfold RuPost; rw [hV.out]; exact ⟨rfl, rfl⟩
  by_cases h2 : (l.length : Int) < at_
  · have hV : Hid (ruV l at_ = (0, 0, 1)) := by show _ = _; unfold ruV; rw [if_pos (.inr h2)]
    go_enter Try.func23, Try.ntmps23
    go_wp2_with fail
    go_ret3
    unfold RuPost; rw [hV.out]; exact ⟨rfl, rfl⟩
  obtain ⟨a, rfl⟩ := Int.eq_ofNat_of_zero_le (show 0 ≤ at_ by omega)
  have hV : Hid (∀ N K C, ruF 0 0 (l.drop a) = (N, K, C) → ruV l a = (N, bif C == 0 then (a : Int) + K else 0, C)) := Lib.hid fun N K C h => by
    unfold ruV; rw [if_neg (by omega), Int.toNat_natCast, h]
  have hal : a ≤ l.length := by omega
  obtain ⟨Ac, cc, q1, hr⟩ := hv.run_l a hal
  have q1 := q1 w
  have hrl : Hid ((l.drop a).length = l.length - a) := Lib.hid (by simp)
  generalize l.drop a = r at *
  have ham : (a : Int) + ((l.length - a : Nat) : Int) ≤ 9223372036854775807 := by omega
  generalize l.length - a = m at *
  go_enter Try.func23, Try.ntmps23
  go_wp2_with fail
  clear q1
  go_loopw [7, 22] (fun n i wr => ∃ (j k : Nat), i = .int .i64 (j : Int) ∧ n = .int .u64 (k : Int) ∧ j ≤ m ∧ j ≤ 9 ∧ Hid (k < 128 ^ j) ∧ Hid (ruF 0 0 r = ruF j k (r.drop j)) ∧ w = wr)
    (fun _ i _ => m - (intOf i).toNat)
  case atStart => exact ⟨0, 0, rfl, rfl, by omega, by omega, Lib.hid (by simp), Lib.hid (by simp), rfl⟩
  case round =>
    obtain ⟨j, k, rfl, rfl, hj, hj9, HK, HE, rfl⟩ := hrel
    by_cases hlt : j < m
    · have hjl : j < r.length := by rw [hrl.out]; exact hlt
      obtain ⟨ad, rfl, hc⟩ := hr.at_ hjl
      have hd := List.drop_eq_getElem_cons hjl
      have hxb : r[j].toNat < 256 := r[j].toNat_lt
      have hand := and127 r[j]
      generalize r[j] = x at hc hd hxb hand
      have HE2 := Lib.hid (HE.out.trans (by rw [hd]))
      clear hd HE
      by_cases hA : j = 9 ∧ 1 < x.toNat
      · have HE3 := Lib.hid (hV.out _ _ _ (HE2.out.trans (ruF_big hA)))
        have e9 : ((j : Int) == 9) = true := by simp; omega
        have e1 : (1 : Int) < (x.toNat : Int) := by omega
        clear hA
        go_wp2_with fail
        go_ret3
        unfold RuPost; rw [HE3.out]; exact ⟨rfl, rfl⟩
      · have HA := Lib.hid hA
        have hst := step_bound (k := k) (x := x.toNat) HK.out hj9 (fun h => by omega)
        obtain ⟨s1, s2, s3⟩ := hst
        have hor := or_shift k x.toNat j HK.out s1 s2
        obtain ⟨K', hK'⟩ : ∃ K', K' = k + x.toNat % 128 * 128 ^ j := ⟨_, rfl⟩
        rw [← hK'] at hor s3
        have HK' := Lib.hid hK'
        have S3 := Lib.hid s3
        clear hK' s3 s1 s2 hA
        rcases (by omega : (x.toNat = 0 ∧ 0 < j) ∨ (¬ (x.toNat = 0 ∧ 0 < j) ∧ x.toNat < 128) ∨ ¬ x.toNat < 128) with hB | ⟨hB, hx⟩ | hx
        · have HE3 := Lib.hid (hV.out _ _ _ (HE2.out.trans (ruF_form HA.out hB)))
          obtain ⟨hB1, hB2⟩ := hB
          have ex : ((x.toNat : Int) == 0) = true := by simp; omega
          have hx1 : ¬ (1 : Int) < (x.toNat : Int) := by omega
          clear hB1
          rcases (by omega : j ≠ 9 ∨ j = 9) with h9 | h9
          · have e9 : ((j : Int) == 9) = false := by simp; omega
            go_wp2_with fail
            go_ret3
            unfold RuPost; rw [HE3.out]; exact ⟨rfl, rfl⟩
          · have e9 : ((j : Int) == 9) = true := by simp; omega
            clear h9
            go_wp2_with fail
            go_ret3
            unfold RuPost; rw [HE3.out]; exact ⟨rfl, rfl⟩
        · have HE3 := Lib.hid (hV.out _ _ _ (HE2.out.trans ((ruF_end HA.out hB hx).trans (by rw [← HK'.out]))))
          have hbool : ((x.toNat : Int) == 0) = true ∧ ¬ (0 : Int) < (j : Int) ∨ ((x.toNat : Int) == 0) = false := by
            by_cases h0 : x.toNat = 0
            · exact .inl ⟨by simp; omega, by omega⟩
            · exact .inr (by simp; omega)
          have h9c : ((j : Int) == 9) = false ∨ ((j : Int) == 9) = true ∧ ¬ (1 : Int) < (x.toNat : Int) := by
            by_cases h9 : j = 9
            · exact .inr ⟨by simp; omega, by have := HA.out; omega⟩
            · exact .inl (by simp; omega)
          clear hB
          rcases hbool with ⟨ex, ej⟩ | ex <;> rcases h9c with e9 | ⟨e9, e1⟩
          · go_wp2_with fail
            go_ret3
            unfold RuPost; rw [HE3.out]; exact ⟨ret3 rfl (congrArg (Value.int .i64) (by show (a : Int) + (j : Int) + 1 = (a : Int) + ((j + 1 : Nat) : Int); omega)) rfl, rfl⟩
          · go_wp2_with fail
            go_ret3
            unfold RuPost; rw [HE3.out]; exact ⟨ret3 rfl (congrArg (Value.int .i64) (by show (a : Int) + (j : Int) + 1 = (a : Int) + ((j + 1 : Nat) : Int); omega)) rfl, rfl⟩
          · go_wp2_with fail
            go_ret3
            unfold RuPost; rw [HE3.out]; exact ⟨ret3 rfl (congrArg (Value.int .i64) (by show (a : Int) + (j : Int) + 1 = (a : Int) + ((j + 1 : Nat) : Int); omega)) rfl, rfl⟩
          · go_wp2_with fail
            go_ret3
            unfold RuPost; rw [HE3.out]; exact ⟨ret3 rfl (congrArg (Value.int .i64) (by show (a : Int) + (j : Int) + 1 = (a : Int) + ((j + 1 : Nat) : Int); omega)) rfl, rfl⟩
        · have ex : ((x.toNat : Int) == 0) = false := by simp; omega
          have h9 : j ≠ 9 := fun e => by have := HA.out; omega
          have e9 : ((j : Int) == 9) = false := by simp; omega
          have HE3 := Lib.hid (HE2.out.trans ((ruF_more HA.out hx).trans (by rw [← HK'.out])))
          go_wp2_with fail
          exact ⟨⟨j + 1, K', by go_num, rfl, by omega, by omega, S3, HE3, trivial⟩, by simp [intOf]; omega⟩
    · obtain rfl : j = m := by omega
      have HE3 := Lib.hid (hV.out _ _ _ (HE.out.trans (by rw [List.drop_of_length_le (by rw [hrl.out]; omega)])))
      go_wp2_with fail
      go_ret3
      unfold RuPost; rw [HE3.out]; exact ⟨rfl, rfl⟩
end Go.Proofs.Ytijlebjldnhnaaa
