/- Texts joined: ink.ReadUint, espalierref01.ReadUint; packed.reader's number, part, small; How a packed cell is read, step by step; packed.reader.cell; packed.written -/
import Derived.Test.YtfcnkpofcekmgaaNN3
import Derived.Test.YtfcnkpofcekmgaaNN8
import Derived.Test.YtfcnkpofcekmgaaNN9
import Derived.Test.YtfcnkpofcekmgaaNN11
import Derived.Deep.QuietTactic
import Derived.BigQuiet
import Derived.Deep.RegionLaw
import Derived.Deep.CutRange
import Derived.Deep.DeepCutAuto
-- ink.ReadUint, espalierref01.ReadUint: walks.
namespace Go.Proofs.Ytfcnkpofcekmgaa
open Go.RowKit
def ruV (l : List UInt8) (at_ : Int) : Nat × Int × Int :=
  if at_ < 0 ∨ (l.length : Int) < at_ then (0, 0, 1)
  else ((ruF 0 0 (l.drop at_.toNat)).1, bif (ruF 0 0 (l.drop at_.toNat)).2.2 == 0 then at_ + (ruF 0 0 (l.drop at_.toNat)).2.1 else 0, (ruF 0 0 (l.drop at_.toNat)).2.2)
def RuPost (l : List UInt8) (at_ : Int) (w : World) (e : Ending) (w' : World) : Prop :=
  e = .returned (.tuple #[.int .u64 ((ruV l at_).1 : Nat), .int .i64 (ruV l at_).2.1, .int .i64 (ruV l at_).2.2]) ∧ w = w'
theorem ruF_big {i n : Nat} {x : UInt8} {r : List UInt8} (h : i = 9 ∧ 1 < x.toNat) : ruF i n (x :: r) = (0, 0, 12) := by rw [ruF, if_pos h]
theorem ruF_form {i n : Nat} {x : UInt8} {r : List UInt8} (h9 : ¬ (i = 9 ∧ 1 < x.toNat)) (h : x.toNat = 0 ∧ 0 < i) : ruF i n (x :: r) = (0, 0, 11) := by rw [ruF, if_neg h9, if_pos h]
theorem ruF_end {i n : Nat} {x : UInt8} {r : List UInt8} (h9 : ¬ (i = 9 ∧ 1 < x.toNat)) (h : ¬ (x.toNat = 0 ∧ 0 < i)) (hx : x.toNat < 128) : ruF i n (x :: r) = (n + x.toNat % 128 * 128 ^ i, i + 1, 0) := by rw [ruF, if_neg h9, if_neg h, if_pos hx]
theorem ruF_more {i n : Nat} {x : UInt8} {r : List UInt8} (h9 : ¬ (i = 9 ∧ 1 < x.toNat)) (hx : ¬ x.toNat < 128) : ruF i n (x :: r) = ruF (i + 1) (n + x.toNat % 128 * 128 ^ i) r := by
  rw [ruF, if_neg h9, if_neg (by omega), if_neg hx]
theorem and127 (x : UInt8) : bits .and .u8 (x.toNat : Int) 127 = ((x.toNat % 128 : Nat) : Int) := by
  have hx := x.toNat_lt
  have h1 : (BitVec.ofInt 8 (x.toNat : Int)).toNat = x.toNat := by rw [BitVec.toNat_ofInt]; omega
  have h2 : (BitVec.ofInt 8 (127 : Int)).toNat = 127 := rfl
  show IntKind.u8.wrap ((BitVec.ofInt 8 (x.toNat : Int) &&& BitVec.ofInt 8 (127 : Int)).toNat : Int) = _
  rw [BitVec.toNat_and, h1, h2, IntKind.wrap_u8, show (127 : Nat) = 2 ^ 7 - 1 from rfl, Nat.and_two_pow_sub_one_eq_mod]
  omega
theorem or_shift (k x j : Nat) (hk : k < 128 ^ j) (hx : x % 128 * 128 ^ j < 18446744073709551616) (hs : k + x % 128 * 128 ^ j < 18446744073709551616) :
    bits .or .u64 (k : Int) (IntKind.u64.wrap ((x : Int) % 128 * 2 ^ (7 * j))) = ((k + x % 128 * 128 ^ j : Nat) : Int) := by
  have hp : (128 : Nat) ^ j = 2 ^ (7 * j) := by rw [Nat.pow_mul]
  have e1 : (x : Int) % 128 * 2 ^ (7 * j) = ((x % 128 * 128 ^ j : Nat) : Int) := by rw [hp]; push_cast; rfl
  rw [e1, IntKind.wrap_u64, show ((x % 128 * 128 ^ j : Nat) : Int) % 18446744073709551616 = ((x % 128 * 128 ^ j : Nat) : Int) by omega, u64_or_nat k _ (by omega) hx]
  congr 1
  rw [hp] at hk ⊢
  rw [Nat.or_comm, Nat.mul_comm (x % 128), ← Nat.two_pow_add_eq_or_of_lt hk, Nat.add_comm]
theorem pow9 : (128 : Nat) ^ 9 = 9223372036854775808 := by decide
theorem step_bound {k x j : Nat} (hk : k < 128 ^ j) (hj : j ≤ 9) (h9 : j = 9 → x ≤ 1) : x % 128 * 128 ^ j < 18446744073709551616 ∧ k + x % 128 * 128 ^ j < 18446744073709551616 ∧ k + x % 128 * 128 ^ j < 128 ^ (j + 1) := by
  have hp : (128 : Nat) ^ (j + 1) = 128 ^ j * 128 := Nat.pow_succ ..
  have hpos : 0 < 128 ^ j := Nat.pow_pos (by omega)
  have h1 : k + x % 128 * 128 ^ j < 128 ^ (j + 1) := by
    rw [hp, Nat.mul_comm (128 ^ j) 128]
    have : x % 128 * 128 ^ j ≤ 127 * 128 ^ j := Nat.mul_le_mul_right _ (by omega)
    omega
  refine ⟨?_, ?_, h1⟩
  · rcases Nat.lt_or_ge j 9 with h | h
    · have : 128 ^ (j + 1) ≤ 128 ^ 9 := Nat.pow_le_pow_right (by omega) (by omega)
      rw [pow9] at this
      omega
    · obtain rfl : j = 9 := by omega
      have := h9 rfl
      have : x % 128 * 128 ^ 9 ≤ 1 * 128 ^ 9 := Nat.mul_le_mul_right _ (by omega)
      rw [pow9] at this ⊢
      omega
  · rcases Nat.lt_or_ge j 9 with h | h
    · have : 128 ^ (j + 1) ≤ 128 ^ 9 := Nat.pow_le_pow_right (by omega) (by omega)
      rw [pow9] at this
      omega
    · obtain rfl : j = 9 := by omega
      have := h9 rfl
      have : x % 128 * 128 ^ 9 ≤ 1 * 128 ^ 9 := Nat.mul_le_mul_right _ (by omega)
      rw [pow9] at this hk ⊢
      omega
theorem ret3 {a a' b b' c c' : Value} (h1 : a = a') (h2 : b = b') (h3 : c = c') : Ending.returned (.tuple #[a, b, c]) = .returned (.tuple #[a', b', c']) := by rw [h1, h2, h3]
set_option maxRecDepth 20000 in
set_option maxHeartbeats 2000000 in
theorem ReadUint_any (v : Value) (l : List UInt8) (at_ : Int) (w : World) (hv : RdB w v l) : Calls Try.prog 64 #[v, .int .i64 at_] w (RuPost l at_ w) := by
  obtain ⟨A, c, rfl, hm⟩ := hv.form
  by_cases h1 : at_ < 0
  · have hV : Hid (ruV l at_ = (0, 0, 1)) := by show _ = _; unfold ruV; rw [if_pos (.inl h1)]
    go_enter Try.func64, Try.ntmps64
    go_wp2_with fail
    go_ret3
    unfold RuPost; rw [hV.out]; exact ⟨rfl, rfl⟩
  by_cases h2 : (l.length : Int) < at_
  · have hV : Hid (ruV l at_ = (0, 0, 1)) := by show _ = _; unfold ruV; rw [if_pos (.inr h2)]
    go_enter Try.func64, Try.ntmps64
    go_wp2_with fail
    go_ret3
    unfold RuPost; rw [hV.out]; exact ⟨rfl, rfl⟩
  obtain ⟨a, rfl⟩ := Int.eq_ofNat_of_zero_le (show 0 ≤ at_ by omega)
  have hV : Hid (∀ N K C, ruF 0 0 (l.drop a) = (N, K, C) → ruV l a = (N, bif C == 0 then (a : Int) + K else 0, C)) := Lib.hid fun N K C h => by
    unfold ruV; rw [if_neg (by omega), Int.toNat_natCast, h]
  have hal : a ≤ l.length := by omega
  obtain ⟨Ac, cc, q1, hr⟩ := hv.run_l a hal
  have q1 := q1 w
  have hrl : Hid ((l.drop a).length = l.length - a) := Lib.hid (by simp)
  generalize l.drop a = r at *
  have ham : (a : Int) + ((l.length - a : Nat) : Int) ≤ 9223372036854775807 := by omega
  generalize l.length - a = m at *
  go_enter Try.func64, Try.ntmps64
  go_wp2_with fail
  clear q1
  go_loopw [7, 22] (fun n i wr => ∃ (j k : Nat), i = .int .i64 (j : Int) ∧ n = .int .u64 (k : Int) ∧ j ≤ m ∧ j ≤ 9 ∧ Hid (k < 128 ^ j) ∧ Hid (ruF 0 0 r = ruF j k (r.drop j)) ∧ w = wr)
    (fun _ i _ => m - (intOf i).toNat)
  case atStart => exact ⟨0, 0, rfl, rfl, by omega, by omega, Lib.hid (by simp), Lib.hid (by simp), rfl⟩
  case round =>
    obtain ⟨j, k, rfl, rfl, hj, hj9, HK, HE, rfl⟩ := hrel
    by_cases hlt : j < m
    · have hjl : j < r.length := by rw [hrl.out]; exact hlt
      obtain ⟨ad, rfl, hc⟩ := hr.at_ hjl
      have hd := List.drop_eq_getElem_cons hjl
      have hxb : r[j].toNat < 256 := r[j].toNat_lt
      have hand := and127 r[j]
      generalize r[j] = x at hc hd hxb hand
      have HE2 := Lib.hid (HE.out.trans (by rw [hd]))
      clear hd HE
      by_cases hA : j = 9 ∧ 1 < x.toNat
      · have HE3 := Lib.hid (hV.out _ _ _ (HE2.out.trans (ruF_big hA)))
        have e9 : ((j : Int) == 9) = true := by simp; omega
        have e1 : (1 : Int) < (x.toNat : Int) := by omega
        clear hA
        go_wp2_with fail
        go_ret3
        unfold RuPost; rw [HE3.out]; exact ⟨rfl, rfl⟩
      · have HA := Lib.hid hA
        have hst := step_bound (k := k) (x := x.toNat) HK.out hj9 (fun h => by omega)
        obtain ⟨s1, s2, s3⟩ := hst
        have hor := or_shift k x.toNat j HK.out s1 s2
        obtain ⟨K', hK'⟩ : ∃ K', K' = k + x.toNat % 128 * 128 ^ j := ⟨_, rfl⟩
        rw [← hK'] at hor s3
        have HK' := Lib.hid hK'
        have S3 := Lib.hid s3
        clear hK' s3 s1 s2 hA
        rcases (by omega : (x.toNat = 0 ∧ 0 < j) ∨ (¬ (x.toNat = 0 ∧ 0 < j) ∧ x.toNat < 128) ∨ ¬ x.toNat < 128) with hB | ⟨hB, hx⟩ | hx
        · have HE3 := Lib.hid (hV.out _ _ _ (HE2.out.trans (ruF_form HA.out hB)))
          obtain ⟨hB1, hB2⟩ := hB
          have ex : ((x.toNat : Int) == 0) = true := by simp; omega
          have hx1 : ¬ (1 : Int) < (x.toNat : Int) := by omega
          clear hB1
          rcases (by omega : j ≠ 9 ∨ j = 9) with h9 | h9
          · have e9 : ((j : Int) == 9) = false := by simp; omega
            go_wp2_with fail
            go_ret3
            unfold RuPost; rw [HE3.out]; exact ⟨rfl, rfl⟩
          · have e9 : ((j : Int) == 9) = true := by simp; omega
            clear h9
            go_wp2_with fail
            go_ret3
            unfold RuPost; rw [HE3.out]; exact ⟨rfl, rfl⟩
        · have HE3 := Lib.hid (hV.out _ _ _ (HE2.out.trans ((ruF_end HA.out hB hx).trans (by rw [← HK'.out]))))
          have hbool : ((x.toNat : Int) == 0) = true ∧ ¬ (0 : Int) < (j : Int) ∨ ((x.toNat : Int) == 0) = false := by
            by_cases h0 : x.toNat = 0
            · exact .inl ⟨by simp; omega, by omega⟩
            · exact .inr (by simp; omega)
          have h9c : ((j : Int) == 9) = false ∨ ((j : Int) == 9) = true ∧ ¬ (1 : Int) < (x.toNat : Int) := by
            by_cases h9 : j = 9
            · exact .inr ⟨by simp; omega, by have := HA.out; omega⟩
            · exact .inl (by simp; omega)
          clear hB
          rcases hbool with ⟨ex, ej⟩ | ex <;> rcases h9c with e9 | ⟨e9, e1⟩
          · go_wp2_with fail
            go_ret3
            unfold RuPost; rw [HE3.out]; exact ⟨ret3 rfl (congrArg (Value.int .i64) (by show (a : Int) + (j : Int) + 1 = (a : Int) + ((j + 1 : Nat) : Int); omega)) rfl, rfl⟩
          · go_wp2_with fail
            go_ret3
            unfold RuPost; rw [HE3.out]; exact ⟨ret3 rfl (congrArg (Value.int .i64) (by show (a : Int) + (j : Int) + 1 = (a : Int) + ((j + 1 : Nat) : Int); omega)) rfl, rfl⟩
          · go_wp2_with fail
            go_ret3
            unfold RuPost; rw [HE3.out]; exact ⟨ret3 rfl (congrArg (Value.int .i64) (by show (a : Int) + (j : Int) + 1 = (a : Int) + ((j + 1 : Nat) : Int); omega)) rfl, rfl⟩
          · go_wp2_with fail
            go_ret3
            unfold RuPost; rw [HE3.out]; exact ⟨ret3 rfl (congrArg (Value.int .i64) (by show (a : Int) + (j : Int) + 1 = (a : Int) + ((j + 1 : Nat) : Int); omega)) rfl, rfl⟩
        · have ex : ((x.toNat : Int) == 0) = false := by simp; omega
          have h9 : j ≠ 9 := fun e => by have := HA.out; omega
          have e9 : ((j : Int) == 9) = false := by simp; omega
          have HE3 := Lib.hid (HE2.out.trans ((ruF_more HA.out hx).trans (by rw [← HK'.out])))
          go_wp2_with fail
          exact ⟨⟨j + 1, K', by go_num, rfl, by omega, by omega, S3, HE3, trivial⟩, by simp [intOf]; omega⟩
    · obtain rfl : j = m := by omega
      have HE3 := Lib.hid (hV.out _ _ _ (HE.out.trans (by rw [List.drop_of_length_le (by rw [hrl.out]; omega)])))
      go_wp2_with fail
      go_ret3
      unfold RuPost; rw [HE3.out]; exact ⟨rfl, rfl⟩
end Go.Proofs.Ytfcnkpofcekmgaa

-- packed.reader's number, part, small: walks.
namespace Go.Proofs.Ytfcnkpofcekmgaa
open Go.RowKit
def nuK (d : List UInt8) (at_ : Nat) (bad : Bool) : Nat × Nat × Bool :=
  if bad = true ∨ (ruF 0 0 (d.drop at_)).2.2 ≠ 0 then (0, at_, true) else ((ruF 0 0 (d.drop at_)).1, at_ + (ruF 0 0 (d.drop at_)).2.1, false)
def paK (d : List UInt8) (at_ : Nat) (bad : Bool) (n : Nat) : List UInt8 × Nat × Bool :=
  if bad = true ∨ d.length - at_ < n then ([], at_, true) else ((d.drop at_).take n, at_ + n, false)
def smK (d : List UInt8) (at_ : Nat) (bad : Bool) : Nat × Nat × Bool :=
  if 2147483648 < (nuK d at_ bad).1 then (0, (nuK d at_ bad).2.1, true) else nuK d at_ bad
theorem nuK_le {d : List UInt8} {at_ : Nat} (bad : Bool) (h : at_ ≤ d.length) : (nuK d at_ bad).2.1 ≤ d.length := by
  unfold nuK
  split
  · exact h
  · rename_i hn
    rcases hr : ruF 0 0 (d.drop at_) with ⟨N, K, E⟩
    rw [hr] at hn
    simp only [not_or, Decidable.not_not] at hn
    obtain ⟨_, hE⟩ := hn
    subst hE
    obtain ⟨_, h2, _⟩ := ruF_one (d.drop at_) 0 0 N K (by omega) hr
    rw [List.length_drop] at h2
    simp only [hr]; omega
theorem paK_le {d : List UInt8} {at_ : Nat} (bad : Bool) (n : Nat) (h : at_ ≤ d.length) : (paK d at_ bad n).2.1 ≤ d.length := by
  unfold paK
  split
  · exact h
  · rename_i hn; simp only [not_or] at hn; simp only; omega
theorem smK_le {d : List UInt8} {at_ : Nat} (bad : Bool) (h : at_ ≤ d.length) : (smK d at_ bad).2.1 ≤ d.length := by
  unfold smK
  split
  · exact nuK_le bad h
  · exact nuK_le bad h
theorem smK_small (d : List UInt8) (at_ : Nat) (bad : Bool) : (smK d at_ bad).1 ≤ 2147483648 := by
  unfold smK
  split
  · simp
  · omega
theorem paK_len (d : List UInt8) (at_ : Nat) (bad : Bool) (n : Nat) : (paK d at_ bad n).1.length ≤ d.length := by
  unfold paK
  split
  · simp
  · rw [List.length_take, List.length_drop]; omega
theorem Ru_nat (d : List UInt8) (at_ : Nat) (ha : at_ ≤ d.length) (N K : Nat) (E : Int) (hr : ruF 0 0 (d.drop at_) = (N, K, E)) (v : Value) (w : World) (hv : RdB w v d) :
    Calls Try.prog 64 #[v, .int .i64 (at_ : Int)] w fun e w' => e = .returned (.tuple #[.int .u64 (N : Int), .int .i64 (bif E == 0 then (at_ : Int) + K else 0), .int .i64 E]) ∧ w' = w :=
  (ReadUint_any v d at_ w hv).mono fun e w' h => by
    unfold RuPost ruV at h
    rw [if_neg (by omega), Int.toNat_natCast, hr] at h
    exact ⟨h.1, h.2.symm⟩
/-- What a reader's method leaves. -/
def RdrAt (w : World) (r : Nat) (v : Value) (at_ : Nat) (bad : Bool) (w' : World) : Prop := OBlk w' r 85 [v, .int .i64 (at_ : Int), .bool bad] ∧ Turn (fun g => g = r) w w'
set_option maxRecDepth 20000 in
set_option maxHeartbeats 2000000 in
theorem Rnumber_any (d : List UInt8) (hd : d.length ≤ 65536) (at_ : Nat) (ha : at_ ≤ d.length) (bad : Bool) (r : Nat) (v : Value) (w : World) (hv : RdB w v d) (ho : OBlk w r 85 [v, .int .i64 (at_ : Int), .bool bad]) :
    Calls Try.prog 60 #[.pointer (some ⟨r, 0, none⟩)] w fun e w' => e = .returned (.int .u64 ((nuK d at_ bad).1 : Nat)) ∧ RdrAt w r v (nuK d at_ bad).2.1 (nuK d at_ bad).2.2 w' := by
  obtain ⟨A, c, rfl, hm⟩ := hv.form
  rcases hr : ruF 0 0 (d.drop at_) with ⟨N, K, E⟩
  have hru := fun n => Ru_nat d at_ ha N K E hr (.slice A d.length c) (w.drewN n) hv
  have c0 : w.cell? ⟨r, 0, none⟩ = some (.slice A d.length c) := ho.cell' (j := 0) rfl
  have c1 : w.cell? ⟨r, 1, none⟩ = some (.int .i64 (at_ : Int)) := ho.cell' (j := 1) rfl
  have c2 : w.cell? ⟨r, 2, none⟩ = some (.bool bad) := ho.cell' (j := 2) rfl
  have f1 := ho.frozen (j := 1) (by simp)
  have f2 := ho.frozen (j := 2) (by simp)
  have HRU := Lib.hid hru
  have HR := Lib.hid hr
  clear hru hr
  cases bad with
  | true =>
    have HN : Hid (nuK d at_ true = (0, at_, true)) := by show _ = _; unfold nuK; rw [if_pos (.inl rfl)]
    generalize (bif E == 0 then (at_ : Int) + K else 0) = T at *
    go_enter Try.func60, Try.ntmps60
    go_upto_region 1 with (fail)
    go_quiet ((go_at_call 64; exact Calls.quiet_of_same (HRU.out _)))
    go_wp2_with fail
    go_ret
    rw [HN.out]
    exact ⟨rfl, by have := ho.drew.set 2 (.bool true); exact this, ((Turn.refl (fun g => g = r) w).drewN _).setCell _ _ (.inl rfl)⟩
  | false =>
    by_cases hE : E = 0
    · subst hE
      have HN : Hid (nuK d at_ false = (N, at_ + K, false)) := by show _ = _; unfold nuK; rw [HR.out, if_neg (by simp)]
      go_enter Try.func60, Try.ntmps60
      go_upto_region 1 with (fail)
      go_quiet ((go_at_call 64; exact Calls.quiet_of_same (HRU.out _)))
      go_wp2_with fail
      go_ret
      rw [HN.out]
      exact ⟨rfl, by have := ho.drew.set 1 (.int .i64 ((at_ : Int) + (K : Int))); exact this, ((Turn.refl (fun g => g = r) w).drewN _).setCell _ _ (.inl rfl)⟩
    · have HN : Hid (nuK d at_ false = (0, at_, true)) := by show _ = _; unfold nuK; rw [HR.out, if_pos (.inr hE)]
      have hnb : (E != 0) = true := by simp only [bne, beq_eq_false_iff_ne.2 hE]; rfl
      generalize (bif E == 0 then (at_ : Int) + K else 0) = T at *
      go_enter Try.func60, Try.ntmps60
      go_upto_region 1 with (fail)
      go_quiet ((go_at_call 64; exact Calls.quiet_of_same (HRU.out _)))
      go_wp2_with fail
      go_ret
      rw [HN.out]
      exact ⟨rfl, by have := ho.drew.set 2 (.bool true); exact this, ((Turn.refl (fun g => g = r) w).drewN _).setCell _ _ (.inl rfl)⟩
set_option maxRecDepth 20000 in
set_option maxHeartbeats 2000000 in
theorem Rpart_any (W : World) (d : List UInt8) (hd : d.length ≤ 65536) (at_ : Nat) (ha : at_ ≤ d.length) (bad : Bool) (n : Nat) (r : Nat) (v : Value) (w : World) (hv : RdB W v d) (ho : OBlk w r 85 [v, .int .i64 (at_ : Int), .bool bad]) :
    Calls Try.prog 59 #[.pointer (some ⟨r, 0, none⟩), .int .u64 (n : Int)] w fun e w' => ∃ A c, e = .returned (.slice A (paK d at_ bad n).1.length c) ∧ RdB W (.slice A (paK d at_ bad n).1.length c) (paK d at_ bad n).1 ∧ RdrAt w r v (paK d at_ bad n).2.1 (paK d at_ bad n).2.2 w' := by
  obtain ⟨A, c, rfl, hm⟩ := hv.form
  have c0 : w.cell? ⟨r, 0, none⟩ = some (.slice A d.length c) := ho.cell' (j := 0) rfl
  have c1 : w.cell? ⟨r, 1, none⟩ = some (.int .i64 (at_ : Int)) := ho.cell' (j := 1) rfl
  have c2 : w.cell? ⟨r, 2, none⟩ = some (.bool bad) := ho.cell' (j := 2) rfl
  have f1 := ho.frozen (j := 1) (by simp)
  have f2 := ho.frozen (j := 2) (by simp)
  cases bad with
  | true =>
    have HN : Hid (paK d at_ true n = ([], at_, true)) := by show _ = _; unfold paK; rw [if_pos (.inl rfl)]
    rw [HN.out]
    go_enter Try.func59, Try.ntmps59
    go_upto_region 1 with (fail)
    go_quiet (fail)
    go_wp2_with fail
    go_ret
    exact ⟨_, _, rfl, RdB.nil, by have := ho.drew.set 2 (.bool true); exact this, ((Turn.refl (fun g => g = r) w).drewN _).setCell _ _ (.inl rfl)⟩
  | false =>
    have e1 : IntKind.i64.wrap ((d.length : Int) - (at_ : Int)) = (d.length : Int) - (at_ : Int) := by rw [IntKind.wrap_i64]; omega
    have e2 : IntKind.u64.wrap ((d.length : Int) - (at_ : Int)) = (d.length : Int) - (at_ : Int) := by rw [IntKind.wrap_u64]; omega
    by_cases h : d.length - at_ < n
    · have HN : Hid (paK d at_ false n = ([], at_, true)) := by show _ = _; unfold paK; rw [if_pos (.inr h)]
      have i1 : (d.length : Int) - (at_ : Int) < (n : Int) := by omega
      rw [HN.out]
      go_enter Try.func59, Try.ntmps59
      go_upto_region 1 with (fail)
      go_quiet (fail)
      go_wp2_with fail
      go_ret
      exact ⟨_, _, rfl, RdB.nil, by have := ho.drew.set 2 (.bool true); exact this, ((Turn.refl (fun g => g = r) w).drewN _).setCell _ _ (.inl rfl)⟩
    · have HN : Hid (paK d at_ false n = ((d.drop at_).take n, at_ + n, false)) := by show _ = _; unfold paK; rw [if_neg (by simp; omega)]
      have i1 : ¬ (d.length : Int) - (at_ : Int) < (n : Int) := by omega
      have e3 : IntKind.i64.wrap (n : Int) = (n : Int) := by rw [IntKind.wrap_i64]; omega
      have e4 : IntKind.i64.wrap ((at_ : Int) + (n : Int)) = (at_ : Int) + (n : Int) := by rw [IntKind.wrap_i64]; omega
      have e5 : IntKind.i64.wrap ((at_ : Int) + (n : Int) - (n : Int)) = (at_ : Int) := by rw [IntKind.wrap_i64]; omega
      have e6 : (at_ : Int) + (n : Int) - (n : Int) = (at_ : Int) := by omega
      obtain ⟨A2, c3, hrun, hrd⟩ := hv.run_lh at_ (at_ + n) (by omega) (by omega)
      have hl : at_ + n - at_ = n := by omega
      have hld : ((d.take (at_ + n)).drop at_) = (d.drop at_).take n := by rw [List.drop_take]; congr 1
      have hll : ((d.drop at_).take n).length = n := by rw [List.length_take, List.length_drop]; omega
      rw [hl] at hrun hrd
      rw [hld] at hrd
      have hrun' : ∀ w', (Instr.slice 29 (.slice A d.length c) (some (.int .i64 (at_ : Int))) (some (.int .i64 ((at_ : Int) + (n : Int)))) none).run Try.prog w' = .ok (.slice A2 n c3) w' := fun w' => by have := hrun w'; rw [Int.natCast_add] at this; exact this
      rw [HN.out]
      simp only [hll]
      have HRD := Lib.hid hrd
      clear hl hld hll hrun hrd
      go_enter Try.func59, Try.ntmps59
      go_upto_region 1 with (fail)
      go_quiet (fail)
      go_upto_region 5 with (fail)
      have ho2 : OBlk ((w.drewN nq).setCell ⟨r, 1, none⟩ (.int .i64 ((at_ : Int) + (n : Int)))) r 85 [.slice A d.length c, .int .i64 ((at_ : Int) + (n : Int)), .bool false] := ho.drew.set 1 (.int .i64 ((at_ : Int) + (n : Int)))
      have hT : Turn (fun g => g = r) w ((w.drewN nq).setCell ⟨r, 1, none⟩ (.int .i64 ((at_ : Int) + (n : Int)))) := ((Turn.refl (fun g => g = r) w).drewN _).setCell _ _ (.inl rfl)
      clear c0 c1 c2 f1 f2
      generalize (w.drewN nq).setCell ⟨r, 1, none⟩ (.int .i64 ((at_ : Int) + (n : Int))) = w2 at *
      have d0 : w2.cell? ⟨r, 0, none⟩ = some (.slice A d.length c) := ho2.cell' (j := 0) rfl
      have d1 : w2.cell? ⟨r, 1, none⟩ = some (.int .i64 ((at_ : Int) + (n : Int))) := ho2.cell' (j := 1) rfl
      go_region
      go_wp2_with fail
      go_ret
      exact ⟨_, _, rfl, HRD.out, by have := ho2.drew; exact this, hT.drew⟩
set_option maxRecDepth 20000 in
set_option maxHeartbeats 2000000 in
theorem Rsmall_any (d : List UInt8) (hd : d.length ≤ 65536) (at_ : Nat) (ha : at_ ≤ d.length) (bad : Bool) (r : Nat) (v : Value) (w : World) (hv : RdB w v d) (ho : OBlk w r 85 [v, .int .i64 (at_ : Int), .bool bad]) :
    Calls Try.prog 61 #[.pointer (some ⟨r, 0, none⟩)] w fun e w' => e = .returned (.int .i64 ((smK d at_ bad).1 : Nat)) ∧ RdrAt w r v (smK d at_ bad).2.1 (smK d at_ bad).2.2 w' := by
  have hn := Rnumber_any d hd at_ ha bad r v w hv ho
  unfold smK
  generalize nuK d at_ bad = z at *
  obtain ⟨n, t, b⟩ := z
  simp only at hn ⊢
  by_cases h : 2147483648 < n
  · have i1 : (2147483648 : Int) < (n : Int) := by omega
    rw [if_pos h]
    clear ho
    go_enter Try.func61, Try.ntmps61
    go_upto_region 2 with (first
      | (go_at_call 60; (with_reducible refine hn.mono ?_); rintro e w2 ⟨rfl, ho, hT⟩)
      | fail)
    have c2 : w2.cell? ⟨r, 2, none⟩ = some (.bool b) := ho.cell' (j := 2) rfl
    have f2 := ho.frozen (j := 2) (by simp)
    go_wp2_with fail
    go_ret
    exact ⟨rfl, by have := ho.set 2 (.bool true); exact this, hT.setCell _ _ (.inl rfl)⟩
  · have i1 : ¬ (2147483648 : Int) < (n : Int) := by omega
    have e3 : IntKind.i64.wrap (n : Int) = (n : Int) := by rw [IntKind.wrap_i64]; omega
    rw [if_neg h]
    clear ho
    go_enter Try.func61, Try.ntmps61
    go_wp2_with (first
      | (go_at_call 60; (with_reducible refine hn.mono ?_); rintro e w2 ⟨rfl, ho, hT⟩)
      | fail)
    go_ret
    exact ⟨rfl, ho, hT⟩
/-! in words of pieces -/
def rdrE (r : Nat) (v : Value) (at_ : Nat) (bad : Bool) : Ent := blkE r 85 [v, .int .i64 (at_ : Int), .bool bad]
theorem Sep.rdr {w0 w w' : World} {L : List Ent} {r : Nat} {v : Value} {at_ at' : Nat} {bad bad' : Bool} (h : Sep w0 w (rdrE r v at_ bad :: L)) (hr : RdrAt w r v at' bad' w') : Sep w0 w' (rdrE r v at' bad' :: L) :=
  h.upd hr.2 hr.1 (fun g hg => ⟨.inl hg, by have h1 := h.lt g hg; have h2 := hr.2.size; omega⟩)
theorem Rnumber_sep {w0 w : World} {L : List Ent} {r : Nat} {v : Value} {d : List UInt8} {at_ : Nat} {bad : Bool} (h : Sep w0 w (rdrE r v at_ bad :: L)) (ho : oldE w0 ∈ L) (hv : RdB w0 v d) (hd : d.length ≤ 65536) (ha : at_ ≤ d.length) :
    Calls Try.prog 60 #[.pointer (some ⟨r, 0, none⟩)] w fun e w' => e = .returned (.int .u64 ((nuK d at_ bad).1 : Nat)) ∧ Sep w0 w' (rdrE r v (nuK d at_ bad).2.1 (nuK d at_ bad).2.2 :: L) :=
  (Rnumber_any d hd at_ ha bad r v w (h.rd (List.mem_cons_of_mem _ ho) hv) h.head).mono fun _ _ ⟨h1, h2⟩ => ⟨h1, h.rdr h2⟩
theorem Rpart_sep {w0 w : World} {L : List Ent} {r : Nat} {v : Value} {d : List UInt8} {at_ : Nat} {bad : Bool} (h : Sep w0 w (rdrE r v at_ bad :: L)) (hv : RdB w0 v d) (hd : d.length ≤ 65536) (ha : at_ ≤ d.length) (n : Nat) :
    Calls Try.prog 59 #[.pointer (some ⟨r, 0, none⟩), .int .u64 (n : Int)] w fun e w' => ∃ A c, e = .returned (.slice A (paK d at_ bad n).1.length c) ∧ RdB w0 (.slice A (paK d at_ bad n).1.length c) (paK d at_ bad n).1 ∧ Sep w0 w' (rdrE r v (paK d at_ bad n).2.1 (paK d at_ bad n).2.2 :: L) :=
  (Rpart_any w0 d hd at_ ha bad n r v w hv h.head).mono fun _ _ ⟨A, c, h1, h2, h3⟩ => ⟨A, c, h1, h2, h.rdr h3⟩
theorem Rsmall_sep {w0 w : World} {L : List Ent} {r : Nat} {v : Value} {d : List UInt8} {at_ : Nat} {bad : Bool} (h : Sep w0 w (rdrE r v at_ bad :: L)) (ho : oldE w0 ∈ L) (hv : RdB w0 v d) (hd : d.length ≤ 65536) (ha : at_ ≤ d.length) :
    Calls Try.prog 61 #[.pointer (some ⟨r, 0, none⟩)] w fun e w' => e = .returned (.int .i64 ((smK d at_ bad).1 : Nat)) ∧ Sep w0 w' (rdrE r v (smK d at_ bad).2.1 (smK d at_ bad).2.2 :: L) :=
  (Rsmall_any d hd at_ ha bad r v w (h.rd (List.mem_cons_of_mem _ ho) hv) h.head).mono fun _ _ ⟨h1, h2⟩ => ⟨h1, h.rdr h2⟩
end Go.Proofs.Ytfcnkpofcekmgaa

-- How a packed cell is read, step by step: plain laws.
namespace Go.Proofs.Ytfcnkpofcekmgaa
def tailS (d : List UInt8) (key : List UInt8) (kb : Int) (t : Nat) (b : Bool) : PC × Nat × Bool :=
  if kb = 1 then
    (⟨key, kb, (paK d (nuK d t b).2.1 (nuK d t b).2.2 (nuK d t b).1).1, 0, 0⟩, (paK d (nuK d t b).2.1 (nuK d t b).2.2 (nuK d t b).1).2.1, (paK d (nuK d t b).2.1 (nuK d t b).2.2 (nuK d t b).1).2.2)
  else
    (⟨key, kb, [], ((smK d t b).1 : Nat), ((smK d (smK d t b).2.1 (smK d t b).2.2).1 : Nat)⟩, (smK d (smK d t b).2.1 (smK d t b).2.2).2.1, (smK d (smK d t b).2.1 (smK d t b).2.2).2.2)
def headS (d : List UInt8) (at_ : Nat) : List UInt8 × Nat × Bool := paK d at_ false 1
def restS (d : List UInt8) (t : Nat) (b : Bool) : List UInt8 × Nat × Bool := paK d (nuK d t b).2.1 (nuK d t b).2.2 (nuK d t b).1
def cellS (d : List UInt8) (kind : Int) (i : Nat) (pre : List UInt8) (at_ : Nat) : PC × Nat × Bool :=
  tailS d ((if kind = 3 ∧ i = 0 then [] else pre) ++ (restS d (headS d at_).2.1 (headS d at_).2.2).1) (((headS d at_).1.headD 0).toNat : Nat) (restS d (headS d at_).2.1 (headS d at_).2.2).2.1 (restS d (headS d at_).2.1 (headS d at_).2.2).2.2
theorem nuK_bad (d : List UInt8) (t : Nat) : nuK d t true = (0, t, true) := by unfold nuK; rw [if_pos (.inl rfl)]
theorem paK_bad (d : List UInt8) (t n : Nat) : paK d t true n = ([], t, true) := by unfold paK; rw [if_pos (.inl rfl)]
theorem paK_ok {d : List UInt8} {t n : Nat} (h : t + n ≤ d.length) : paK d t false n = ((d.drop t).take n, t + n, false) := by unfold paK; rw [if_neg (by simp; omega)]
theorem paK_no {d : List UInt8} {t n : Nat} (ht : t ≤ d.length) (h : d.length < t + n) : paK d t false n = ([], t, true) := by unfold paK; rw [if_pos (.inr (by omega))]
theorem smK_bad (d : List UInt8) (t : Nat) : smK d t true = (0, t, true) := by unfold smK; rw [nuK_bad, if_neg (by simp)]
theorem tailS_bad (d key : List UInt8) (kb : Int) (t : Nat) : (tailS d key kb t true).2.2 = true := by
  unfold tailS
  split
  · simp only [nuK_bad, paK_bad]
  · simp only [smK_bad]
theorem readN_eq (d key : List UInt8) (kb : Int) (t : Nat) (ht : t ≤ d.length) (n k : Nat) (hr : nuK d t false = (n, k, false)) (hn : n ≤ 2147483648) :
    readK.readN d key kb n k = if (smK d k false).2.2 = true then none else some (⟨key, kb, [], (n : Int), ((smK d k false).1 : Nat)⟩, (smK d k false).2.1) := by
  unfold readK.readN
  rw [if_neg (by omega)]
  by_cases he : (ruF 0 0 (d.drop k)).2.2 ≠ 0
  · have e : nuK d k false = (0, k, true) := by unfold nuK; rw [if_pos (.inr he)]
    have e2 : smK d k false = (0, k, true) := by unfold smK; rw [e, if_neg (by simp)]
    rw [if_pos he, e2]
    rfl
  · have e : nuK d k false = ((ruF 0 0 (d.drop k)).1, k + (ruF 0 0 (d.drop k)).2.1, false) := by unfold nuK; rw [if_neg (by simpa using he)]
    rw [if_neg he]
    by_cases h2 : 2147483648 < (ruF 0 0 (d.drop k)).1
    · have e2 : smK d k false = (0, k + (ruF 0 0 (d.drop k)).2.1, true) := by unfold smK; rw [e, if_pos h2]
      rw [if_pos h2, e2]
      rfl
    · have e2 : smK d k false = ((ruF 0 0 (d.drop k)).1, k + (ruF 0 0 (d.drop k)).2.1, false) := by unfold smK; rw [e, if_neg h2]
      rw [if_neg h2, e2]
      rfl
theorem tailS_read (d key : List UInt8) (kb : Int) (t : Nat) (ht : t ≤ d.length) :
    readK.readT d key kb t = if (tailS d key kb t false).2.2 = true then none else some ((tailS d key kb t false).1, (tailS d key kb t false).2.1) := by
  unfold readK.readT
  by_cases he : (ruF 0 0 (d.drop t)).2.2 ≠ 0
  · have e : nuK d t false = (0, t, true) := by unfold nuK; rw [if_pos (.inr he)]
    have e2 : smK d t false = (0, t, true) := by unfold smK; rw [e, if_neg (by simp)]
    rw [if_pos he, if_pos]
    unfold tailS
    split
    · simp only [e, paK_bad]
    · simp only [e2, smK_bad]
  · have e : nuK d t false = ((ruF 0 0 (d.drop t)).1, t + (ruF 0 0 (d.drop t)).2.1, false) := by unfold nuK; rw [if_neg (by simpa using he)]
    have hle := nuK_le (d := d) (at_ := t) false ht
    rw [e] at hle
    simp only at hle
    rw [if_neg he]
    by_cases hk : kb = 1
    · rw [if_pos hk]
      unfold tailS
      rw [if_pos hk, e]
      simp only
      by_cases h2 : d.length < t + (ruF 0 0 (d.drop t)).2.1 + (ruF 0 0 (d.drop t)).1
      · have e3 : paK d (t + (ruF 0 0 (d.drop t)).2.1) false (ruF 0 0 (d.drop t)).1 = ([], t + (ruF 0 0 (d.drop t)).2.1, true) := by unfold paK; rw [if_pos (.inr (by omega))]
        rw [if_pos h2, e3, if_pos rfl]
      · have e3 : paK d (t + (ruF 0 0 (d.drop t)).2.1) false (ruF 0 0 (d.drop t)).1 = ((d.drop (t + (ruF 0 0 (d.drop t)).2.1)).take (ruF 0 0 (d.drop t)).1, t + (ruF 0 0 (d.drop t)).2.1 + (ruF 0 0 (d.drop t)).1, false) := by unfold paK; rw [if_neg (by simp; omega)]
        rw [if_neg h2, e3, if_neg (by simp)]
    · rw [if_neg hk]
      unfold tailS
      rw [if_neg hk]
      by_cases h2 : 2147483648 < (ruF 0 0 (d.drop t)).1
      · have e2 : smK d t false = (0, t + (ruF 0 0 (d.drop t)).2.1, true) := by unfold smK; rw [e, if_pos h2]
        unfold readK.readN
        rw [if_pos h2, e2, if_pos (by simp only [smK_bad])]
      · have e2 : smK d t false = ((ruF 0 0 (d.drop t)).1, t + (ruF 0 0 (d.drop t)).2.1, false) := by unfold smK; rw [e, if_neg h2]
        rw [readN_eq d key kb t ht _ _ e (by omega), e2]
theorem cellS_read (d : List UInt8) (kind : Int) (i : Nat) (pre : List UInt8) (at_ : Nat) (ha : at_ ≤ d.length) :
    readK d kind i pre at_ = if (cellS d kind i pre at_).2.2 = true then none else some ((cellS d kind i pre at_).1, (cellS d kind i pre at_).2.1) := by
  unfold readK cellS
  by_cases h0 : d.length ≤ at_
  · have e : headS d at_ = ([], at_, true) := by unfold headS paK; rw [if_pos (.inr (by omega))]
    have e2 : restS d at_ true = ([], at_, true) := by unfold restS; rw [nuK_bad, paK_bad]
    rw [if_pos h0, e]
    simp only
    rw [e2, if_pos (tailS_bad _ _ _ _)]
  · have e : headS d at_ = ((d.drop at_).take 1, at_ + 1, false) := by unfold headS paK; rw [if_neg (by simp; omega)]
    have ek : (((d.drop at_).take 1).headD 0) = d.getD at_ 0 := by
      have hx : d[at_]? = (d.drop at_)[0]? := by simp
      rw [List.getD, hx]
      cases d.drop at_ <;> rfl
    rw [if_neg h0, e]
    simp only
    rw [ek]
    by_cases he : (ruF 0 0 (d.drop (at_ + 1))).2.2 ≠ 0
    · have e1 : nuK d (at_ + 1) false = (0, at_ + 1, true) := by unfold nuK; rw [if_pos (.inr he)]
      have e2 : restS d (at_ + 1) false = ([], at_ + 1, true) := by unfold restS; rw [e1, paK_bad]
      rw [if_pos he, e2, if_pos (tailS_bad _ _ _ _)]
    · have e1 : nuK d (at_ + 1) false = ((ruF 0 0 (d.drop (at_ + 1))).1, at_ + 1 + (ruF 0 0 (d.drop (at_ + 1))).2.1, false) := by unfold nuK; rw [if_neg (by simpa using he)]
      have hle := nuK_le (d := d) (at_ := at_ + 1) false (by omega)
      rw [e1] at hle
      simp only at hle
      rw [if_neg he]
      by_cases h2 : d.length < at_ + 1 + (ruF 0 0 (d.drop (at_ + 1))).2.1 + (ruF 0 0 (d.drop (at_ + 1))).1
      · have e2 : restS d (at_ + 1) false = ([], at_ + 1 + (ruF 0 0 (d.drop (at_ + 1))).2.1, true) := by unfold restS; rw [e1]; exact paK_no hle (by simp only; omega)
        rw [if_pos h2, e2, if_pos (tailS_bad _ _ _ _)]
      · have e2 : restS d (at_ + 1) false = ((d.drop (at_ + 1 + (ruF 0 0 (d.drop (at_ + 1))).2.1)).take (ruF 0 0 (d.drop (at_ + 1))).1, at_ + 1 + (ruF 0 0 (d.drop (at_ + 1))).2.1 + (ruF 0 0 (d.drop (at_ + 1))).1, false) := by unfold restS; rw [e1]; exact paK_ok (by simp only; omega)
        rw [if_neg h2, e2]
        exact tailS_read _ _ _ _ (by omega)
theorem tailS_le {d key : List UInt8} {kb : Int} {t : Nat} (b : Bool) (h : t ≤ d.length) : (tailS d key kb t b).2.1 ≤ d.length := by
  unfold tailS
  split
  · exact paK_le _ _ (nuK_le b h)
  · exact smK_le _ (smK_le b h)
theorem restS_le {d : List UInt8} {t : Nat} (b : Bool) (h : t ≤ d.length) : (restS d t b).2.1 ≤ d.length := paK_le _ _ (nuK_le b h)
theorem headS_le {d : List UInt8} {t : Nat} (h : t ≤ d.length) : (headS d t).2.1 ≤ d.length := paK_le _ _ h
theorem cellS_le {d : List UInt8} (kind : Int) (i : Nat) (pre : List UInt8) {t : Nat} (h : t ≤ d.length) : (cellS d kind i pre t).2.1 ≤ d.length := tailS_le _ (restS_le _ (headS_le h))
end Go.Proofs.Ytfcnkpofcekmgaa

-- packed.reader.cell: the walk.
namespace Go.Proofs.Ytfcnkpofcekmgaa
open Go.RowKit
def zeroK : List Value := [.slice none 0 0, .int .i64 0, .slice none 0 0, .int .i64 0, .int .i64 0]
/-- What cell tells and leaves. -/
def CellKAt (w0 : World) (L : List Ent) (r : Nat) (v : Value) (z : PC × Nat × Bool) (e : Ending) (w' : World) : Prop :=
  ∃ x : CV, e = .returned (cellV x) ∧ x.c = z.1 ∧ (i64r x.c.kind ∧ i64r x.c.page ∧ i64r x.c.count) ∧ Sep w0 w' (bytesE x.kv x.c.key :: bytesE x.vv x.c.val :: rdrE r v z.2.1 z.2.2 :: L)
set_option maxRecDepth 100000 in
set_option maxHeartbeats 8000000 in
theorem Rcell_sep {w0 w : World} {L : List Ent} {r : Nat} {v pv : Value} {d pre : List UInt8} {at_ : Nat} (hS : Sep w0 w (rdrE r v at_ false :: L)) (hold : oldE w0 ∈ L) (hv : RdB w0 v d) (hp : RdB w0 pv pre) (hd : d.length ≤ 65536) (hpl : pre.length ≤ 65536) (ha : at_ ≤ d.length) (kind : Int) (i : Nat) :
    Calls Try.prog 49 #[.pointer (some ⟨r, 0, none⟩), .int .i64 kind, .int .i64 (i : Int), pv] w (CellKAt w0 L r v (cellS d kind i pre at_)) := by
  obtain ⟨PA, pc, rfl, hpm⟩ := hp.form
  have hS1 := (hS.alloc 31 zeroK).sw1
  have hS2 : Sep w0 _ (rdrE r v at_ false :: blkE _ 31 zeroK :: blkE _ 31 zeroK :: L) := (hS1.alloc 31 zeroK).sw1
  have hb0 : Below w.heap.size w (w.alloc (.cells zeroK.toArray 31)) := (Below.refl _ _).alloc (Nat.le_refl _) _
  unfold zeroK at hS2
  rw [World.size_alloc] at hS2
  clear hS1 hb0
  have hp1 := Rpart_sep hS2 hv hd ha 1
  rw [show ((1 : Nat) : Int) = 1 from rfl] at hp1
  have HE : Hid (cellS d kind i pre at_ = tailS d ((if kind = 3 ∧ i = 0 then [] else pre) ++ (restS d (headS d at_).2.1 (headS d at_).2.2).1) (((headS d at_).1.headD 0).toNat : Nat) (restS d (headS d at_).2.1 (headS d at_).2.2).2.1 (restS d (headS d at_).2.1 (headS d at_).2.2).2.2) := Lib.hid rfl
  have hz : paK d at_ false 1 = headS d at_ := rfl
  have hz1 := headS_le (d := d) ha
  have hz2 : (headS d at_).1.length ≤ 1 := by unfold headS paK; split <;> simp; omega
  rw [hz] at hp1
  generalize headS d at_ = hh at *
  obtain ⟨hl, t1, b1⟩ := hh
  simp only at hp1 HE hz1 hz2
  have hr0 := restS_le (d := d) (t := t1) b1 hz1
  clear hz ha hS hS2
  generalize cellS d kind i pre at_ = cz at *
  go_enter Try.func49, Try.ntmps49
  go_upto_if 17 with (first
    | (go_at_call 59; (with_reducible refine hp1.mono ?_); rintro e w2 ⟨HA, hc, rfl, hhr, hS2⟩)
    | fail)
  generalize w.heap.size + 1 = cb at *
  generalize w.heap.size = rb at *
  clear hp1
  go_cut [] (fun wx => Sep w0 wx (rdrE r v t1 b1 :: blkE cb 31 [.slice none 0 0, .int .i64 ((hl.headD 0).toNat : Int), .slice none 0 0, .int .i64 0, .int .i64 0] :: blkE rb 31 [.slice none 0 0, .int .i64 0, .slice none 0 0, .int .i64 0, .int .i64 0] :: L))
  case first =>
    match hl, hz2, hhr with
    | [], _, _ =>
      go_wp2_with fail
      go_meet
      exact hS2
    | [x], _, hhr =>
      have hrd := hS2.rd (v := w0) (by simp [hold]) hhr
      obtain ⟨ad, rfl, hcx⟩ := hrd.at_ (j := 0) (by simp)
      have hcx' : w2.cell? ad = some (.int .u8 (x.toNat : Int)) := hcx
      have hxl := x.toNat_lt
      have hxw : IntKind.i64.wrap (x.toNat : Int) = (x.toNat : Int) := by rw [IntKind.wrap_i64]; omega
      have hCb : OBlk w2 cb 31 _ := hS2.tail.head
      have y1 := hCb.cell' (j := 1) (u := .int .i64 0) rfl
      have f1 := hCb.frozen (j := 1) (by simp)
      clear hcx hrd
      go_wp2_with fail
      go_meet
      exact (hS2.sw1.setCell 1 (.int .i64 (x.toNat : Int))).sw1
    | _ :: _ :: _, h, _ => simp at h
  case rest =>
    have hS3 := hcut
    clear hcut hS2 hhr hz2
    obtain ⟨kb, hkb⟩ : ∃ kb : Nat, (hl.headD 0).toNat = kb := ⟨_, rfl⟩
    have hkl : kb < 256 := by rw [← hkb]; exact (hl.headD 0).toNat_lt
    rw [hkb] at hS3 HE
    clear hkb
    have hn := Rnumber_sep hS3 (by simp [hold]) hv hd hz1
    have hle := nuK_le (d := d) b1 hz1
    have hres : restS d t1 b1 = paK d (nuK d t1 b1).2.1 (nuK d t1 b1).2.2 (nuK d t1 b1).1 := rfl
    generalize nuK d t1 b1 = nn at *
    obtain ⟨nv, t9, b9⟩ := nn
    simp only at hn hle hres
    have HRES := Lib.hid hres
    clear hres hS3
    go_upto_region 6 with (first
      | (go_at_call 60; (with_reducible refine hn.mono ?_); rintro e w4 ⟨rfl, hS4⟩)
      | (go_at_call 59; (with_reducible refine (Rpart_sep hS4 hv hd hle nv).mono ?_); rintro e w5 ⟨RA, rc, rfl, hrr, hS5⟩)
      | fail)
    rw [← HRES.out] at hrr hS5
    rw [← HRES.out]
    clear hn hle HRES hS4
    have hrl0 : (restS d t1 b1).1.length ≤ d.length := paK_len _ _ _ _
    generalize restS d t1 b1 = rr at *
    obtain ⟨rl, t2, b2⟩ := rr
    simp only at hrr hS5 HE hr0 hrl0 ⊢
    obtain ⟨P2, hP2⟩ : ∃ P2, (if kind = 3 ∧ i = 0 then [] else pre) = P2 := ⟨_, rfl⟩
    have hP2l : P2.length ≤ 65536 := by rw [← hP2]; split; (simp); exact hpl
    rw [hP2] at HE
    go_cut [32] (fun s wx => s = .bool (!decide (kind = 3 ∧ i = 0)) ∧ wx = w5)
    case first =>
      clear hP2
      by_cases h3 : kind = 3
      · have e1 : (kind != 3) = false := by simp [h3]
        by_cases h0 : i = 0
        · have e2 : ¬ (0 : Int) < (i : Int) := by omega
          have e3 : (!decide (kind = 3 ∧ i = 0)) = false := by simp [h3, h0]
          have e3 := Lib.hid e3
          clear h3 h0
          go_wp2_with fail
          go_meet
          exact ⟨by rw [e3.out]; congr 1; exact decide_eq_false (by omega), rfl⟩
        · have e2 : (0 : Int) < (i : Int) := by omega
          have e3 : (!decide (kind = 3 ∧ i = 0)) = true := by simp [h0]
          have e3 := Lib.hid e3
          clear h3 h0
          go_wp2_with fail
          go_meet
          exact ⟨by rw [e3.out]; congr 1; exact decide_eq_true (by omega), rfl⟩
      · have e1 : (kind != 3) = true := by simp [h3]
        have e3 : (!decide (kind = 3 ∧ i = 0)) = true := by simp [h3]
        have e3 := Lib.hid e3
        clear h3
        go_wp2_with fail
        go_meet
        exact ⟨by rw [e3.out], rfl⟩
    case rest =>
      obtain ⟨rfl, rfl⟩ := hcut
      go_upto_if 32 with (fail)
      go_cut [] (fun wx => ∃ KA ka, Sep w0 wx (bytesE (.slice KA P2.length ka) P2 :: blkE cb 31 [.slice KA P2.length ka, .int .i64 (kb : Int), .slice none 0 0, .int .i64 0, .int .i64 0] :: blkE rb 31 [.slice none 0 0, .int .i64 0, .slice none 0 0, .int .i64 0, .int .i64 0] :: rdrE r v t2 b2 :: L))
      case first =>
        have hS6 : Sep w0 wc (bytesE (.slice none 0 0) [] :: blkE cb 31 [.slice none 0 0, .int .i64 (kb : Int), .slice none 0 0, .int .i64 0, .int .i64 0] :: blkE rb 31 [.slice none 0 0, .int .i64 0, .slice none 0 0, .int .i64 0, .int .i64 0] :: rdrE r v t2 b2 :: L) := (hS5.sw [_, _]).sw2.nil
        by_cases hq : kind = 3 ∧ i = 0
        · rw [if_pos hq] at hP2
          subst hP2
          have e3 : (!decide (kind = 3 ∧ i = 0)) = false := by simp [hq]
          rw [e3]
          clear e3 hq
          go_wp2_with fail
          go_meet
          exact ⟨none, 0, hS6⟩
        · rw [if_neg hq] at hP2
          subst hP2
          have e3 : (!decide (kind = 3 ∧ i = 0)) = true := by simp only [hq]; rfl
          rw [e3]
          have hpr := hS6.rd (v := w0) (by simp [hold]) hp
          have hCb : OBlk wc cb 31 _ := hS6.tail.head
          have y0 := hCb.cell' (j := 0) (u := .slice none 0 0) rfl
          have HS6 := Lib.hid hS6
          clear e3 hq hS6 hS5
          go_wp2_with (first
            | (at_builtin; refine wp_append_B rfl (.tmp 34) (.tmp 35) rfl 0 (.slice none 0 0) [] rfl (OwB.nil _ _) (.slice PA pre.length pc) pre rfl hpr (by simp; omega) (Nat.zero_le _) ?_; intro v8 w8 ho8 hg8 hk8; have hS8 := HS6.out.appended ho8 hg8 hk8; have hCb8 : OBlk w8 cb 31 _ := hS8.tail.head; have f0 := hCb8.frozen (j := 0) (by simp); have y0' := hCb8.cell' (j := 0) (u := .slice none 0 0) rfl; obtain ⟨KA, ka, rfl⟩ := Own.slice ho8)
            | fail)
          go_meet
          exact ⟨KA, ka, (hS8.sw1.setCell 0 _).sw1⟩
      case rest =>
        obtain ⟨KA, ka, hS6⟩ := hcut
        clear hS5 hP2
        have hCb : OBlk _ cb 31 _ := hS6.tail.head
        have y0 := hCb.cell' (j := 0) (u := .slice KA P2.length ka) rfl
        have hrw := hS6.rd (v := w0) (by simp [hold]) hrr
        have hko : OwB _ 0 (.slice KA P2.length ka) P2 := hS6.head
        have HS6 := Lib.hid hS6
        have hrl : rl.length ≤ 65536 := by omega
        obtain ⟨kl, hkl0⟩ : ∃ kl, (P2 ++ rl).length = kl := ⟨_, rfl⟩
        have HKL := Lib.hid hkl0
        clear hS6 hkl0
        go_upto_if 45 with (first
          | (at_builtin; refine wp_append_B rfl (.tmp 39) (.tmp 40) rfl 0 (.slice KA P2.length ka) P2 rfl hko (.slice RA rl.length rc) rl rfl hrw (by omega) (Nat.zero_le _) ?_; intro v8 w8 ho8 hg8 hk8; have hS8 := HS6.out.appended ho8 hg8 hk8; have hCb8 : OBlk w8 cb 31 _ := hS8.tail.head; have f0 := hCb8.frozen (j := 0) (by simp); have y0' := hCb8.cell' (j := 0) (u := .slice KA P2.length ka) rfl; have y1' := hCb8.cell' (j := 1) (u := .int .i64 (kb : Int)) rfl; obtain ⟨JA, ja, hJ⟩ := Own.slice ho8; rw [HKL.out] at hJ; subst hJ)
          | fail)
        have hS9 := (hS8.sw1.setCell 0 (.slice JA kl ja)).sw1
        have hkl9 : (P2 ++ rl).length ≤ 131072 := by rw [List.length_append]; omega
        clear hS8 hCb hCb8 y0 y0' y1' f0 hrw hko hrr HS6 ho8 hg8 hk8 hP2l hrl0 hrl hp hpm
        generalize P2 ++ rl = key at *
        obtain rfl : key.length = kl := HKL.out
        clear HKL
        generalize w8.setCell ⟨cb, 0, none⟩ (.slice JA key.length ja) = w9 at *
        by_cases hk1 : kb = 1
        · subst hk1
          have HT : Hid (cz = (⟨key, 1, (paK d (nuK d t2 b2).2.1 (nuK d t2 b2).2.2 (nuK d t2 b2).1).1, 0, 0⟩, (paK d (nuK d t2 b2).2.1 (nuK d t2 b2).2.2 (nuK d t2 b2).1).2.1, (paK d (nuK d t2 b2).2.1 (nuK d t2 b2).2.2 (nuK d t2 b2).1).2.2)) := by
            show _ = _
            rw [HE.out]; unfold tailS; rw [if_pos (by rfl)]; rfl
          have hn := Rnumber_sep (hS9.sw [_, _, _]) (by simp [hold]) hv hd hr0
          have hle := nuK_le (d := d) b2 hr0
          clear HE hS9
          generalize nuK d t2 b2 = nn at *
          obtain ⟨nv, t9, b9⟩ := nn
          simp only at hn hle HT
          have hvl := paK_len d t9 b9 nv
          generalize hpk : paK d t9 b9 nv = pk at *
          obtain ⟨vl, t4, b4⟩ := pk
          simp only at HT hvl
          have HPK := Lib.hid hpk
          clear hpk
          go_upto_region 11 with (first
            | (go_at_call 60; (with_reducible refine hn.mono ?_); rintro e w4 ⟨rfl, hS4⟩)
            | (go_at_call 59; (with_reducible refine (Rpart_sep hS4 hv hd hle nv).mono ?_); rintro e w5 ⟨RA, rc, rfl, hrr, hS5⟩; rw [HPK.out] at hrr hS5; rw [HPK.out]; have hrw := hS5.rd (v := w0) (by simp [hold]) hrr)
            | (go_at_call 53; (with_reducible refine (CloneK_any (.slice RA vl.length rc) vl w5 hrw (by omega)).mono ?_); rintro e w6 ⟨v6, rfl, ho6, hw6⟩; obtain ⟨VA, vc, rfl⟩ := Own.slice ho6; have hS6 := hS5.bytes hw6 ho6 (Nat.le_refl _); have hCb6 : OBlk w6 cb 31 _ := hS6.tail.tail.tail.head; have f2 := hCb6.frozen (j := 2) (by simp); have y2 := hCb6.cell' (j := 2) (u := .slice none 0 0) rfl)
            | fail)
          have hS7 := (hS6.sw [_, _, _]).setCell 2 (.slice VA vl.length vc)
          clear hn hS4 hS5 hrw hrr hS6 hCb6 f2 y2 ho6 hw6
          generalize w6.setCell ⟨cb, 2, none⟩ (.slice VA vl.length vc) = w7 at *
          obtain ⟨y0, y1, y2, y3, y4⟩ := cells5 (show OBlk w7 cb 31 [.slice JA key.length ja, .int .i64 1, .slice VA vl.length vc, .int .i64 0, .int .i64 0] from hS7.head)
          have hRb : OBlk w7 rb 31 [.slice none 0 0, .int .i64 0, .slice none 0 0, .int .i64 0, .int .i64 0] := hS7.tail.tail.tail.tail.head
          obtain ⟨r0, r1, r2, r3, r4⟩ := cells5 hRb
          obtain ⟨f0, f1, f2, f3, f4⟩ := froz5 hRb
          go_wp2_with fail
          have hF := (hS7.sw [_, _, _, _]).set5 (.slice JA key.length ja) (.int .i64 1) (.slice VA vl.length vc) (.int .i64 0) (.int .i64 0)
          obtain ⟨e0, e1, e2, e3, e4⟩ := cells5 hF.head
          refine bodyPost_ret (v := .agg #[.slice JA key.length ja, .int .i64 1, .slice VA vl.length vc, .int .i64 0, .int .i64 0]) ?_ rfl ?_
          · simp [results, Try.results49, go_sem, e0, e1, e2, e3, e4]
          · exact ⟨⟨.slice JA key.length ja, .slice VA vl.length vc, ⟨key, 1, vl, 0, 0⟩⟩, rfl, by rw [HT.out], by refine ⟨?_, ?_, ?_⟩ <;> (show _ ≤ _ ∧ _ ≤ _; simp only; omega), by rw [HT.out]; exact hF.tail.tail.sw [_, _]⟩
        · have HT : Hid (cz = (⟨key, (kb : Int), [], ((smK d t2 b2).1 : Nat), ((smK d (smK d t2 b2).2.1 (smK d t2 b2).2.2).1 : Nat)⟩, (smK d (smK d t2 b2).2.1 (smK d t2 b2).2.2).2.1, (smK d (smK d t2 b2).2.1 (smK d t2 b2).2.2).2.2)) := by
            show _ = _
            rw [HE.out]; unfold tailS; rw [if_neg (by omega)]
          have e1 : ((kb : Int) == 1) = false := beq_eq_false_iff_ne.2 (by omega)
          have hn := Rsmall_sep (hS9.sw [_, _, _]) (by simp [hold]) hv hd hr0
          have hle := smK_le (d := d) b2 hr0
          have hm1 := smK_small d t2 b2
          clear HE hS9 hk1
          generalize smK d t2 b2 = nn at *
          obtain ⟨pn, t9, b9⟩ := nn
          simp only at hn hle HT hm1
          have hm2 := smK_small d t9 b9
          have hn2 := fun W (M : List Ent) (hM : oldE w0 ∈ M) (h : Sep w0 W (rdrE r v t9 b9 :: M)) => Rsmall_sep (d := d) h hM hv hd hle
          generalize smK d t9 b9 = nm at *
          obtain ⟨cn, t4, b4⟩ := nm
          simp only at hn2 HT hm2
          go_upto_region 14 with (first
            | (go_at_call 61; (with_reducible refine hn.mono ?_); rintro e w4 ⟨rfl, hS4⟩; have hCb4 : OBlk w4 cb 31 _ := hS4.tail.tail.head; have f3 := hCb4.frozen (j := 3) (by simp); have y3 := hCb4.cell' (j := 3) (u := .int .i64 0) rfl; have hS4' := (((hS4.sw [_, _]).setCell 3 (.int .i64 (pn : Int))).sw [_]))
            | (go_at_call 61; (refine (hn2 _ _ (by simp [hold]) hS4').mono ?_); rintro e w5 ⟨rfl, hS5⟩; have hCb5 : OBlk w5 cb 31 _ := hS5.tail.head; have f4 := hCb5.frozen (j := 4) (by simp); have y4 := hCb5.cell' (j := 4) (u := .int .i64 0) rfl)
            | fail)
          have hS6 := hS5.sw1.setCell 4 (.int .i64 (cn : Int))
          clear hn hn2 hS4 hS4' hS5 hCb4 hCb5 f3 f4 y3 y4
          generalize w5.setCell ⟨cb, 4, none⟩ (.int .i64 (cn : Int)) = w6 at *
          obtain ⟨y0, y1, y2, y3, y4⟩ := cells5 (show OBlk w6 cb 31 [.slice JA key.length ja, .int .i64 (kb : Int), .slice none 0 0, .int .i64 (pn : Int), .int .i64 (cn : Int)] from hS6.head)
          have hRb : OBlk w6 rb 31 [.slice none 0 0, .int .i64 0, .slice none 0 0, .int .i64 0, .int .i64 0] := hS6.tail.tail.tail.head
          obtain ⟨r0, r1, r2, r3, r4⟩ := cells5 hRb
          obtain ⟨f0, f1, f2, f3, f4⟩ := froz5 hRb
          go_wp2_with fail
          have hF := (hS6.sw [_, _, _]).set5 (.slice JA key.length ja) (.int .i64 (kb : Int)) (.slice none 0 0) (.int .i64 (pn : Int)) (.int .i64 (cn : Int))
          obtain ⟨e0, e1, e2, e3, e4⟩ := cells5 hF.head
          refine bodyPost_ret (v := .agg #[.slice JA key.length ja, .int .i64 (kb : Int), .slice none 0 0, .int .i64 (pn : Int), .int .i64 (cn : Int)]) ?_ rfl ?_
          · simp [results, Try.results49, go_sem, e0, e1, e2, e3, e4]
          · exact ⟨⟨.slice JA key.length ja, .slice none 0 0, ⟨key, (kb : Int), [], (pn : Int), (cn : Int)⟩⟩, rfl, by rw [HT.out], by refine ⟨?_, ?_, ?_⟩ <;> (show _ ≤ _ ∧ _ ≤ _; simp only; omega), by rw [HT.out]; exact hF.tail.tail.nil.sw [_, _]⟩
end Go.Proofs.Ytfcnkpofcekmgaa

-- packed.written: the walk.
namespace Go.Proofs.Ytfcnkpofcekmgaa
open Go.RowKit
theorem Sep.sub3 {w0 w : World} {a b c : Ent} (h : Sep w0 w [a, b, c]) : Sep w0 w [a, c] := h.sw1.tail
theorem Sep.ownW {w0 w : World} {v : Value} {l : List UInt8} {L : List Ent} (h : Sep w0 w (bytesE v l :: oldE w0 :: L)) : OwB w w0.heap.size v l := OwB.base_le h.head (fun g hg => Nat.le_of_not_lt (h.far (A := oldE w0) (List.mem_cons_self ..) g hg))
theorem OwB.ofBlk {w : World} {g : Nat} {b : UInt8} (h : OBlk w g 5 [.int .u8 (b.toNat : Int)]) : OwB w 0 (.slice (some ⟨g, 0, none⟩) 1 1) [b] := by
  have h2 := OBlk.owB' (m := [b]) (w := w) (g := g) (base := 0) h (Nat.zero_le _) (by simp [maxLen])
  exact h2
theorem Sep.byte {w0 w : World} {L : List Ent} {g : Nat} {b : UInt8} {n : Int} (hn : n = (b.toNat : Int)) (h : Sep w0 w (blkE g 5 [.int .u8 n] :: L)) : Sep w0 w (bytesE (.slice (some ⟨g, 0, none⟩) 1 1) [b] :: L) :=
  h.weak (fun hp => OwB.ofBlk (by rw [← hn]; exact hp)) (fun g' hg => (Option.some.inj hg).symm)
set_option maxRecDepth 100000 in
set_option maxHeartbeats 4000000 in
theorem Kwritten_any (P : Nat) (hP : P ≤ 65536) (kind : Int) (i : Nat) (x : CV) (pre : Nat) (w : World) (hx : x.ok w) (hok : OkC P x.c) (hp : ¬ (kind = 3 ∧ i = 0) → pre ≤ x.c.key.length) :
    Calls Try.prog 45 #[.int .i64 kind, .int .i64 (i : Int), cellV x, .int .i64 (pre : Int)] w fun e w' => ∃ v, e = .returned v ∧ OwB w' w.heap.size v (pcF kind i x.c pre) ∧ Below w.heap.size w w' := by
  have hrest := Krest_any kind i x pre _ (hx.below ((Below.refl _ _).alloc (Nat.le_refl _) (.cells [x.kv, .int .i64 x.c.kind, x.vv, .int .i64 x.c.page, .int .i64 x.c.count].toArray 31))) hp
  have hrl : (restF kind i x.c.key pre).length ≤ x.c.key.length := by unfold restF; split <;> simp
  have hC := OBlk.new' w 31 [x.kv, .int .i64 x.c.kind, x.vv, .int .i64 x.c.page, .int .i64 x.c.count]
  have hA : Below w.heap.size w (w.alloc (.cells [x.kv, .int .i64 x.c.kind, x.vv, .int .i64 x.c.page, .int .i64 x.c.count].toArray 31)) := (Below.refl _ _).alloc (Nat.le_refl _) _
  have k0 := hok.k0
  have kd := hok.kd
  have v0 := hok.v0
  have v1 := hok.v1
  obtain ⟨A, ca, B, cb, key, ck, val, pg, ct, rfl, _, _⟩ := CV.form hx
  have hxv : RdB w (.slice B val.length cb) val := hx.v
  simp only at k0 kd v0 v1 hrl hrest hC hA
  unfold cellV at hrest ⊢
  simp only at hrest ⊢
  obtain ⟨kn, rfl⟩ := Int.eq_ofNat_of_zero_le (show 0 ≤ ck by omega)
  have kn4 : kn ≤ 4 := by omega
  have hkw : IntKind.u8.wrap (kn : Int) = (kn : Int) := by rw [IntKind.wrap_u8]; omega
  have hkn : (kn : Int) = ((UInt8.ofNat kn).toNat : Int) := by rw [UInt8.toNat_ofNat']; omega
  have hpc : pcF kind i ⟨key, (kn : Int), val, pg, ct⟩ pre = UInt8.ofNat kn :: (uintF (restF kind i key pre).length ++ (restF kind i key pre ++ kvF ⟨key, (kn : Int), val, pg, ct⟩)) := by
    unfold pcF u8I
    simp only
    congr 2
    omega
  have hkv1 : kn = 1 → kvF ⟨key, (kn : Int), val, pg, ct⟩ = uintF val.length ++ val := fun h => by unfold kvF; rw [if_pos (by simp only; omega)]
  have hkv2 : kn ≠ 1 → kvF ⟨key, (kn : Int), val, pg, ct⟩ = uintF (u64N pg) ++ uintF (u64N ct) := fun h => by unfold kvF; rw [if_neg (by simp only; omega)]
  have hvl : kn = 1 → val.length ≤ 65536 := fun h => by have := (v0 (by omega)).1; omega
  have HPC := Lib.hid hpc
  have HKN := Lib.hid hkn
  have HV := Lib.hid (hxv.below hA (Nat.le_refl _))
  have HK1 := Lib.hid hkv1
  have HK2 := Lib.hid hkv2
  have HVL := Lib.hid hvl
  clear hx hok hpc hkn hxv hp hkv1 hkv2 hvl v0 v1
  generalize restF kind i key pre = rs at *
  go_enter Try.func45, Try.ntmps45
  go_upto_region 2 with (first
    | (go_at_call 56; (with_reducible refine hrest.mono ?_); rintro e w2 ⟨RA, rc, rfl, hrr, hw2⟩)
    | fail)
  clear hrest
  obtain ⟨bx, hbx⟩ : ∃ b, w.heap.size = b := ⟨_, rfl⟩
  have HBX := Lib.hid hbx
  rw [hbx] at hC ⊢
  generalize hw1 : w.alloc (.cells [Value.slice A key.length ca, .int .i64 (kn : Int), .slice B val.length cb, .int .i64 pg, .int .i64 ct].toArray 31) = w1 at *
  clear hw1
  have hS2 := (Sep.start w1).below hw2
  have HC := Lib.hid (fun (W : World) (hB : Below w1.heap.size w1 W) => cells5 (hC.below hB hC.lt))
  have HRR := Lib.hid hrr
  have hA' := Lib.hid hA
  have k1 := (HC.out _ hw2).2.1
  have hrm := hrr.le
  clear hC hA hrr hw2
  have hlw : IntKind.u64.wrap (rs.length : Int) = (rs.length : Int) := by rw [IntKind.wrap_u64]; omega
  have hU0 := Uint_any rs.length (by omega) w2.drew
  have hU1 := Uint_any rs.length (by omega) (w2.drew.alloc (.cells #[.int .u8 (kn : Int)] 5))
  have hSa := hS2.drew.alloc 5 [.int .u8 (kn : Int)]
  obtain ⟨i0, hi0, hz0, hz1, hz2⟩ := info_parts u8_info
  have HSA := Lib.hid hSa
  have HS2 := Lib.hid hS2
  have hul := uintF_le10 (n := rs.length) (by omega)
  clear hSa hS2 hbx
  generalize hue : uintF rs.length = ul at *
  clear hue
  go_cut [10] (fun b wx => ∃ BA bc, b = .slice BA (1 + ul.length) bc ∧ Sep w1 wx [bytesE (.slice BA (1 + ul.length) bc) (UInt8.ofNat kn :: ul), oldE w1])
  case first =>
    go_region_law
      (first
        | (go_simp; go_at_call 57; (with_reducible refine hU0.mono ?_); rintro e w4 ⟨v4, rfl, ho4, hw4⟩; obtain ⟨V4, c4, rfl⟩ := Own.slice ho4; have hS4 := HS2.out.drew.bytes hw4 ho4 (Nat.le_refl _); have k1' := (HC.out _ (Sep.belowOld (v := w1) hS4 (by simp))).2.1; have hSb := Sep.byte (b := UInt8.ofNat kn) HKN.out (hS4.alloc 5 [.int .u8 (kn : Int)]); have hown : OwB _ 0 _ [UInt8.ofNat kn] := hSb.head; have hrd : RdB _ (.slice V4 ul.length c4) ul := OwB.rd (show OwB _ 0 (.slice V4 ul.length c4) ul from hSb.tail.head))
        | (go_simp; go_at_call 57; refine hU1.mono ?_; rintro e w4 ⟨v4, rfl, ho4, hw4⟩; obtain ⟨V4, c4, rfl⟩ := Own.slice ho4; have hSb := (Sep.byte (b := UInt8.ofNat kn) HKN.out (HSA.out.bytes hw4 ho4 (Nat.le_refl _)).sw1); have hown : OwB _ 0 _ [UInt8.ofNat kn] := hSb.head; have hrd : RdB _ (.slice V4 ul.length c4) ul := OwB.rd (show OwB _ 0 (.slice V4 ul.length c4) ul from hSb.tail.head))
        | (refine step_append (by rfl) (.tmp 19) (.tmp 23) _ _ (by rfl) 0 5 i0 _ 1 1 Try.underlying29 hi0 hz0 hz1 hz2 rfl _ 1 (bvs [UInt8.ofNat kn]) (by simp [Act.eval, Act.put]) hown (.slice V4 ul.length c4) ul.length (bvs ul) (by simp [Act.eval, Act.put]) (Rd.src _ Try.underlying29 (by omega) hrd.rd (bvs_one _)) (by omega) (by omega) (Nat.zero_le _) ?_; intro v6 w6 ho6 hg6 hk6; obtain ⟨V6, c6, rfl⟩ := Own.slice ho6)
        | fail)
    all_goals
      have ho7 : OwB w6 0 (.slice V6 (1 + ul.length) c6) (UInt8.ofNat kn :: ul) := by
        rw [← bvs_append] at ho6
        unfold OwB
        rw [show (UInt8.ofNat kn :: ul).length = 1 + ul.length by simp; omega]
        exact ho6
      have hS6 := hSb.appended ho7 hg6 hk6
      go_wp2_with fail
      go_meet
      exact ⟨V6, c6, rfl, Sep.sub3 hS6⟩
  case rest =>
    obtain ⟨BA, bc, rfl, hS3⟩ := hcut
    clear hU0 hU1 HSA HS2 k1
    have ho3 : OwB _ 0 (.slice BA (1 + ul.length) bc) (UInt8.ofNat kn :: ul) := hS3.head
    have hr3 := hS3.rd (v := w1) (by simp) HRR.out
    go_upto_region 4 with (first
      | (at_builtin; refine wp_append_B rfl (.tmp 25) (.tmp 26) rfl 0 (.slice BA (1 + ul.length) bc) (UInt8.ofNat kn :: ul) rfl ho3 (.slice RA rs.length rc) rs rfl hr3 (by simp; omega) (Nat.zero_le _) ?_; intro v5 w5 ho5 hg5 hk5)
      | fail)
    have hS5 := hS3.appended ho5 hg5 hk5
    clear ho3 hr3 hS3 hg5 hk5
    obtain ⟨V5, c5, rfl⟩ := Own.slice ho5
    have hB5 := Sep.belowOld (v := w1) hS5 (by simp)
    obtain ⟨-, k1, k2, k3, k4⟩ := HC.out _ hB5
    have HS5 := Lib.hid hS5
    clear hS5 hB5
    generalize hm5 : UInt8.ofNat kn :: ul ++ rs = m5 at *
    have hl5 : m5.length ≤ 8300 := by rw [← hm5]; simp; omega
    have HPC2 : Hid (pcF kind i ⟨key, (kn : Int), val, pg, ct⟩ pre = m5 ++ kvF ⟨key, (kn : Int), val, pg, ct⟩) := Lib.hid (by rw [HPC.out, ← hm5]; simp)
    clear hm5 HPC
    by_cases h1 : kn = 1
    · subst h1
      have hkv := HK1.out rfl
      have hvl := HVL.out rfl
      have hU := Uint_any val.length (by omega) w5
      have hvw : IntKind.u64.wrap (val.length : Int) = (val.length : Int) := by rw [IntKind.wrap_u64]; omega
      have hu2 := uintF_le10 (n := val.length) (by omega)
      generalize hue : uintF val.length = uv at *
      clear hue
      have HKV := Lib.hid hkv
      clear hkv
      go_upto_region 6 with (first
        | (go_at_call 57; (with_reducible refine hU.mono ?_); rintro e w6 ⟨v6, rfl, ho6, hw6⟩; have hS6 := (HS5.out.bytes hw6 ho6 (Nat.le_refl _)).sw1; obtain ⟨V6, c6, rfl⟩ := Own.slice ho6; have hr6 := OwB.rd ho6; have hh6 : OwB _ 0 (.slice V5 m5.length c5) m5 := hS6.head)
        | (at_builtin; refine wp_append_B rfl (.tmp 31) (.tmp 36) rfl 0 (.slice V5 m5.length c5) m5 rfl hh6 (.slice V6 uv.length c6) uv rfl hr6 (by omega) (Nat.zero_le _) ?_; intro v7 w7 ho7 hg7 hk7)
        | fail)
      have hS7 := (hS6.appended ho7 hg7 hk7).sub3
      clear hS6 hr6 hh6 ho6 hg7 hk7 hw6 hU
      obtain ⟨V7, c7, rfl⟩ := Own.slice ho7
      have hB7 := Sep.belowOld (v := w1) hS7 (by simp)
      have hv7 := hS7.rd (v := w1) (by simp) HV.out
      clear k1 k2 k3 k4
      obtain ⟨-, -, k2, -, -⟩ := HC.out _ hB7
      have HS7 := Lib.hid hS7
      clear hS7 hB7
      generalize hm7 : m5 ++ uv = m7 at *
      have hl7 : m7.length ≤ 8310 := by rw [← hm7]; simp; omega
      go_wp2_with (first
        | (at_builtin; refine wp_append_B rfl (.tmp 38) (.tmp 40) rfl 0 (.slice V7 m7.length c7) m7 rfl ho7 (.slice B val.length cb) val rfl hv7 (by omega) (Nat.zero_le _) ?_; intro v8 w8 ho8 hg8 hk8)
        | fail)
      go_ret
      have hS8 := HS7.out.appended ho8 hg8 hk8
      have he : pcF kind i ⟨key, ((1 : Nat) : Int), val, pg, ct⟩ pre = m7 ++ val := by rw [HPC2.out, HKV.out, ← hm7, List.append_assoc]
      exact ⟨_, rfl, by rw [he]; exact hS8.ownW.low (by have := hA'.out.size; omega), hA'.out.trans ((Sep.belowOld (v := w1) hS8 (by simp)).mono hA'.out.size)⟩
    · have e0 : ((kn : Int) == 1) = false := beq_eq_false_iff_ne.2 (by omega)
      have hkv := HK2.out h1
      have hU := Uint_any (u64N pg) (u64N_lt pg) w5
      have q1 := wrap_u64N pg
      have q2 := wrap_u64N ct
      have hu2 := uintF_le10 (u64N_lt pg)
      have hu3 := uintF_le10 (u64N_lt ct)
      have HUC := Lib.hid (fun W => Uint_any (u64N ct) (u64N_lt ct) W)
      generalize uintF (u64N pg) = uv at *
      generalize uintF (u64N ct) = uc at *
      generalize u64N pg = pn at *
      generalize u64N ct = cn at *
      have HKV := Lib.hid hkv
      clear hkv h1
      go_upto_region 8 with (first
        | (go_at_call 57; (with_reducible refine hU.mono ?_); rintro e w6 ⟨v6, rfl, ho6, hw6⟩; have hS6 := (HS5.out.bytes hw6 ho6 (Nat.le_refl _)).sw1; obtain ⟨V6, c6, rfl⟩ := Own.slice ho6; have hr6 := OwB.rd ho6; have hh6 : OwB _ 0 (.slice V5 m5.length c5) m5 := hS6.head)
        | (at_builtin; refine wp_append_B rfl (.tmp 42) (.tmp 46) rfl 0 (.slice V5 m5.length c5) m5 rfl hh6 (.slice V6 uv.length c6) uv rfl hr6 (by omega) (Nat.zero_le _) ?_; intro v7 w7 ho7 hg7 hk7)
        | fail)
      have hS7 := (hS6.appended ho7 hg7 hk7).sub3
      clear hS6 hr6 hh6 ho6 hg7 hk7 hw6 hU
      obtain ⟨V7, c7, rfl⟩ := Own.slice ho7
      have hB7 := Sep.belowOld (v := w1) hS7 (by simp)
      clear k1 k2 k3 k4
      obtain ⟨-, -, -, -, k4⟩ := HC.out _ hB7
      have HS7 := Lib.hid hS7
      clear hS7 hB7
      have hU := HUC.out w7
      generalize hm7 : m5 ++ uv = m7 at *
      have hl7 : m7.length ≤ 8310 := by rw [← hm7]; simp; omega
      go_wp2_with (first
        | (go_at_call 57; (with_reducible refine hU.mono ?_); rintro e w8 ⟨v8, rfl, ho8, hw8⟩; have hS8 := (HS7.out.bytes hw8 ho8 (Nat.le_refl _)).sw1; obtain ⟨V8, c8, rfl⟩ := Own.slice ho8; have hr8 := OwB.rd ho8; have hh8 : OwB _ 0 (.slice V7 m7.length c7) m7 := hS8.head)
        | (at_builtin; refine wp_append_B rfl (.tmp 48) (.tmp 52) rfl 0 (.slice V7 m7.length c7) m7 rfl hh8 (.slice V8 uc.length c8) uc rfl hr8 (by omega) (Nat.zero_le _) ?_; intro v9 w9 ho9 hg9 hk9)
        | fail)
      go_ret
      have hS9 := (hS8.appended ho9 hg9 hk9).sub3
      have he : pcF kind i ⟨key, (kn : Int), val, pg, ct⟩ pre = m7 ++ uc := by rw [HPC2.out, HKV.out, ← hm7, List.append_assoc]
      exact ⟨_, rfl, by rw [he]; exact hS9.ownW.low (by have := hA'.out.size; omega), hA'.out.trans ((Sep.belowOld (v := w1) hS9 (by simp)).mono hA'.out.size)⟩
end Go.Proofs.Ytfcnkpofcekmgaa
