/- espalierref01.Fixed, step, SumOf: walks. -/
import Derived.Test.YtijlebjldnhnaaaInkFixed
import Derived.Test.YtijlebjldnhnaaaCrc
import Derived.Outline
namespace Go.Proofs.Ytijlebjldnhnaaa
open Go.RowKit

/-! ### Fixed -/
theorem div_pow (n k : Nat) : n / 256 ^ k / 256 = n / 256 ^ (k + 1) := by rw [Nat.pow_succ, Nat.div_div_eq_div_mul]
theorem u8_mod (n : Nat) : (n : Int) % 256 % 256 = ((UInt8.ofNat n).toNat : Int) := by rw [u8_byte]; omega
set_option maxHeartbeats 400000 in
theorem RFixed_any (n : Nat) (hn : n < 18446744073709551616) (wd : Nat) (h1 : 1 ≤ wd) (h8 : wd ≤ 8) (w : World) :
    Calls Try.prog 16 #[.int .u64 n, .int .i64 wd] w fun e w' => ∃ v, e = .returned v ∧ OwB w' w.heap.size v (fixedF n wd) ∧ Below w.heap.size w w' := by
  have g1 : (1 : Int) ≤ (wd : Int) := by omega
  have g2 : (wd : Int) ≤ 8 := by omega
  go_enter Try.func16, Try.ntmps16
  go_wp2
  go_loopw [5, 6] (fun v i wr => ∃ (k : Nat), i = .int .i64 ((k : Int) - 1) ∧ k ≤ wd ∧ OwB wr w.heap.size v (fixedF (n / 256 ^ k) (wd - k)) ∧ Below w.heap.size w wr)
    (fun _ i _ => (intOf i + 1).toNat)
  case atStart => exact ⟨wd, rfl, Nat.le_refl _, by rw [Nat.sub_self]; exact OwB.nil _ _, Below.refl _ _⟩
  case round =>
    obtain ⟨k, rfl, hk, hown, hw⟩ := hrel
    rcases Nat.eq_zero_or_pos k with rfl | hpos
    · go_wp2
      go_ret
      rw [Nat.pow_zero, Nat.div_one, Nat.sub_zero] at hown
      exact ⟨_, rfl, hown, hw⟩
    · obtain ⟨k', rfl⟩ : ∃ k', k = k' + 1 := ⟨k - 1, by omega⟩
      have e1 : ((k' + 1 : Nat) : Int) - 1 = (k' : Int) := by omega
      rw [e1]
      have hfx : fixedF (n / 256 ^ k') (wd - k') = fixedF (n / 256 ^ (k' + 1)) (wd - (k' + 1)) ++ [UInt8.ofNat (n / 256 ^ k')] := by
        rw [← div_pow, show wd - k' = (wd - (k' + 1)) + 1 by omega]; rfl
      have HF := Lib.hid hfx
      clear hfx e1
      go_wp2
      obtain ⟨wo, rfl⟩ : ∃ wo : World, wo = wr := ⟨_, rfl⟩
      go_loop [7, 8] (fun m i => ∃ (j : Nat), i = .int .i64 (j : Int) ∧ j ≤ k' ∧ m = .int .u64 (n / 256 ^ j : Nat)) (fun _ i => k' - (intOf i).toNat)
      case atStart => exact ⟨0, rfl, Nat.zero_le _, by simp⟩
      case round =>
        obtain ⟨j, rfl, hj, rfl⟩ := hrel
        have hq : n / 256 ^ j < 18446744073709551616 := Nat.lt_of_le_of_lt (Nat.div_le_self _ _) hn
        by_cases hlt : j < k'
        · have HD := Lib.hid (div_pow n j)
          generalize n / 256 ^ j = q at *
          go_wp2
          go_round
          case rel => exact ⟨j + 1, by go_num, by omega, by rw [← HD.out]; go_num⟩
          case measure => simp [intOf]; omega
        · obtain rfl : j = k' := by omega
          have hlen := fixedF_length (n / 256 ^ (j + 1)) (wd - (j + 1))
          have hlen2 : (fixedF (n / 256 ^ (j + 1)) (wd - (j + 1))).length ≤ 8 := by omega
          generalize fixedF (n / 256 ^ (j + 1)) (wd - (j + 1)) = l at *
          generalize hqq : n / 256 ^ j = q at *
          have HQ := Lib.hid hqq
          clear hlen hqq
          go_wp2_with (first | (at_builtin; refine wp_append_B1 rfl (.tmp 30) (.tmp 34) rfl w.heap.size _ l rfl hown (UInt8.ofNat q) _ (congrArg (Value.int .u8) (u8_byte q).symm) 5 rfl (by omega) hw.size ?_; intro v1 w1 hown1 hg1 _hat1))
          go_roundw
          case rel =>
            rw [← HF.out, ← HQ.out] at hown1
            exact ⟨j, rfl, by omega, hown1, hw.grown hg1 hw.size (fun k hk => (hown.lt k hk).1)⟩
          case measure => simp [intOf]
theorem RFixed_4 (n : Nat) (hn : n < 18446744073709551616) (w : World) :
    Calls Try.prog 16 #[.int .u64 n, .int .i64 4] w fun e w' => ∃ v, e = .returned v ∧ OwB w' w.heap.size v (fixedF n 4) ∧ Below w.heap.size w w' :=
  RFixed_any n hn 4 (by omega) (by omega) w
theorem RFixed_8 (n : Nat) (hn : n < 18446744073709551616) (w : World) :
    Calls Try.prog 16 #[.int .u64 n, .int .i64 8] w fun e w' => ∃ v, e = .returned v ∧ OwB w' w.heap.size v (fixedF n 8) ∧ Below w.heap.size w w' :=
  RFixed_any n hn 8 (by omega) (by omega) w
set_option maxHeartbeats 400000 in
theorem step_any (r : Nat) (h : r < 4294967296) (x : UInt8) (w : World) :
    Calls Try.prog 48 #[.int .u32 r, .int .u8 (x.toNat : Int)] w fun e w' => e = .returned (.int .u32 (crcByte r x : Nat)) ∧ w = w' := by
  have hxb : x.toNat < 256 := x.toNat_lt
  have hx := u32_xor_nat r x.toNat h (by omega)
  have hy : r ^^^ x.toNat < 4294967296 := Nat.xor_lt_two_pow (n := 32) h (by omega)
  have HB : Hid (crcByte r x = crcN 8 (r ^^^ x.toNat)) := rfl
  generalize x.toNat = b at *
  generalize r ^^^ b = y at *
  go_enter Try.func48, Try.ntmps48
  go_wp2
  go_loop [5, 6] (fun q i => ∃ j : Nat, i = .int .i64 (j : Int) ∧ j ≤ 8 ∧ q = .int .u32 (crcN j y : Nat)) (fun _ i => 8 - (intOf i).toNat)
  case atStart => exact ⟨0, rfl, by omega, rfl⟩
  case round =>
    obtain ⟨j, rfl, hj, rfl⟩ := hrel
    by_cases hlt : j < 8
    · have hq := crcN_lt j y hy
      have hs : crcN (j + 1) y = crcBit (crcN j y) := crcN_add j 1 y
      have HS := Lib.hid hs
      clear hs
      generalize crcN j y = q at *
      by_cases hodd : q % 2 = 1
      · have e1 : ((q : Int) % 2 == 1) = true := by simp; omega
        have e2 : bits .xor .u32 ((q : Int) / 2) 2197175160 = (crcBit q : Nat) := by
          rw [crcBit, if_pos hodd]; exact u32_xor_nat (q / 2) 2197175160 (by omega) (by omega)
        clear hodd
        go_wp2
        go_round
        case rel => exact ⟨j + 1, by go_num, by omega, by rw [HS.out]⟩
        case measure => simp [intOf]; omega
      · have e1 : ((q : Int) % 2 == 1) = false := by simp; omega
        have e2 : Hid (crcBit q = q / 2) := by unfold crcBit; exact if_neg hodd
        clear hodd
        go_wp2
        go_round
        case rel => exact ⟨j + 1, by go_num, by omega, by rw [HS.out, e2.out]; go_num⟩
        case measure => simp [intOf]; omega
    · obtain rfl : j = 8 := by omega
      rw [← HB.out]
      go_wp2
      go_ret
      exact ⟨rfl, rfl⟩
end Go.Proofs.Ytijlebjldnhnaaa
