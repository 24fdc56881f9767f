/- espalierlaw01.InkTurned: the walk. -/
import Derived.Test.YtijlebjldnhnaaaLawLive
import Derived.Test.YtijlebjldnhnaaaInkBoth
import Derived.Test.YtijlebjldnhnaaaBurst2
namespace Go.Proofs.Ytijlebjldnhnaaa
open Go.RowKit
theorem tf (b : Bool) : b = true ∨ b = false := by cases b <;> simp
theorem nz_u8 (y : UInt8) : ((y.toNat : Int) != 0) = (y != 0) := by
  by_cases h : y = 0
  · subst h; rfl
  · have h1 : y.toNat ≠ 0 := fun e => h (UInt8.toNat_inj.mp e)
    have h2 : (y != 0) = true := by simp [h]
    rw [h2]; simp; omega
theorem Sum_one (v : Value) (b : List UInt8) (w : World) (hv : RdB w v b) : Calls Try.prog 39 #[.slice (some ⟨w.heap.size, 0, none⟩) 1 1] (w.alloc (.cells #[v] 24)) fun e w' => e = .returned (.int .u32 (sumF b : Nat)) ∧ Below w.heap.size w w' :=
  (Sum_any _ [b] _ (RdL.one hv _)).mono fun e w' ⟨he, hb⟩ => by
    rw [show ([b] : List (List UInt8)).flatten = b by simp] at he
    exact ⟨he, ((Below.refl _ _).alloc (Nat.le_refl _) _).trans (hb.mono (by simp))⟩
theorem u8_xor (x y : UInt8) : bits .xor .u8 (x.toNat : Int) (y.toNat : Int) = ((x ^^^ y).toNat : Int) := by
  have hx := x.toNat_lt
  have hy := y.toNat_lt
  have h1 : (BitVec.ofInt 8 (x.toNat : Int)).toNat = x.toNat := by rw [BitVec.toNat_ofInt]; omega
  have h2 : (BitVec.ofInt 8 (y.toNat : Int)).toNat = y.toNat := by rw [BitVec.toNat_ofInt]; omega
  show IntKind.u8.wrap ((BitVec.ofInt 8 (x.toNat : Int) ^^^ BitVec.ofInt 8 (y.toNat : Int)).toNat : Int) = _
  rw [BitVec.toNat_xor, h1, h2, UInt8.toNat_xor]
  have h3 : x.toNat ^^^ y.toNat < 2 ^ 8 := Nat.xor_lt_two_pow hx hy
  rw [IntKind.wrap_u8]
  omega
set_option maxRecDepth 100000 in
set_option maxHeartbeats 8000000 in
theorem turned_any (v : Value) (b : List UInt8) (place : Int) (mask : Nat) (w : World) (rb : RdB w v b) (hl : b.length ≤ 140737488351232) (hp : -9223372036854775808 ≤ place ∧ place ≤ 9223372036854775807) (hm : mask < 4294967296) :
    Calls Try.prog 12 #[v, .int .i64 place, .int .u32 (mask : Int)] w fun e w' => e = .returned (.bool true) ∧ Below w.heap.size w w' := by
  obtain ⟨A, c, rfl, hmm⟩ := rb.form
  go_enter Try.func12, Try.ntmps12
  go_wp2_with fail
  refine (live_any _).mono ?_
  rintro e w0 ⟨rfl, hb⟩
  go_wp2_with fail
  refine (Sum_one _ b _ (rb.below hb (Nat.le_refl _))).mono ?_
  rintro e w1 ⟨rfl, hw⟩
  replace hb := hb.trans (hw.mono hb.size)
  clear hw
  have hs32 := sumF_lt b
  by_cases g1 : 268435455 < (b.length : Int)
  · go_wp2_with fail
    go_ret
    exact ⟨rfl, hb⟩
  by_cases g2 : place < 0
  · go_wp2_with fail
    go_ret
    exact ⟨rfl, hb⟩
  obtain ⟨p, rfl⟩ := Int.eq_ofNat_of_zero_le (show 0 ≤ place by omega)
  obtain ⟨q, hq⟩ : ∃ q, q = p / 8 := ⟨_, rfl⟩
  obtain ⟨s, hs⟩ : ∃ s, s = p % 8 := ⟨_, rfl⟩
  have hs8 : s < 8 := by omega
  have e1 : (p : Int) / 8 = (q : Int) := by omega
  have e2 : (p : Int) % 8 = (s : Int) := by omega
  have e3 : (p : Int).tdiv 8 = (q : Int) := by rw [Int.tdiv_eq_ediv_of_nonneg (by omega)]; exact e1
  have e4 : (p : Int).tmod 8 = (s : Int) := by rw [Int.tmod_eq_emod_of_nonneg (by omega)]; exact e2
  have HQ := Lib.hid hq
  have HS := Lib.hid hs
  clear hq hs
  by_cases g3 : (b.length : Int) ≤ (q : Int)
  · go_wp2_with fail
    go_ret
    exact ⟨rfl, hb⟩
  by_cases g4 : mask = 0
  · have g5 : ((mask : Int) == 0) = true := by simp [g4]
    clear g4
    go_wp2_with fail
    go_ret
    exact ⟨rfl, hb⟩
  have g5 : ((mask : Int) == 0) = false := by simp; omega
  have HM := Lib.hid g4
  clear g4
  go_wp2_with fail
  refine (both_any _ _ b [] _ (rb.below hb (Nat.le_refl _)) RdB.nil (by simp; omega)).mono ?_
  rintro e w2 ⟨v2, rfl, o2, hw⟩
  rw [List.append_nil] at o2
  obtain ⟨g, cc, rfl⟩ := o2.some' rfl (by omega)
  replace o2 := o2.low hb.size
  replace hb := hb.trans (hw.mono hb.size)
  clear hw
  obtain ⟨W, hW⟩ : ∃ W, W = 2 ^ s * mask := ⟨_, rfl⟩
  have hWl : W < 1099511627776 := by
    have h1 : 2 ^ s ≤ 2 ^ 7 := Nat.pow_le_pow_right (by omega) (by omega)
    have h2 : 2 ^ s * mask ≤ 128 * 4294967295 := Nat.mul_le_mul h1 (by omega)
    rw [hW]
    exact Nat.lt_of_le_of_lt h2 (by decide)
  have hsh : IntKind.u64.wrap ((mask : Int) * 2 ^ s) = (W : Int) := by
    rw [show (mask : Int) * 2 ^ s = (W : Int) by rw [hW, Int.mul_comm]; push_cast; rfl, IntKind.wrap_u64]
    omega
  have HW := Lib.hid hW
  clear hW
  have hqb : q < b.length := by omega
  go_wp2_with fail
  clear hsh e1 e2 e3 e4
  go_loopw [11, 12, 13] (fun wd ch i wr => ∃ j D : Nat, i = .int .i64 (j : Int) ∧ wd = .int .u64 (D : Int) ∧ j ≤ 5 ∧ q + j ≤ b.length ∧ Hid (D = W / 256 ^ j) ∧ D < 1099511627776 ∧ ch = .bool (anyNZ (leF j W)) ∧ OwB wr w.heap.size (.slice (some ⟨g, 0, none⟩) b.length cc) (turnF b q (leF j W)) ∧ Below w.heap.size w wr)
    (fun _ _ i _ => 5 - (intOf i).toNat)
  case atStart => exact ⟨0, W, rfl, rfl, by omega, by omega, Lib.hid (by simp), hWl, rfl, by rw [leF, turnF_nil]; exact o2, hb⟩
  case round =>
    clear o2 hb
    obtain ⟨j, D, rfl, rfl, hj5, hjb, HD, hD, rfl, ho, hb⟩ := hrel
    by_cases hC : j < 5 ∧ q + j < b.length
    · obtain ⟨k1, k2⟩ := hC
      have hln := leF_length j W
      have htl : (turnF b q (leF j W)).length = b.length := turnF_length _ _ _ (by omega)
      have hc := ho.cell (j := q + j) (by omega)
      have hfz := ho.frozen (j := q + j) (by omega)
      have hgb := ho.lt g rfl
      have hv : (turnF b q (leF j W))[q + j]'(by omega) = b[q + j] := by
        have := turnF_get b q (leF j W) (by omega) (by omega)
        simpa only [hln] using this
      rw [hv] at hc
      have hset : turnF b q (leF (j + 1) W) = (turnF b q (leF j W)).set (q + j) (b[q + j] ^^^ UInt8.ofNat (D % 256)) := by
        rw [leF_snoc, ← HD.out]
        have := turnF_snoc b q (leF j W) (UInt8.ofNat (D % 256)) (by omega)
        simpa only [hln] using this
      have hany : anyNZ (leF (j + 1) W) = (anyNZ (leF j W) || UInt8.ofNat (D % 256) != 0) := by rw [leF_snoc, ← HD.out, anyNZ_snoc]
      have hxn : ((UInt8.ofNat (D % 256)).toNat : Int) = (D : Int) % 256 := by simp
      have hx := u8_xor b[q + j] (UInt8.ofNat (D % 256))
      rw [hxn] at hx
      generalize UInt8.ofNat (D % 256) = x at *
      generalize b[q + j] = y at *
      have HSET := Lib.hid hset
      have HANY := Lib.hid hany
      have HX := Lib.hid hxn
      have HD2 : Hid (D / 256 = W / 256 ^ (j + 1)) := Lib.hid (by rw [HD.out, Nat.div_div_eq_div_mul, ← Nat.pow_succ])
      clear hv htl hln hset hany hxn
      have hon := ho.set (q + j) (y ^^^ x)
      rw [← HSET.out, UInt8.toNat_xor] at hon
      have hbn := hb.setCell (p := ⟨g, q + j, none⟩) hgb.1 (.int .u8 ((y.toNat ^^^ x.toNat : Nat) : Int))
      rcases tf (anyNZ (leF j W)) with hz | hz
      · rw [hz]
        go_wp2_with fail
        exact ⟨⟨j + 1, D / 256, by go_num, by go_num, by omega, by omega, HD2, by omega, by rw [HANY.out, hz]; rfl, hon, hbn⟩, by simp [intOf]; omega⟩
      · rw [hz]
        go_wp2_with fail
        exact ⟨⟨j + 1, D / 256, by go_num, by go_num, by omega, by omega, HD2, by omega, by rw [HANY.out, hz, Bool.false_or, ← HX.out, nz_u8], hon, hbn⟩, by simp [intOf]; omega⟩
    · have hrd := ho.rd
      have hsplit : j = 5 ∨ (j < 5 ∧ ¬ q + j < b.length) := by omega
      rcases tf (anyNZ (leF j W)) with hz | hz
      · have hne : sumF (turnF b q (leF j W)) ≠ sumF b := by
          rw [HW.out] at hz ⊢
          exact sumF_mask b q j s mask hj5 hjb hs8 hm (fun _ => by have := HM.out; omega) hz
        have hq1 : ((sumF b : Int) != (sumF (turnF b q (leF j W)) : Int)) = true := by simp; omega
        rw [hz]
        clear hz hne ho hC
        rcases hsplit with h5 | ⟨h5, h6⟩
        · have j5 : ¬ (j : Int) < 5 := by omega
          clear h5
          go_wp2_with fail
          refine (Sum_one _ _ _ hrd).mono ?_
          rintro e w5 ⟨rfl, hw⟩
          replace hb := hb.trans (hw.mono hb.size)
          generalize sumF (turnF b q (leF j W)) = S2 at *
          go_wp2_with fail
          go_ret
          exact ⟨rfl, hb⟩
        · go_wp2_with fail
          refine (Sum_one _ _ _ hrd).mono ?_
          rintro e w5 ⟨rfl, hw⟩
          replace hb := hb.trans (hw.mono hb.size)
          generalize sumF (turnF b q (leF j W)) = S2 at *
          go_wp2_with fail
          go_ret
          exact ⟨rfl, hb⟩
      · have HZ : Hid (sumF (turnF b q (leF j W)) = sumF b) := Lib.hid (by rw [turnF_zero b q _ (by rw [leF_length]; omega) (anyNZ_false hz)])
        rw [hz]
        clear hz ho hC
        rcases hsplit with h5 | ⟨h5, h6⟩
        · have j5 : ¬ (j : Int) < 5 := by omega
          clear h5
          go_wp2_with fail
          refine (Sum_one _ _ _ hrd).mono ?_
          rintro e w5 ⟨rfl, hw⟩
          replace hb := hb.trans (hw.mono hb.size)
          rw [HZ.out]
          go_wp2_with fail
          go_ret
          exact ⟨rfl, hb⟩
        · go_wp2_with fail
          refine (Sum_one _ _ _ hrd).mono ?_
          rintro e w5 ⟨rfl, hw⟩
          replace hb := hb.trans (hw.mono hb.size)
          rw [HZ.out]
          go_wp2_with fail
          go_ret
          exact ⟨rfl, hb⟩
end Go.Proofs.Ytijlebjldnhnaaa
