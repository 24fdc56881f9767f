/- espalierlaw01.InkOne: the walk. -/
import Derived.Test.YtijlebjldnhnaaaLawWrites
namespace Go.Proofs.Ytijlebjldnhnaaa
open Go.RowKit
theorem ruF_err : ∀ (l : List UInt8) (i n : Nat), (ruF i n l).2.2 ≠ 0 → (ruF i n l).1 = 0
  | [], i, n, _ => by simp [ruF]
  | x :: r, i, n, h => by
    have ih := ruF_err r (i + 1) (n + x.toNat % 128 * 128 ^ i)
    unfold ruF at h ⊢
    split
    · rfl
    · rename_i h1
      rw [if_neg h1] at h
      split
      · rfl
      · rename_i h2
        rw [if_neg h2] at h
        split
        · rename_i h3
          rw [if_pos h3] at h
          exact absurd rfl h
        · rename_i h3
          rw [if_neg h3] at h
          exact ih h
theorem ruV_zero (b : List UInt8) : ruV b 0 = ((ruF 0 0 b).1, bif (ruF 0 0 b).2.2 == 0 then ((ruF 0 0 b).2.1 : Int) else 0, (ruF 0 0 b).2.2) := by
  unfold ruV
  rw [if_neg (by omega), show (0 : Int).toNat = 0 from rfl, List.drop_zero]
  cases ((ruF 0 0 b).2.2 == 0) <;> simp
set_option maxRecDepth 100000 in
set_option maxHeartbeats 4000000 in
theorem one_any (v : Value) (b : List UInt8) (w : World) (rb : RdB w v b) : Calls Try.prog 7 #[v] w fun e w' => e = .returned (.bool true) ∧ Below w.heap.size w w' := by
  obtain ⟨A, c, rfl, hm⟩ := rb.form
  have hz := ruV_zero b
  by_cases hC : (ruF 0 0 b).2.2 = 0
  · obtain ⟨h1, h2, k, h3, h4, _, h6⟩ := ruF_one b 0 0 (ruF 0 0 b).1 (ruF 0 0 b).2.1 (by omega) (by rw [← hC])
    simp only [Nat.pow_zero, Nat.mul_one, Nat.zero_add, Nat.sub_zero] at h2 h3 h4 h6
    rw [hC] at hz
    rw [h3] at hz
    generalize (ruF 0 0 b).2.1 = K at *
    have hV : Hid (ruV b 0 = (k, (K : Int), 0)) := Lib.hid hz
    have HU := Lib.hid h4
    clear hz hC h3 h4
    obtain ⟨A1, c1, q1, hr1⟩ := rb.run_h K h2
    go_enter Try.func7, Try.ntmps7
    go_wp2_with fail
    refine (live_any _).mono ?_
    rintro e w0 ⟨rfl, hb⟩
    go_wp2_with fail
    refine (ReadUint_any _ b 0 _ (rb.below hb (Nat.le_refl _))).mono ?_
    rintro e w1 ⟨rfl, rfl⟩
    rw [hV.out]
    go_wp2_with fail
    refine (Uint_any k h6 _).mono ?_
    rintro e w2 ⟨u, rfl, ou, hw⟩
    replace hb := hb.trans (hw.mono hb.size)
    go_wp2_with fail
    refine (Same_any _ _ _ _ _ ou.rd (hr1.below hb (Nat.le_refl _))).mono ?_
    rintro e w3 ⟨rfl, rfl⟩
    rw [HU.out, beq_self_eq_true]
    go_wp2_with fail
    go_ret
    exact ⟨rfl, hb⟩
  · have h1 := ruF_err b 0 0 hC
    have hcc : ((ruF 0 0 b).2.2 == 0) = false := by simpa using hC
    rw [hcc, h1] at hz
    have hV : Hid (ruV b 0 = (0, 0, (ruF 0 0 b).2.2)) := Lib.hid hz
    clear hz hC h1
    generalize (ruF 0 0 b).2.2 = C at *
    go_enter Try.func7, Try.ntmps7
    go_wp2_with fail
    refine (live_any _).mono ?_
    rintro e w0 ⟨rfl, hb⟩
    go_wp2_with fail
    refine (ReadUint_any _ b 0 _ (rb.below hb (Nat.le_refl _))).mono ?_
    rintro e w1 ⟨rfl, rfl⟩
    rw [hV.out]
    go_wp2_with fail
    go_ret
    exact ⟨rfl, hb⟩
end Go.Proofs.Ytijlebjldnhnaaa
