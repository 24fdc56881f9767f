/- Texts joined: plain.may, plain.long; Powers of two from 512 to 65536.; plain.isKind, isPage, Size, number, part; node.isPage, MostKey, MostValue; ink.half; ink.Sum; Helpers for the writing of pages; plain.lay -/
import Derived.Test.YtfcnkpofcekmgaaGreatNW1
import Derived.Test.YtfcnkpofcekmgaaGreatNW2
import Derived.Test.YtfcnkpofcekmgaaGreatNW3
import Derived.Deep.CutRange
import Derived.Deep.DeepCutAuto
import Derived.Deep.QuietTactic
import Derived.BigQuiet
import Derived.Outline
import Derived.Deep.RegionHeld3
-- plain.may, plain.long: walks.
namespace Go.Proofs.YtfcnkpofcekmgaaGreat
open Go.RowKit
set_option maxRecDepth 100000 in
set_option maxHeartbeats 4000000 in
theorem long_any (x : CV) (w : World) (hx : x.ok w) (hl : x.c.key.length + x.c.val.length ≤ 9223372036854775000) : Calls Tryz.prog 128 #[cellV x] w fun e w' => e = .returned (.int .i64 (longF x.c : Nat)) ∧ Below w.heap.size w w' := by
  obtain ⟨kv, vv, key, kind, val, pg, ct⟩ := x
  obtain ⟨A, ca, hkv, hka⟩ := hx.k.form
  obtain ⟨B, cb, hvv, hvb⟩ := hx.v.form
  simp only at hkv hvv hka hvb hl
  subst hkv hvv
  have hA : Below w.heap.size w (w.alloc (.cells #[.slice A key.length ca, .int .i64 kind, .slice B val.length cb, .int .i64 pg, .int .i64 ct] 43)) := (Below.refl _ _).alloc (Nat.le_refl _) _
  obtain ⟨c0, c1, c2, c3, c4⟩ := cells5 (OBlk.new' w 43 [.slice A key.length ca, .int .i64 kind, .slice B val.length cb, .int .i64 pg, .int .i64 ct])
  by_cases h1 : kind = 1
  · subst h1
    unfold cellV
    go_enter Tryz.func128, Tryz.ntmps128
    go_wp2_with fail
    go_ret
    exact ⟨by unfold longF; rw [if_pos rfl]; go_num, hA⟩
  · have hb : (kind == 1) = false := beq_eq_false_iff_ne.2 h1
    have HL : Hid (longF ⟨key, kind, val, pg, ct⟩ = 11 + key.length) := by show _ = _; unfold longF; rw [if_neg h1]
    clear h1
    unfold cellV
    go_enter Tryz.func128, Tryz.ntmps128
    go_wp2_with fail
    go_ret
    exact ⟨by rw [HL.out]; go_num, hA⟩
set_option maxRecDepth 100000 in
set_option maxHeartbeats 4000000 in
theorem may_any (x : CV) (kind : Int) (P : Nat) (hP : P ≤ 65536) (w : World) (hx : x.ok w) : Calls Tryz.prog 129 #[.int .i64 kind, .int .i64 (P : Int), cellV x] w fun e w' => e = .returned (.bool (mayP kind P x.c)) ∧ Below w.heap.size w w' := by
  obtain ⟨kv, vv, key, ck, val, pg, ct⟩ := x
  obtain ⟨A, ca, hkv, hka⟩ := hx.k.form
  obtain ⟨B, cb, hvv, hvb⟩ := hx.v.form
  simp only at hkv hvv hka hvb
  subst hkv hvv
  have hA : Below w.heap.size w (w.alloc (.cells #[.slice A key.length ca, .int .i64 ck, .slice B val.length cb, .int .i64 pg, .int .i64 ct] 43)) := (Below.refl _ _).alloc (Nat.le_refl _) _
  obtain ⟨c0, c1, c2, c3, c4⟩ := cells5 (OBlk.new' w 43 [.slice A key.length ca, .int .i64 ck, .slice B val.length cb, .int .i64 pg, .int .i64 ct])
  unfold cellV
  go_enter Tryz.func129, Tryz.ntmps129
  go_upto_region 1 with (fail)
  go_cut [7, 8] (fun a b wx => a = .bool (decide (childP ⟨key, ck, val, pg, ct⟩)) ∧ b = .bool (decide (thereP ⟨key, ck, val, pg, ct⟩)) ∧ ∃ m, wx = (w.alloc (.cells #[.slice A key.length ca, .int .i64 ck, .slice B val.length cb, .int .i64 pg, .int .i64 ct] 43)).drewN m)
  case first =>
    have HCH : Hid (decide (childP ⟨key, ck, val, pg, ct⟩) = (decide (2 ≤ pg) && decide (pg < 65536))) := by
      show _ = _
      rw [Bool.eq_iff_iff, Bool.and_eq_true, decide_eq_true_iff, decide_eq_true_iff, decide_eq_true_iff]; exact Iff.rfl
    have HTH : Hid (decide (thereP ⟨key, ck, val, pg, ct⟩) = ((pg == 0) && (ct == 0))) := by
      show _ = _
      rw [Bool.eq_iff_iff, Bool.and_eq_true, decide_eq_true_iff, beq_iff_eq, beq_iff_eq]; exact Iff.rfl
    by_cases a1 : 2 ≤ pg
    · have e1 : (pg == 0) = false := beq_eq_false_iff_ne.2 (by omega)
      by_cases a2 : pg < 65536
      · go_region
        go_wp2_with fail
        go_meet
        exact ⟨by rw [HCH.out]; simp [a1, a2], by rw [HTH.out]; simp [e1], 1, rfl⟩
      · go_region
        go_wp2_with fail
        go_meet
        exact ⟨by rw [HCH.out, decide_eq_false (show ¬ pg < 65536 by omega), Bool.and_false], by rw [HTH.out]; simp [e1], 1, rfl⟩
    · by_cases a3 : pg = 0
      · subst a3
        rcases Bool.eq_false_or_eq_true (ct == 0) with a4 | a4
        · go_region
          go_wp2_with fail
          go_meet
          exact ⟨by rw [HCH.out]; simp, by rw [HTH.out]; simp [a4], 1, rfl⟩
        · go_region
          go_wp2_with fail
          go_meet
          exact ⟨by rw [HCH.out]; simp, by rw [HTH.out]; simp [a4], 1, rfl⟩
      · have e1 : (pg == 0) = false := beq_eq_false_iff_ne.2 a3
        clear a3
        go_region
        go_wp2_with fail
        go_meet
        exact ⟨by rw [HCH.out, decide_eq_false (show ¬ 2 ≤ pg by omega), Bool.false_and], by rw [HTH.out]; simp [e1], 1, rfl⟩
  case rest =>
    obtain ⟨rfl, rfl, m, rfl⟩ := hcut
    have HM : ∀ bd : Bool, bd = decide (P / 8 < key.length ∨ (kind = 2 ∧ key.length = 0) ∨ (ck ≠ 1 ∧ 0 < val.length)) → Hid (mayP kind P ⟨key, ck, val, pg, ct⟩ = bif bd then false
      else if kind = 3 then (ck == 3) && (decide (childP ⟨key, ck, val, pg, ct⟩) && (decide (1 ≤ ct) && decide (ct ≤ 1073741824)))
      else if ck = 1 then decide (thereP ⟨key, ck, val, pg, ct⟩) && decide (val.length ≤ P / 16 * 3)
      else if ck = 2 then decide (childP ⟨key, ck, val, pg, ct⟩) && (decide ((P : Int) / 16 * 3 < ct) && decide (ct ≤ 65536))
      else if ck = 4 then decide (thereP ⟨key, ck, val, pg, ct⟩) || (decide (childP ⟨key, ck, val, pg, ct⟩) && (decide (1 ≤ ct) && decide (ct ≤ 1073741824)))
      else false) := by
      intro bd hbd
      show _ = _
      unfold mayP
      by_cases hc : P / 8 < key.length ∨ (kind = 2 ∧ key.length = 0) ∨ (ck ≠ 1 ∧ 0 < val.length)
      · rw [if_pos hc, hbd, decide_eq_true hc]; rfl
      · rw [if_neg hc, hbd, decide_eq_false hc]
        simp only [Bool.cond_false, Bool.decide_and, Bool.decide_or]
        rfl
    go_upto_region 2 with (fail)
    go_cut [51] (fun s wx => s = .bool (decide (P / 8 < key.length ∨ (kind = 2 ∧ key.length = 0) ∨ (ck ≠ 1 ∧ 0 < val.length))) ∧ ∃ m, wx = (w.alloc (.cells #[.slice A key.length ca, .int .i64 ck, .slice B val.length cb, .int .i64 pg, .int .i64 ct] 43)).drewN m)
    case first =>
      clear HM
      generalize decide (childP ⟨key, ck, val, pg, ct⟩) = ch at *
      generalize decide (thereP ⟨key, ck, val, pg, ct⟩) = th at *
      by_cases b1 : P / 8 < key.length
      · have b1i : (P : Int) / 8 < (key.length : Int) := by omega
        go_wp2_with fail
        go_meet
        refine ⟨?_, m, ?_⟩
        · first | (simp [b1]; done) | (simp [b1, b1i]; omega)
        · rfl
      · have b1i : ¬ ((P : Int) / 8 < (key.length : Int)) := by omega
        by_cases q2 : kind = 2
        · subst q2
          rcases Bool.eq_false_or_eq_true (((key.length : Nat) : Int) == 0) with z0 | z0
          · skip
            go_wp2_with fail
            go_meet
            refine ⟨?_, m, ?_⟩
            · first | (simp [(show key = [] by simpa using z0)]; done) | (simp [b1, b1i, z0, (show key = [] by simpa using z0)]; omega)
            · rfl
          · have z1 : ¬ key = [] := by simpa using z0
            by_cases k1 : ck = 1
            · subst k1
              go_wp2_with fail
              go_meet
              refine ⟨?_, m, ?_⟩
              · first | (simp [b1, z1]; done) | (simp [b1, b1i, z0, z1]; omega)
              · rfl
            · have k1b : (ck == 1) = false := beq_eq_false_iff_ne.2 k1
              have k1c : (ck != 1) = true := by rw [bne, k1b]; rfl
              by_cases v0 : 0 < val.length
              · have v0i : (0 : Int) < (val.length : Int) := by omega
                go_wp2_with fail
                go_meet
                refine ⟨?_, m, ?_⟩
                · first | (simp [b1, z1, k1, v0]; done) | (simp [b1, b1i, z0, z1, k1, k1b, v0, v0i]; omega)
                · rfl
              · have v0i : ¬ ((0 : Int) < (val.length : Int)) := by omega
                go_wp2_with fail
                go_meet
                refine ⟨?_, m, ?_⟩
                · first | (simp [b1, z1, k1, v0]; done) | (simp [b1, b1i, z0, z1, k1, k1b, v0, v0i]; omega)
                · rfl
        · have q2b : (kind == 2) = false := beq_eq_false_iff_ne.2 q2
          have q2c : (kind != 2) = true := by rw [bne, q2b]; rfl
          by_cases k1 : ck = 1
          · subst k1
            go_wp2_with fail
            go_meet
            refine ⟨?_, m, ?_⟩
            · first | (simp [b1, q2]; done) | (simp [b1, b1i, q2, q2b]; omega)
            · rfl
          · have k1b : (ck == 1) = false := beq_eq_false_iff_ne.2 k1
            have k1c : (ck != 1) = true := by rw [bne, k1b]; rfl
            by_cases v0 : 0 < val.length
            · have v0i : (0 : Int) < (val.length : Int) := by omega
              go_wp2_with fail
              go_meet
              refine ⟨?_, m, ?_⟩
              · first | (simp [b1, q2, k1, v0]; done) | (simp [b1, b1i, q2, q2b, k1, k1b, v0, v0i]; omega)
              · rfl
            · have v0i : ¬ ((0 : Int) < (val.length : Int)) := by omega
              go_wp2_with fail
              go_meet
              refine ⟨?_, m, ?_⟩
              · first | (simp [b1, q2, k1, v0]; done) | (simp [b1, b1i, q2, q2b, k1, k1b, v0, v0i]; omega)
              · rfl
    case rest =>
      obtain ⟨rfl, m, rfl⟩ := hcut
      have HM := HM _ rfl
      generalize decide (P / 8 < key.length ∨ (kind = 2 ∧ key.length = 0) ∨ (ck ≠ 1 ∧ 0 < val.length)) = bd at *
      generalize decide (childP ⟨key, ck, val, pg, ct⟩) = ch at *
      generalize decide (thereP ⟨key, ck, val, pg, ct⟩) = th at *
      cases bd with
      | true =>
        go_wp2_with fail
        go_ret
        refine ⟨?_, below_drewN hA m⟩
        rw [HM.out]
        first | (simp []; done) | (simp []; omega)
      | false =>
        by_cases q3 : kind = 3
        · subst q3
          by_cases k3 : ck = 3
          · subst k3
            cases ch with
            | true =>
              by_cases d1 : 1 ≤ ct
              · skip
                by_cases d2 : ct ≤ 1073741824
                · skip
                  go_wp2_with fail
                  go_ret
                  refine ⟨?_, below_drewN hA m⟩
                  rw [HM.out]
                  first | (simp [d1, d2]; done) | (simp [d1, d2]; omega)
                · skip
                  go_wp2_with fail
                  go_ret
                  refine ⟨?_, below_drewN hA m⟩
                  rw [HM.out]
                  first | (simp [d1, d2]; done) | (simp [d1, d2]; omega)
              · skip
                go_wp2_with fail
                go_ret
                refine ⟨?_, below_drewN hA m⟩
                rw [HM.out]
                first | (simp []; done) | (simp []; omega)
            | false =>
              go_wp2_with fail
              go_ret
              refine ⟨?_, below_drewN hA m⟩
              rw [HM.out]
              first | (simp []; done) | (simp []; omega)
          · have k3b : (ck == 3) = false := beq_eq_false_iff_ne.2 k3
            have k3c : (ck != 3) = true := by rw [bne, k3b]; rfl
            go_wp2_with fail
            go_ret
            refine ⟨?_, below_drewN hA m⟩
            rw [HM.out]
            first | (simp [k3b]; done) | (simp [k3, k3b]; omega)
        · have q3b : (kind == 3) = false := beq_eq_false_iff_ne.2 q3
          have q3c : (kind != 3) = true := by rw [bne, q3b]; rfl
          by_cases k1 : ck = 1
          · subst k1
            cases th with
            | true =>
              by_cases v2 : val.length ≤ P / 16 * 3
              · have v2i : (val.length : Int) ≤ (P : Int) / 16 * 3 := by omega
                go_wp2_with fail
                go_ret
                refine ⟨?_, below_drewN hA m⟩
                rw [HM.out]
                first | (simp [q3, v2]; done) | (simp [q3, q3b, v2, v2i]; omega)
              · have v2i : ¬ ((val.length : Int) ≤ (P : Int) / 16 * 3) := by omega
                go_wp2_with fail
                go_ret
                refine ⟨?_, below_drewN hA m⟩
                rw [HM.out]
                first | (simp [q3, v2]; done) | (simp [q3, q3b, v2, v2i]; omega)
            | false =>
              go_wp2_with fail
              go_ret
              refine ⟨?_, below_drewN hA m⟩
              rw [HM.out]
              first | (simp [q3]; done) | (simp [q3, q3b]; omega)
          · have k1b : (ck == 1) = false := beq_eq_false_iff_ne.2 k1
            have k1c : (ck != 1) = true := by rw [bne, k1b]; rfl
            by_cases k2 : ck = 2
            · subst k2
              cases ch with
              | true =>
                by_cases d3 : (P : Int) / 16 * 3 < ct
                · skip
                  by_cases d4 : ct ≤ 65536
                  · skip
                    go_wp2_with fail
                    go_ret
                    refine ⟨?_, below_drewN hA m⟩
                    rw [HM.out]
                    first | (simp [q3, k1, d3, d4]; done) | (simp [q3, q3b, k1, k1b, d3, d4]; omega)
                  · skip
                    go_wp2_with fail
                    go_ret
                    refine ⟨?_, below_drewN hA m⟩
                    rw [HM.out]
                    first | (simp [q3, k1, d3, d4]; done) | (simp [q3, q3b, k1, k1b, d3, d4]; omega)
                · skip
                  go_wp2_with fail
                  go_ret
                  refine ⟨?_, below_drewN hA m⟩
                  rw [HM.out]
                  first | (simp [q3, k1]; done) | (simp [q3, k1]; omega)
              | false =>
                go_wp2_with fail
                go_ret
                refine ⟨?_, below_drewN hA m⟩
                rw [HM.out]
                first | (simp [q3, k1]; done) | (simp [q3, q3b, k1, k1b]; omega)
            · have k2b : (ck == 2) = false := beq_eq_false_iff_ne.2 k2
              have k2c : (ck != 2) = true := by rw [bne, k2b]; rfl
              by_cases k4 : ck = 4
              · subst k4
                cases th with
                | true =>
                  go_wp2_with fail
                  go_ret
                  refine ⟨?_, below_drewN hA m⟩
                  rw [HM.out]
                  first | (simp [q3, k1, k2]; done) | (simp [q3, q3b, k1, k1b, k2, k2b]; omega)
                | false =>
                  cases ch with
                  | true =>
                    by_cases d1 : 1 ≤ ct
                    · skip
                      by_cases d2 : ct ≤ 1073741824
                      · skip
                        go_wp2_with fail
                        go_ret
                        refine ⟨?_, below_drewN hA m⟩
                        rw [HM.out]
                        first | (simp [q3, k1, k2, d1, d2]; done) | (simp [q3, q3b, k1, k1b, k2, k2b, d1, d2]; omega)
                      · skip
                        go_wp2_with fail
                        go_ret
                        refine ⟨?_, below_drewN hA m⟩
                        rw [HM.out]
                        first | (simp [q3, k1, k2, d1, d2]; done) | (simp [q3, q3b, k1, k1b, k2, k2b, d1, d2]; omega)
                    · skip
                      go_wp2_with fail
                      go_ret
                      refine ⟨?_, below_drewN hA m⟩
                      rw [HM.out]
                      first | (simp [q3, k1, k2]; done) | (simp [q3, k1, k2]; omega)
                  | false =>
                    go_wp2_with fail
                    go_ret
                    refine ⟨?_, below_drewN hA m⟩
                    rw [HM.out]
                    first | (simp [q3, k1, k2]; done) | (simp [q3, q3b, k1, k1b, k2, k2b]; omega)
              · have k4b : (ck == 4) = false := beq_eq_false_iff_ne.2 k4
                have k4c : (ck != 4) = true := by rw [bne, k4b]; rfl
                go_wp2_with fail
                go_ret
                refine ⟨?_, below_drewN hA m⟩
                rw [HM.out]
                first | (simp [q3, k1, k2, k4]; done) | (simp [q3, q3b, k1, k1b, k2, k2b, k4, k4b]; omega)
end Go.Proofs.YtfcnkpofcekmgaaGreat

-- Powers of two from 512 to 65536.
namespace Go.Proofs.YtfcnkpofcekmgaaGreat
open Go.RowKit
def isPow (p : Int) : Prop := p = 512 ∨ p = 1024 ∨ p = 2048 ∨ p = 4096 ∨ p = 8192 ∨ p = 16384 ∨ p = 32768 ∨ p = 65536
instance (p : Int) : Decidable (isPow p) := by unfold isPow; infer_instance
def isPowB (p : Int) : Bool := decide (isPow p)
theorem and_pred (k p : Nat) (h1 : 2 ^ k ≤ p) (h2 : p < 2 ^ (k + 1)) : p &&& (p - 1) = 0 ↔ p = 2 ^ k := by
  constructor
  · intro h
    rcases Nat.lt_or_ge (2 ^ k) p with hlt | hge
    · have h3 : p.testBit k = true := by
        have := Nat.testBit_two_pow_add_eq (p - 2 ^ k) k
        rw [show 2 ^ k + (p - 2 ^ k) = p by omega] at this
        rw [this, Nat.testBit_lt_two_pow (by rw [Nat.pow_succ] at h2; omega)]; rfl
      have h4 : (p - 1).testBit k = true := by
        have := Nat.testBit_two_pow_add_eq (p - 1 - 2 ^ k) k
        rw [show 2 ^ k + (p - 1 - 2 ^ k) = p - 1 by omega] at this
        rw [this, Nat.testBit_lt_two_pow (by rw [Nat.pow_succ] at h2; omega)]; rfl
      have h5 := congrArg (fun x => Nat.testBit x k) h
      simp [Nat.testBit_and, h3, h4] at h5
    · omega
  · rintro rfl
    apply Nat.eq_of_testBit_eq
    intro i
    rw [Nat.testBit_and, Nat.testBit_two_pow, Nat.testBit_two_pow_sub_one]
    by_cases h : k = i
    · subst h; simp
    · simp [h]
theorem i64_and_nat (a b : Nat) (ha : a < 9223372036854775808) (hb : b < 9223372036854775808) : bits .and .i64 (a : Int) (b : Int) = ((a &&& b : Nat) : Int) := by
  have oi : ∀ a : Nat, a < 9223372036854775808 → (BitVec.ofInt 64 (a : Int)).toNat = a := fun a ha => by
    rw [BitVec.ofInt_natCast, BitVec.toNat_ofNat]; exact Nat.mod_eq_of_lt (by omega)
  have hx : a &&& b < 2 ^ 63 := Nat.and_lt_two_pow _ (by omega)
  show IntKind.i64.wrap ((BitVec.ofInt 64 (a : Int) &&& BitVec.ofInt 64 (b : Int)).toNat : Int) = _
  rw [BitVec.toNat_and, oi a ha, oi b hb, IntKind.wrap_i64]
  omega
theorem pow_test (p : Int) (h1 : 512 ≤ p) (h2 : p ≤ 65536) : (bits .and .i64 p (p - 1) != 0) = !isPowB p := by
  obtain ⟨n, rfl⟩ := Int.eq_ofNat_of_zero_le (show 0 ≤ p by omega)
  have e : ((n : Int) - 1) = ((n - 1 : Nat) : Int) := by omega
  rw [e, i64_and_nat n (n - 1) (by omega) (by omega)]
  have key : n &&& (n - 1) = 0 ↔ isPow n := by
    unfold isPow
    rcases Nat.lt_or_ge n 1024 with h | h
    · rw [and_pred 9 n (by omega) (by omega)]; omega
    rcases Nat.lt_or_ge n 2048 with h | h
    · rw [and_pred 10 n (by omega) (by omega)]; omega
    rcases Nat.lt_or_ge n 4096 with h | h
    · rw [and_pred 11 n (by omega) (by omega)]; omega
    rcases Nat.lt_or_ge n 8192 with h | h
    · rw [and_pred 12 n (by omega) (by omega)]; omega
    rcases Nat.lt_or_ge n 16384 with h | h
    · rw [and_pred 13 n (by omega) (by omega)]; omega
    rcases Nat.lt_or_ge n 32768 with h | h
    · rw [and_pred 14 n (by omega) (by omega)]; omega
    rcases Nat.lt_or_ge n 65536 with h | h
    · rw [and_pred 15 n (by omega) (by omega)]; omega
    · rw [and_pred 16 n (by omega) (by omega)]; omega
  unfold isPowB
  by_cases h : isPow n
  · rw [key.2 h]; simp [h]
  · have : n &&& (n - 1) ≠ 0 := fun h' => h (key.1 h')
    simp only [h, decide_false, Bool.not_false, bne_iff_ne]; omega
theorem isPowB_range {p : Int} (h : isPowB p = true) : 512 ≤ p ∧ p ≤ 65536 := by
  have := of_decide_eq_true h
  unfold isPow at this
  omega
theorem pow_eq (p : Int) (h1 : 512 ≤ p) (h2 : p ≤ 65536) : (bits .and .i64 p (p - 1) == 0) = isPowB p := by
  have h := pow_test p h1 h2
  have e : (bits .and .i64 p (p - 1) != 0) = !(bits .and .i64 p (p - 1) == 0) := rfl
  rw [e] at h
  simpa using h
theorem isPowB_out {p : Int} (h : p < 512 ∨ 65536 < p) : isPowB p = false := by
  cases e : isPowB p
  · rfl
  · have := isPowB_range e
    omega
end Go.Proofs.YtfcnkpofcekmgaaGreat

-- plain.isKind, isPage, Size, number, part: walks.
namespace Go.Proofs.YtfcnkpofcekmgaaGreat
open Go.RowKit
set_option maxRecDepth 20000 in
set_option maxHeartbeats 1000000 in
theorem isPage_any (p : Int) (hp : -9223372036854775808 ≤ p ∧ p ≤ 9223372036854775807) (w : World) : Calls Tryz.prog 127 #[.int .i64 p] w fun e w' => e = .returned (.bool (isPowB p)) ∧ w = w' := by
  by_cases h1 : p < 512
  · have HV := Lib.hid (isPowB_out (.inl h1))
    go_enter Tryz.func127, Tryz.ntmps127
    go_wp2_with fail
    go_ret
    rw [HV.out]
    exact ⟨rfl, rfl⟩
  by_cases h2 : 65536 < p
  · have HV := Lib.hid (isPowB_out (.inr h2))
    go_enter Tryz.func127, Tryz.ntmps127
    go_wp2_with fail
    go_ret
    rw [HV.out]
    exact ⟨rfl, rfl⟩
  have hq := pow_eq p (by omega) (by omega)
  go_enter Tryz.func127, Tryz.ntmps127
  go_wp2_with fail
  go_ret
  exact ⟨rfl, rfl⟩
set_option maxRecDepth 20000 in
set_option maxHeartbeats 1000000 in
theorem isKind_any (k : Int) (w : World) : Calls Tryz.prog 126 #[.int .i64 k] w fun e w' => e = .returned (.bool (isKindB k)) ∧ w = w' := by
  by_cases h1 : k = 2
  · subst h1
    go_enter Tryz.func126, Tryz.ntmps126
    go_wp2_with fail
    go_ret
    exact ⟨rfl, rfl⟩
  · have e1 : (k == 2) = false := beq_eq_false_iff_ne.2 h1
    by_cases h2 : k = 3
    · subst h2
      go_enter Tryz.func126, Tryz.ntmps126
      go_wp2_with fail
      go_ret
      exact ⟨rfl, rfl⟩
    · have e2 : (k == 3) = false := beq_eq_false_iff_ne.2 h2
      have HK : Hid (isKindB k = false) := by show _ = _; unfold isKindB; exact decide_eq_false (by omega)
      clear h1 h2
      go_enter Tryz.func126, Tryz.ntmps126
      go_wp2_with fail
      go_ret
      rw [HK.out]
      exact ⟨rfl, rfl⟩
theorem sizeF_take (l : List PC) {i : Nat} (hi : i < l.length) : sizeF (l.take (i + 1)) = sizeF (l.take i) + (2 + longF l[i]) := by
  rw [List.take_succ_eq_append_getElem hi, sizeF_append]
  simp only [sizeF]; omega
theorem sizeF_take_le (l : List PC) (i : Nat) : sizeF (l.take i) ≤ sizeF l := by
  have : sizeF l = sizeF (l.take i) + (sizeF (l.drop i) - 8) := by rw [← sizeF_append, List.take_append_drop]
  omega
/-- Lengths that a machine has. -/
def Fit (l : List PC) : Prop := sizeF l ≤ 4611686018427387904 ∧ ∀ c ∈ l, c.key.length + c.val.length ≤ 4611686018427387904
set_option maxRecDepth 100000 in
set_option maxHeartbeats 4000000 in
theorem Size_any (kind : Int) (v : Value) (l : List CV) (w : World) (hl : RdCs w v l) (hf : Fit (pcs l)) :
    Calls Tryz.prog 73 #[.int .i64 kind, v] w fun e w' => e = .returned (.int .i64 (sizeF (pcs l) : Nat)) ∧ Below w.heap.size w w' := by
  obtain ⟨A, c, rfl, hm, hc⟩ := hl.slice
  obtain ⟨hf1, hf2⟩ := hf
  have HF2 := Lib.hid hf2
  clear hf2
  go_enter Tryz.func73, Tryz.ntmps73
  go_wp2_with fail
  go_loopw [5, 10] (fun n i wr => ∃ k : Nat, k ≤ l.length ∧ i = .int .i64 (k : Int) ∧ n = .int .i64 (sizeF ((pcs l).take k) : Nat) ∧ Below w.heap.size w wr) (fun _ i _ => l.length - (intOf i).toNat)
  case atStart => exact ⟨0, Nat.zero_le _, rfl, rfl, Below.refl _ _⟩
  case round =>
    obtain ⟨k, hk, rfl, rfl, hB⟩ := hrel
    by_cases hlt : k < l.length
    · have ik : (k : Int) < (l.length : Int) := by omega
      have hS := sizeF_take (pcs l) (i := k) (by rw [pcs_length]; exact hlt)
      have hS1 := sizeF_take_le (pcs l) (k + 1)
      rw [pcs_at hlt] at hS
      have hmem : l[k].c ∈ pcs l := by rw [← pcs_at hlt]; exact List.getElem_mem _
      have hkv := HF2.out _ hmem
      obtain ⟨ad, rfl, c0, c1, c2, c3, c4⟩ := (hl.below hB).at_ hlt
      have hx := (hl.below hB).ok _ (List.getElem_mem hlt)
      generalize l[k] = x at *
      obtain ⟨A1, a1, B1, b1, key, ck, val, pg, ct, rfl, _, _⟩ := CV.form hx
      have hlo := fun W => long_any ⟨.slice A1 key.length a1, .slice B1 val.length b1, ⟨key, ck, val, pg, ct⟩⟩ W
      unfold cellV at hlo
      have hA := hB.trans ((((Below.refl wr.heap.size wr).alloc (Nat.le_refl _) (.cells #[.slice A1 key.length a1, .int .i64 ck, .slice B1 val.length b1, .int .i64 pg, .int .i64 ct] 43))).mono hB.size)
      have hx' : CV.ok (wr.alloc (.cells #[.slice A1 key.length a1, .int .i64 ck, .slice B1 val.length b1, .int .i64 pg, .int .i64 ct] 43)) ⟨.slice A1 key.length a1, .slice B1 val.length b1, ⟨key, ck, val, pg, ct⟩⟩ := hx.below ((Below.refl _ _).alloc (Nat.le_refl _) _)
      have hS' : sizeF ((pcs l).take (k + 1)) = sizeF ((pcs l).take k) + (2 + longF ⟨key, ck, val, pg, ct⟩) := hS
      have HS := Lib.hid hS'
      have hkv' : key.length + val.length ≤ 4611686018427387904 := hkv
      have hS2 : sizeF ((pcs l).take k) + (2 + longF ⟨key, ck, val, pg, ct⟩) ≤ 4611686018427387904 := by omega
      generalize sizeF ((pcs l).take k) = s at *
      generalize longF ⟨key, ck, val, pg, ct⟩ = lo at *
      clear hS hS' hS1 hmem hx hB hkv
      go_wp2_with fail
      refine (hlo _ hx' (show key.length + val.length ≤ 9223372036854775000 by omega)).mono ?_
      rintro e w2 ⟨rfl, hb2⟩
      have hB2 := hA.trans (hb2.mono hA.size)
      go_wp2_with fail
      go_roundw
      case rel => exact ⟨k + 1, by omega, by go_num, by rw [HS.out]; go_num, hB2⟩
      case measure => simp [intOf]; omega
    · obtain rfl : k = l.length := by omega
      have e : (pcs l).take l.length = pcs l := List.take_of_length_le (by rw [pcs_length]; omega)
      rw [e]
      go_wp2_with fail
      go_ret
      exact ⟨rfl, hB⟩
set_option maxRecDepth 20000 in
set_option maxHeartbeats 1000000 in
theorem number_any (v : Value) (b : List UInt8) (at_ wd : Nat) (h1 : 1 ≤ wd) (h4 : wd ≤ 4) (ha : at_ + wd ≤ b.length) (w : World) (hv : RdB w v b) :
    Calls Tryz.prog 132 #[v, .int .i64 (at_ : Int), .int .i64 (wd : Int)] w fun e w' => e = .returned (.int .i64 (numAt b at_ wd : Nat)) ∧ w = w' := by
  have hn : numF ((b.drop at_).take wd) < 4294967296 := by
    refine Nat.lt_of_lt_of_le (numF_lt _) ?_
    calc 256 ^ ((b.drop at_).take wd).length ≤ 256 ^ 4 := Nat.pow_le_pow_right (by omega) (by simp; omega)
      _ = 4294967296 := by decide
  have hr := ReadFixed_any v b at_ wd h1 (by omega) ha w hv
  unfold numAt
  obtain ⟨A, c, rfl, hm⟩ := hv.form
  generalize numF ((b.drop at_).take wd) = q at *
  go_enter Tryz.func132, Tryz.ntmps132
  go_wp2_with fail
  refine hr.mono ?_
  rintro e w1 ⟨rfl, rfl⟩
  go_wp2_with fail
  go_ret
  exact ⟨by go_num, rfl⟩
theorem RdB.recap {w : World} {A : Option Addr} {n c c' : Nat} {l : List UInt8} (h : RdB w (.slice A n c) l) (h1 : n ≤ c') (h2 : c' ≤ maxLen) : RdB w (.slice A n c') l := by
  obtain ⟨A', c'', hv, k1, k2, k3⟩ := h
  injection hv with hA hn hc
  subst hA hn hc
  exact ⟨A, c', rfl, h1, h2, k3⟩
/-- x[lo:lo+n:lo+n] -/
theorem RdB.run_lhm {w : World} {A : Option Addr} {m c : Nat} {l : List UInt8} (h : RdB w (.slice A m c) l) (lo n : Nat) (h1 : lo + n ≤ l.length) :
    ∃ A', (∀ w', (Instr.slice 41 (.slice A m c) (some (.int .i64 (lo : Int))) (some (.int .i64 ((lo : Int) + (n : Int)))) (some (.int .i64 ((lo : Int) + (n : Int))))).run Tryz.prog w' = .ok (.slice A' n n) w') ∧ RdB w (.slice A' n n) ((l.drop lo).take n) := by
  obtain ⟨_, hc, hm⟩ := h.cap
  have e : ((lo : Int) + (n : Int)).toNat = lo + n := by omega
  refine ⟨if n = 0 then A else A.map (·.add lo), fun w' => ?_, ?_⟩
  · have := run_slice_lhm (P := Tryz.prog) w' 41 A m c u8_elem .i64 .i64 .i64 lo ((lo : Int) + n) ((lo : Int) + n) (by omega) (by omega) (by omega) (by omega)
    rw [this, u8_sizeOf]
    simp [Result.andThen, sliced, e]
  · by_cases h0 : n = 0
    · subst h0
      exact ⟨A, 0, by simp, by simp, by simp [maxLen], fun j hj => by simp at hj⟩
    · have hr := h.cut (lo := lo) (hi := lo + n) (by omega) h1
      rw [show lo + n - lo = n by omega, ← List.take_drop, if_neg (show ¬ c = lo by omega)] at hr
      rw [if_neg h0]
      exact hr.recap (Nat.le_refl _) (by simp only [maxLen]; omega)
set_option maxRecDepth 20000 in
set_option maxHeartbeats 1000000 in
theorem part_any (v : Value) (b : List UInt8) (at_ n : Nat) (ha : at_ + n ≤ b.length) (hb : b.length ≤ 140737488355328) (w : World) (hv : RdB w v b) :
    Calls Tryz.prog 166 #[v, .int .i64 (at_ : Int), .int .i64 (n : Int)] w fun e w' => ∃ g, e = .returned (.slice (some ⟨g, 0, none⟩) n n) ∧ g = w.heap.size ∧ OwB w' w.heap.size (.slice (some ⟨g, 0, none⟩) n n) ((b.drop at_).take n) ∧ Below w.heap.size w w' := by
  obtain ⟨A, c, rfl, hm⟩ := hv.form
  obtain ⟨A', hq, hr⟩ := hv.run_lhm at_ n ha
  have hl : ((b.drop at_).take n).length = n := by simp; omega
  have hw : IntKind.i64.wrap ((at_ : Int) + (n : Int)) = (at_ : Int) + (n : Int) := by rw [IntKind.wrap_i64]; omega
  go_enter Tryz.func166, Tryz.ntmps166
  go_wp2_with (first | (at_make; refine wp_make_B rfl (.tmp 19) (.tmp 19) rfl _ n rfl rfl rfl (by omega) ?_; intro w1 hb1 hw1 hs1) | ((with_reducible refine at_copy ?_); refine wp_copy_B rfl (.tmp 21) (.tmp 22) rfl _ n n w.heap.size 0 rfl _ hb1 (fun _ => rfl) (by simp) _ _ rfl (hr.below hw1 (Nat.le_refl _)) ?_; intro w2 hb2 hg2) | fail)
  go_ret
  have e : splice (List.replicate n (0 : UInt8)) 0 (((b.drop at_).take n).take (min ((b.drop at_).take n).length n)) = (b.drop at_).take n := by
    rw [hl, Nat.min_self, List.take_of_length_le (by omega)]
    unfold splice
    rw [hl]
    simp
  rw [e] at hb2
  have := hb2.owB' (base := w.heap.size) (Nat.le_refl _) (by rw [hl]; simp only [maxLen]; omega)
  rw [hl] at this
  exact ⟨_, rfl, rfl, this, hw1.grown hg2 hw1.size (fun k hk => Nat.le_of_eq (Option.some.inj hk))⟩
end Go.Proofs.YtfcnkpofcekmgaaGreat

-- node.isPage, MostKey, MostValue: walks.
namespace Go.Proofs.YtfcnkpofcekmgaaGreat
open Go.RowKit
set_option maxRecDepth 20000 in
set_option maxHeartbeats 1000000 in
theorem NdIsPage_any (p : Int) (hp : -9223372036854775808 ≤ p ∧ p ≤ 9223372036854775807) (w : World) : Calls Tryz.prog 62 #[.int .i64 p] w fun e w' => e = .returned (.bool (isPowB p)) ∧ w = w' := by
  by_cases h1 : p < 512
  · have HV := Lib.hid (isPowB_out (.inl h1))
    go_enter Tryz.func62, Tryz.ntmps62
    go_wp2_with fail
    go_ret
    rw [HV.out]
    exact ⟨rfl, rfl⟩
  by_cases h2 : 65536 < p
  · have HV := Lib.hid (isPowB_out (.inr h2))
    go_enter Tryz.func62, Tryz.ntmps62
    go_wp2_with fail
    go_ret
    rw [HV.out]
    exact ⟨rfl, rfl⟩
  have hq := pow_eq p (by omega) (by omega)
  go_enter Tryz.func62, Tryz.ntmps62
  go_wp2_with fail
  go_ret
  exact ⟨rfl, rfl⟩
set_option maxRecDepth 20000 in
set_option maxHeartbeats 1000000 in
theorem NdMostKey_ok (P : Nat) (hp : isPowB (P : Int) = true) (w : World) : Calls Tryz.prog 33 #[.int .i64 (P : Int)] w fun e w' => e = .returned (.int .i64 ((P / 8 : Nat) : Int)) ∧ w = w' := by
  have hr := isPowB_range hp
  have hi := NdIsPage_any (P : Int) (by omega) w
  rw [hp] at hi
  have e1 : IntKind.i64.wrap ((P : Int) / 8) = (P : Int) / 8 := by rw [IntKind.wrap_i64]; omega
  have e2 : IntKind.i64.wrap ((P : Int) / 16) = (P : Int) / 16 := by rw [IntKind.wrap_i64]; omega
  have e3 : IntKind.i64.wrap ((P : Int) / 16 * 3) = (P : Int) / 16 * 3 := by rw [IntKind.wrap_i64]; omega
  clear hp
  go_enter Tryz.func33, Tryz.ntmps33
  go_wp2_with (first
    | (go_at_call 62; (with_reducible refine hi.mono ?_); rintro e w1 ⟨rfl, rfl⟩)
    | fail)
  go_ret
  exact ⟨rfl, rfl⟩
set_option maxRecDepth 20000 in
set_option maxHeartbeats 1000000 in
theorem NdMostKey_no (p : Int) (hr : -9223372036854775808 ≤ p ∧ p ≤ 9223372036854775807) (hp : isPowB p = false) (w : World) : Calls Tryz.prog 33 #[.int .i64 p] w fun e w' => e = .returned (.int .i64 0) ∧ w = w' := by
  have hi := NdIsPage_any p hr w
  rw [hp] at hi
  clear hp
  go_enter Tryz.func33, Tryz.ntmps33
  go_wp2_with (first
    | (go_at_call 62; (with_reducible refine hi.mono ?_); rintro e w1 ⟨rfl, rfl⟩)
    | fail)
  go_ret
  exact ⟨rfl, rfl⟩
set_option maxRecDepth 20000 in
set_option maxHeartbeats 1000000 in
theorem NdMostValue_ok (P : Nat) (hp : isPowB (P : Int) = true) (w : World) : Calls Tryz.prog 35 #[.int .i64 (P : Int)] w fun e w' => e = .returned (.int .i64 ((P / 16 * 3 : Nat) : Int)) ∧ w = w' := by
  have hr := isPowB_range hp
  have hi := NdIsPage_any (P : Int) (by omega) w
  rw [hp] at hi
  have e1 : IntKind.i64.wrap ((P : Int) / 8) = (P : Int) / 8 := by rw [IntKind.wrap_i64]; omega
  have e2 : IntKind.i64.wrap ((P : Int) / 16) = (P : Int) / 16 := by rw [IntKind.wrap_i64]; omega
  have e3 : IntKind.i64.wrap ((P : Int) / 16 * 3) = (P : Int) / 16 * 3 := by rw [IntKind.wrap_i64]; omega
  clear hp
  go_enter Tryz.func35, Tryz.ntmps35
  go_wp2_with (first
    | (go_at_call 62; (with_reducible refine hi.mono ?_); rintro e w1 ⟨rfl, rfl⟩)
    | fail)
  go_ret
  exact ⟨rfl, rfl⟩
set_option maxRecDepth 20000 in
set_option maxHeartbeats 1000000 in
theorem NdMostValue_no (p : Int) (hr : -9223372036854775808 ≤ p ∧ p ≤ 9223372036854775807) (hp : isPowB p = false) (w : World) : Calls Tryz.prog 35 #[.int .i64 p] w fun e w' => e = .returned (.int .i64 0) ∧ w = w' := by
  have hi := NdIsPage_any p hr w
  rw [hp] at hi
  clear hp
  go_enter Tryz.func35, Tryz.ntmps35
  go_wp2_with (first
    | (go_at_call 62; (with_reducible refine hi.mono ?_); rintro e w1 ⟨rfl, rfl⟩)
    | fail)
  go_ret
  exact ⟨rfl, rfl⟩
end Go.Proofs.YtfcnkpofcekmgaaGreat

-- ink.half: the walk.
namespace Go.Proofs.YtfcnkpofcekmgaaGreat
open Go.RowKit


/-! ### half, Sum -/
theorem halfTab_at (k : Nat) (h : k < 16) : [Value.int IntKind.u32 0, Value.int IntKind.u32 274646895, Value.int IntKind.u32 549293790,
              Value.int IntKind.u32 820201905, Value.int IntKind.u32 1098587580, Value.int IntKind.u32 1361435347,
              Value.int IntKind.u32 1640403810, Value.int IntKind.u32 1905808397, Value.int IntKind.u32 2197175160,
              Value.int IntKind.u32 2460548119, Value.int IntKind.u32 2722870694, Value.int IntKind.u32 2987750089,
              Value.int IntKind.u32 3280807620, Value.int IntKind.u32 3553878443, Value.int IntKind.u32 3811616794,
              Value.int IntKind.u32 4084100981][k]? = some (.int .u32 (halfTab.getD k 0 : Nat)) := by
  match k, h with
  | 0, _ | 1, _ | 2, _ | 3, _ | 4, _ | 5, _ | 6, _ | 7, _ | 8, _ | 9, _ | 10, _ | 11, _ | 12, _ | 13, _ | 14, _ | 15, _ => rfl
  | k + 16, h => omega
set_option maxHeartbeats 400000 in
theorem half_any (r : Nat) (h : r < 4294967296) (w : World) :
    Calls Tryz.prog 172 #[.int .u32 r] w fun e w' => e = .returned (.int .u32 (halfF r : Nat)) ∧ Below w.heap.size w w' := by
  have hb : bits .and .u32 (r : Int) 15 = ((r % 16 : Nat) : Int) := by rw [← nat_mask4]; exact u32_and_nat r 15 h (by omega)
  have h1 : (0 : Int) ≤ ((r % 16 : Nat) : Int) := by omega
  have h2 : ((r % 16 : Nat) : Int) < 16 := by omega
  have ht := halfTab_at (r % 16) (by omega)
  rw [show halfTab.getD (r % 16) 0 = halfF r from rfl] at ht
  go_enter Tryz.func172, Tryz.ntmps172
  go_wp2
  go_ret
  exact ⟨rfl, (Below.refl _ _).alloc (Nat.le_refl _) _⟩
end Go.Proofs.YtfcnkpofcekmgaaGreat

-- ink.Sum: the walk.
namespace Go.Proofs.YtfcnkpofcekmgaaGreat
open Go.RowKit
def halfC (r : Nat) : Nat := halfF r ^^^ r / 16
theorem halfC_lt (r : Nat) (h : r < 4294967296) : halfC r < 4294967296 := Nat.xor_lt_two_pow (n := 32) (halfF_lt r) (by omega)
theorem crcByte_half (r : Nat) (x : UInt8) : crcByte r x = halfC (halfC (r ^^^ x.toNat)) := crcByte_eq r x
theorem xor_half (r : Nat) (h : r < 4294967296) : bits .xor .u32 (halfF r : Nat) ((r : Int) / 16) = (halfC r : Nat) := by
  exact u32_xor_nat (halfF r) (r / 16) (halfF_lt r) (by omega)
theorem not_u32 (r : Nat) (h : r < 4294967296) : bits .xor .u32 IntKind.u32.max (r : Int) = ((r ^^^ 4294967295 : Nat) : Int) := by
  rw [Nat.xor_comm]; exact u32_xor_nat 4294967295 r (by omega) h
set_option maxHeartbeats 400000 in
theorem Sum_any (v : Value) (ls : List (List UInt8)) (w : World) (hv : RdL w v ls) :
    Calls Tryz.prog 143 #[v] w fun e w' => e = .returned (.int .u32 (sumF ls.flatten : Nat)) ∧ Below w.heap.size w w' := by
  obtain ⟨A, c, rfl, hm⟩ := hv.form
  go_enter Tryz.func143, Tryz.ntmps143
  go_wp2
  go_loopw [3, 10] (fun r i wr => ∃ (k : Nat), i = .int .i64 (k : Int) ∧ k ≤ ls.length ∧ r = .int .u32 (crcF 4294967295 (ls.take k).flatten : Nat) ∧ Below w.heap.size w wr)
    (fun _ i _ => ls.length - (intOf i).toNat)
  case atStart => exact ⟨0, rfl, Nat.zero_le _, rfl, Below.refl _ _⟩
  case round =>
    obtain ⟨k, rfl, hk, rfl, hw⟩ := hrel
    by_cases hlt : k < ls.length
    · obtain ⟨ad, A2, c2, rfl, hcell, hru0⟩ := (hv.below hw (Nat.le_refl _)).at_ hlt
      have hm2 := hru0.le
      have hfl := flat_snoc ls k hlt
      have HF := Lib.hid hfl
      generalize ls[k] = l at *
      clear hfl
      go_wp2
      obtain ⟨wo, rfl⟩ : ∃ wo : World, wo = wr := ⟨_, rfl⟩
      go_loopw [3, 16] (fun r i wi => ∃ (j : Nat), i = .int .i64 (j : Int) ∧ j ≤ l.length ∧ r = .int .u32 (crcF (crcF 4294967295 (ls.take k).flatten) (l.take j) : Nat) ∧ Below wo.heap.size wo wi)
        (fun _ i _ => l.length - (intOf i).toNat)
      case atStart => exact ⟨0, rfl, Nat.zero_le _, rfl, Below.refl _ _⟩
      case round =>
        obtain ⟨j, rfl, hj, rfl, hwi⟩ := hrel
        have hr0 : crcF (crcF 4294967295 (ls.take k).flatten) (l.take j) < 4294967296 := crcF_lt _ _ (crcF_lt _ _ (by omega))
        by_cases hjl : j < l.length
        · obtain ⟨ad2, hA2, hcell2⟩ := (hru0.below hwi (Nat.le_refl _)).at_ hjl
          subst hA2
          have hsn : crcF (crcF 4294967295 (ls.take k).flatten) (l.take (j + 1)) = halfC (halfC (crcF (crcF 4294967295 (ls.take k).flatten) (l.take j) ^^^ l[j].toNat)) := by
            rw [List.take_succ_eq_append_getElem hjl, crcF_snoc, crcByte_half]
          have HS := Lib.hid hsn
          clear hsn
          have hx := u32_xor_nat _ l[j].toNat hr0 (by have := l[j].toNat_lt; omega)
          have hx1 : crcF (crcF 4294967295 (ls.take k).flatten) (l.take j) ^^^ l[j].toNat < 4294967296 := Nat.xor_lt_two_pow (n := 32) hr0 (by have := l[j].toNat_lt; omega)
          have hxb : l[j].toNat < 256 := l[j].toNat_lt
          generalize crcF (crcF 4294967295 (ls.take k).flatten) (l.take j) = r at *
          generalize l[j].toNat = x at *
          generalize r ^^^ x = y at *
          have hy1 := xor_half y hx1
          have hy2 := xor_half (halfC y) (halfC_lt y hx1)
          go_wp2_with fail
          refine (half_any y hx1 _).mono ?_
          rintro e w1 ⟨rfl, hb1⟩
          go_wp2_with fail
          refine (half_any (halfC y) (halfC_lt y hx1) _).mono ?_
          rintro e w2 ⟨rfl, hb2⟩
          go_wp2
          go_roundw
          case rel => exact ⟨j + 1, by go_num, by omega, by rw [HS.out], hwi.trans (((hb1.mono hwi.size)).trans (hb2.mono (Nat.le_trans hwi.size hb1.size)))⟩
          case measure => simp [intOf]; omega
        · obtain rfl : j = l.length := by omega
          rw [List.take_length] at *
          have hz : crcF (crcF 4294967295 (ls.take k).flatten) l = crcF 4294967295 (ls.take (k + 1)).flatten := by rw [HF.out, crcF_append]
          rw [hz]
          clear hz
          go_wp2
          go_roundw
          case rel => exact ⟨k + 1, by go_num, by omega, rfl, hw.trans (hwi.mono hw.size)⟩
          case measure => simp [intOf]; omega
    · obtain rfl : k = ls.length := by omega
      rw [List.take_length]
      have hr0 : crcF 4294967295 ls.flatten < 4294967296 := crcF_lt _ _ (by omega)
      have hn := not_u32 _ hr0
      rw [show crcF 4294967295 ls.flatten ^^^ 4294967295 = sumF ls.flatten from rfl] at hn
      go_wp2
      go_ret
      exact ⟨rfl, hw⟩
end Go.Proofs.YtfcnkpofcekmgaaGreat

-- Helpers for the writing of pages: plain laws of splice, and short forms of ink's contracts.
namespace Go.Proofs.YtfcnkpofcekmgaaGreat
open Go.RowKit
theorem splice_splice (L a b : List UInt8) (o : Nat) (h : o + a.length + b.length ≤ L.length) : splice (splice L o a) (o + a.length) b = splice L o (a ++ b) := by
  have h1 : (L.take o ++ a).length = o + a.length := by simp; omega
  have e0 : splice L o a = (L.take o ++ a) ++ L.drop (o + a.length) := by unfold splice; rw [List.append_assoc]
  have e1 : (splice L o a).take (o + a.length) = L.take o ++ a := by rw [e0, List.take_left' h1]
  have e2 : (splice L o a).drop (o + a.length + b.length) = L.drop (o + a.length + b.length) := by
    rw [e0, List.drop_append, h1, List.drop_of_length_le (by omega), List.nil_append, List.drop_drop]
    congr 1; omega
  show (splice L o a).take (o + a.length) ++ (b ++ (splice L o a).drop (o + a.length + b.length)) = _
  rw [e1, e2]
  unfold splice
  rw [List.length_append, Nat.add_assoc]
  simp only [List.append_assoc]
theorem splice_length {L a : List UInt8} {o : Nat} (h : o + a.length ≤ L.length) : (splice L o a).length = L.length := by
  unfold splice; simp; omega
theorem splice_next (L a b : List UInt8) (o d n : Nat) (hd : d = o + a.length) (hn : b.length ≤ n) (h : o + a.length + b.length ≤ L.length) : splice (splice L o a) d (b.take (min b.length n)) = splice L o (a ++ b) := by
  rw [Nat.min_eq_left hn, List.take_length, hd, splice_splice L a b o h]
theorem Fixed_2 (n : Nat) (hn : n < 18446744073709551616) (w : World) : Calls Tryz.prog 141 #[.int .u64 n, .int .i64 2] w fun e w' => e = .returned (.slice (some ⟨w.heap.size, 0, none⟩) 2 2) ∧ OBlk w' w.heap.size 5 (bvs (fixedF n 2)) ∧ Below w.heap.size w w' ∧ w'.heap.size = w.heap.size + 1 := Fixed_any n hn 2 (by omega) (by omega) w
theorem splice_mid (pre mid post new : List UInt8) (o : Nat) (ho : pre.length = o) (h : mid.length = new.length) : splice (pre ++ (mid ++ post)) o new = pre ++ (new ++ post) := by
  unfold splice
  rw [List.take_left' ho, List.drop_append, ho, List.drop_of_length_le (by omega), List.nil_append, show o + new.length - o = new.length by omega, ← h, List.drop_left' rfl]
theorem RdB.slice0 {w : World} {g n c : Nat} {L : List UInt8} (h : OBlk w g 5 (bvs L)) (hn : n ≤ L.length) (hc : L.length = c) (hm : c ≤ 140737488355328) : RdB w (.slice (some ⟨g, 0, none⟩) n c) (L.take n) := by
  have := (h.owB (base := 0) (Nat.zero_le _) (by simp only [maxLen]; omega) (n := n) hn).rd
  rw [hc] at this
  exact this
theorem okc_fit {P : Nat} {c : PC} (h : OkC P c) (hP : P ≤ 65536) : c.key.length + c.val.length ≤ 131072 := by
  have h1 := h.k0
  have h2 := h.v0
  have h3 := h.v1
  by_cases h : c.kind = 1
  · have := (h2 h).1; omega
  · rw [(h3 h).1]; simp; omega
theorem prevK_succ (l : List PC) {i : Nat} (hi : i < l.length) : prevK l (i + 1) = some l[i].key := by
  unfold prevK
  rw [if_neg (by omega)]
  simp [List.getD, hi]
end Go.Proofs.YtfcnkpofcekmgaaGreat

-- plain.lay: the walk.
namespace Go.Proofs.YtfcnkpofcekmgaaGreat
open Go.RowKit
/-- Between the steps of lay. -/
structure LaySt (w0 w : World) (g : Nat) (cs : List Value) (L : List UInt8) (wx : World) : Prop where
  c : OBlk wx w.heap.size 43 cs
  b : OBlk wx g 5 (bvs L)
  lo : Below w0.heap.size w0 wx
  t : Turn (fun k => k = g) w wx
theorem LaySt.step {w0 w : World} {g : Nat} {cs : List Value} {L M : List UInt8} {wx wa wb : World} (h : LaySt w0 w g cs L wx) (hg : w0.heap.size ≤ g) (hgw : g < w.heap.size) (h1 : Below wx.heap.size wx wa) (h2 : wa.grownBy wb (some g)) (hb : OBlk wb g 5 (bvs M)) : LaySt w0 w g cs M wb where
  c := (h.c.below h1 h.c.lt).grown h2 (by simp only [ne_eq, Option.some.injEq]; omega)
  b := hb
  lo := (h.lo.trans (h1.mono h.lo.size)).grown h2 (Nat.le_trans h.lo.size h1.size) (fun k hk => by injection hk with hk; omega)
  t := (h.t.trans (Turn.of_below (F := fun k => k = g) h1) (fun b e => .inl e)).grown h2 (fun b e => by injection e with e; exact .inl e.symm)
set_option maxRecDepth 100000 in
set_option maxHeartbeats 4000000 in
theorem lay_any (x : CV) (P : Nat) (hP : P ≤ 65536) (hc : OkC P x.c) (w0 w : World) (hx : x.ok w0) (hB : Below w0.heap.size w0 w) (g o m cap : Nat) (L : List UInt8) (hg : w0.heap.size ≤ g) (hL : OBlk w g 5 (bvs L)) (hm : o + m ≤ L.length) (_hcap : m ≤ cap) (hcp : cap ≤ 140737488355328) (hfit : longF x.c ≤ m) (hcx : longF x.c < cap) :
    Calls Tryz.prog 165 #[.slice (some ⟨g, o, none⟩) m cap, cellV x] w fun e w' => (∃ v, e = .returned v) ∧ OBlk w' g 5 (bvs (splice L o (cellF x.c))) ∧ Below w0.heap.size w0 w' ∧ Turn (fun k => k = g) w w' := by
  have hxw := hx.below hB
  obtain ⟨A, ca, B, cb, key, ck, val, pg, ct, rfl, hk1, hk2⟩ := CV.form hx
  have hlen := cellF_length ⟨key, ck, val, pg, ct⟩
  have hA : Below w.heap.size w (w.alloc (.cells #[.slice A key.length ca, .int .i64 ck, .slice B val.length cb, .int .i64 pg, .int .i64 ct] 43)) := (Below.refl _ _).alloc (Nat.le_refl _) _
  have hb := OBlk.new' w 43 [.slice A key.length ca, .int .i64 ck, .slice B val.length cb, .int .i64 pg, .int .i64 ct]
  obtain ⟨c0, c1, c2, c3, c4⟩ := cells5 hb
  have hL1 := hL.alloc (.cells #[.slice A key.length ca, .int .i64 ck, .slice B val.length cb, .int .i64 pg, .int .i64 ct] 43)
  have hgl := hL.lt
  have hl5 := longF_pos ⟨key, ck, val, pg, ct⟩
  have hfit' : longF ⟨key, ck, val, pg, ct⟩ ≤ m := hfit
  have hcx' : longF ⟨key, ck, val, pg, ct⟩ < cap := hcx
  clear hfit hcx
  have i1 : (0 : Int) < (m : Int) := by omega
  have f0 := hL1.frozen (j := o) (by rw [bvs_length]; omega)
  obtain ⟨y, hy⟩ : ∃ y, L[o]? = some y := ⟨_, List.getElem?_eq_getElem (by omega)⟩
  have z0 := hL1.cell' (j := o) (u := .int .u8 (y.toNat : Int)) (by simp [bvs, hy]; rfl)
  unfold cellV
  have hkd := hc.kd
  simp only at hkd
  have hck : Value.int .u8 ck = bv (UInt8.ofNat ck.toNat) := by show _ = Value.int .u8 ((UInt8.ofNat ck.toNat).toNat : Int); rw [UInt8.toNat_ofNat']; congr 1; omega
  have hkl : key.length ≤ 8192 := by have := hc.k0; simp only at this; omega
  have hlo : longF ⟨key, ck, val, pg, ct⟩ = if ck = 1 then 5 + key.length + val.length else 11 + key.length := rfl
  have hlo2 : 5 + key.length ≤ longF ⟨key, ck, val, pg, ct⟩ := by rw [hlo]; split <;> omega
  have HK := Lib.hid hck
  clear hck hlo
  go_enter Tryz.func165, Tryz.ntmps165
  go_upto_region 1 with (fail)
  go_cut [] (fun wx => LaySt w0 w g [.slice A key.length ca, .int .i64 ck, .slice B val.length cb, .int .i64 pg, .int .i64 ct] (splice L o [UInt8.ofNat ck.toNat]) wx)
  case first =>
    go_wp2_with fail
    go_meet
    rw [HK.out]
    have h2 := (hL.set o (bv (UInt8.ofNat ck.toNat))).alloc (.cells #[.slice A key.length ca, .int .i64 ck, .slice B val.length cb, .int .i64 pg, .int .i64 ct] 43)
    rw [show bv (UInt8.ofNat ck.toNat) = Value.int .u8 ((UInt8.ofNat ck.toNat).toNat : Int) from rfl, ← bvs_set] at h2
    have e : L.set o (UInt8.ofNat ck.toNat) = splice L o [UInt8.ofNat ck.toNat] := by
      rw [List.set_eq_take_append_cons_drop, if_pos (by omega)]
      unfold splice; simp
    rw [e] at h2
    have h3 := OBlk.new' (w.setCell ⟨g, o, none⟩ (bv (UInt8.ofNat ck.toNat))) 43 [.slice A key.length ca, .int .i64 ck, .slice B val.length cb, .int .i64 pg, .int .i64 ct]
    simp only [World.size_setCell] at h3
    exact ⟨h3, h2, (hB.setCell hg _).alloc (by simp only [World.size_setCell]; exact hB.size) _, ((Turn.refl (fun k => k = g) w).setCell ⟨g, o, none⟩ _ (.inl rfl)).alloc _⟩
  case rest =>
    clear z0 f0 c0 c1 c2 c3 c4 hb hL1 hL hy HK
    have hs1 : (splice L o [UInt8.ofNat ck.toNat]).length = L.length := splice_length (by simp; omega)
    have n1 : ¬ cap = 1 := by omega
    have n2 : (1 : Int) ≤ (m : Int) := by omega
    have hwn : IntKind.u64.wrap (key.length : Int) = (key.length : Int) := IntWalk.u64_in _ (by omega)
    go_upto_region 2 with (fail)
    go_cut [] (fun wx => LaySt w0 w g [.slice A key.length ca, .int .i64 ck, .slice B val.length cb, .int .i64 pg, .int .i64 ct] (splice L o (UInt8.ofNat ck.toNat :: fixedF key.length 2)) wx)
    case first =>
      obtain ⟨c0, c1, c2, c3, c4⟩ := cells5 hcut.c
      have hz := hcut.c.lt
      go_region_held3 (fun w' => w'.cell? ⟨w.heap.size, 0, none⟩ = some (.slice A key.length ca))
        (first
          | exact c0
          | exact (hw7.cell (by simpa using hz)).trans c0
          | exact hg8.cell ((hw7.cell (by simpa using hz)).trans c0) (by simp; omega))
        (first
          | (go_at_call 141; (with_reducible refine (Fixed_2 key.length (by omega) _).mono ?_); rintro e w7 ⟨rfl, hf7, hw7, hs7⟩)
          | (refine step_copy_B (by rfl) (.tmp 10) (.tmp 15) (by rfl) _ (m - 1) (cap - 1) g (o + 1) (by rfl) _ ((hcut.b.drew).below hw7 (by have := hcut.b.lt; simpa using this)) (fun _ => rfl) (by rw [hs1]; omega) _ (fixedF key.length 2) (by rfl) (hf7.rdB (fixedF_length _ 2) (by omega)) ?_; intro w8 hb8 hg8)
          | fail)
      go_wp2_with fail
      go_meet
      rw [splice_next L [UInt8.ofNat ck.toNat] (fixedF key.length 2) o (o + 1) (m - 1) rfl (by rw [fixedF_length]; omega) (by rw [fixedF_length]; simp; omega)] at hb8
      exact hcut.step hg hgl ((Below.refl _ _).drew.trans hw7) hg8 hb8
    case rest =>
      have hs3 : (splice L o (UInt8.ofNat ck.toNat :: fixedF key.length 2)).length = L.length := splice_length (by simp [fixedF_length]; omega)
      have n3 : ¬ cap = 3 := by omega
      have n4 : (3 : Int) ≤ (m : Int) := by omega
      have n5 : ¬ cap = 3 + key.length := by omega
      have n6 : ((3 : Int) + (key.length : Int)) ≤ (m : Int) := by omega
      have n7 : min key.length (m - 3) = key.length := by omega
      have n8 : IntKind.i64.wrap ((3 : Int) + (key.length : Int)) = (3 : Int) + (key.length : Int) := by rw [IntKind.wrap_i64]; omega
      have n9 : (0 : Int) ≤ (3 : Int) + (key.length : Int) := by omega
      have n10 : ((3 : Int) + (key.length : Int)).toNat = 3 + key.length := by omega
      have n11 : ¬ cap = ((3 : Int) + (key.length : Int)).toNat := by omega
      go_upto_region 3 with (fail)
      go_cut [0] (fun s wx => s = .slice (some ⟨g, o + (3 + key.length), none⟩) (m - (3 + key.length)) (cap - (3 + key.length)) ∧ LaySt w0 w g [.slice A key.length ca, .int .i64 ck, .slice B val.length cb, .int .i64 pg, .int .i64 ct] (splice L o (UInt8.ofNat ck.toNat :: (fixedF key.length 2 ++ key))) wx)
      case first =>
        obtain ⟨c0, c1, c2, c3, c4⟩ := cells5 hcut.c
        have hz := hcut.c.lt
        have hrd := (hx.k.below hcut.lo (Nat.le_refl _)).drew
        go_region_held3 (fun w' => w'.cell? ⟨w.heap.size, 0, none⟩ = some (.slice A key.length ca))
          (first
            | exact c0
            | exact hg8.cell c0 (by simp; omega))
          (first
            | (refine step_copy_B (by rfl) (.tmp 19) (.tmp 21) (by rfl) _ (m - 3) (cap - 3) g (o + 3) (by rfl) _ (hcut.b.drew) (fun _ => rfl) (by rw [hs3]; omega) _ key (by rfl) hrd ?_; intro w8 hb8 hg8)
            | fail)
        go_wp2_with fail
        go_meet
        rw [splice_next L (UInt8.ofNat ck.toNat :: fixedF key.length 2) key o (o + 3) (m - 3) (by simp [fixedF_length]) (by omega) (by simp [fixedF_length]; omega)] at hb8
        exact ⟨rfl, hcut.step hg hgl (Below.refl _ _).drew hg8 hb8⟩
      case rest =>
        obtain ⟨rfl, hst⟩ := hcut
        have hs4 : (splice L o (UInt8.ofNat ck.toNat :: (fixedF key.length 2 ++ key))).length = L.length := splice_length (by simp [fixedF_length]; omega)
        obtain ⟨c0, c1, c2, c3, c4⟩ := cells5 hst.c
        have hz := hst.c.lt
        have hlen4 : (UInt8.ofNat ck.toNat :: (fixedF key.length 2 ++ key)).length = 3 + key.length := by simp [fixedF_length]; omega
        clear n1 n2 n3 n4 n5 n6 n7 n8 n9 n10 n11 hs1 hs3
        by_cases h1 : ck = 1
        · subst h1
          have hlo : longF ⟨key, 1, val, pg, ct⟩ = 5 + key.length + val.length := rfl
          have hvl : val.length ≤ 65536 := by have := (hc.v0 rfl).1; simp only at this; omega
          have hwv : IntKind.u64.wrap (val.length : Int) = (val.length : Int) := IntWalk.u64_in _ (by omega)
          have n1 : ¬ cap - (3 + key.length) = 2 := by omega
          have n2 : (2 : Int) ≤ ((m - (3 + key.length) : Nat) : Int) := by omega
          go_upto_region 6 with (first
            | (go_at_call 141; (with_reducible refine (Fixed_2 val.length (by omega) _).mono ?_); rintro e w7 ⟨rfl, hf7, hw7, hs7⟩)
            | ((with_reducible refine at_copy ?_); refine wp_copy_B rfl (.tmp 28) (.tmp 33) rfl _ (m - (3 + key.length)) (cap - (3 + key.length)) g (o + (3 + key.length)) rfl _ (hst.b.below hw7 hst.b.lt) (fun _ => rfl) (by rw [hs4]; omega) _ (fixedF val.length 2) rfl (hf7.rdB (fixedF_length _ 2) (by omega)) ?_; intro w8 hb8 hg8)
            | fail)
          rw [splice_next L (UInt8.ofNat (1 : Int).toNat :: (fixedF key.length 2 ++ key)) (fixedF val.length 2) o (o + (3 + key.length)) _ (by rw [hlen4]) (by rw [fixedF_length]; omega) (by rw [fixedF_length, hlen4]; omega)] at hb8
          have hst8 := hst.step hg hgl hw7 hg8 hb8
          clear c0 c1 c2 c3 c4 hb8
          obtain ⟨c0, c1, c2, c3, c4⟩ := cells5 hst8.c
          have hlen5 : ((UInt8.ofNat (1 : Int).toNat :: (fixedF key.length 2 ++ key)) ++ fixedF val.length 2).length = 3 + key.length + 2 := by rw [List.length_append, hlen4, fixedF_length]
          have hs5 : (splice L o ((UInt8.ofNat (1 : Int).toNat :: (fixedF key.length 2 ++ key)) ++ fixedF val.length 2)).length = L.length := splice_length (by rw [hlen5]; omega)
          have hrd := (hx.v.below hst8.lo (Nat.le_refl _)).drew
          clear hst hg8 hw7 hf7 hs7
          go_region_held3 (fun w' => w'.cell? ⟨w.heap.size, 2, none⟩ = some (.slice B val.length cb))
            (first
              | exact c2
              | exact hg9.cell c2 (by simp; omega))
            (first
              | (refine step_copy_B (by rfl) (.tmp 36) (.tmp 38) (by rfl) _ (m - (3 + key.length) - 2) (cap - (3 + key.length) - 2) g (o + (3 + key.length) + 2) (by rfl) _ (hst8.b.drew) (fun _ => rfl) (by rw [hs5]; omega) _ val (by rfl) hrd ?_; intro w9 hb9 hg9)
              | fail)
          go_wp2_with fail
          refine bodyPost_ret (results_none rfl _ _ _) rfl ?_
          rw [splice_next L ((UInt8.ofNat (1 : Int).toNat :: (fixedF key.length 2 ++ key)) ++ fixedF val.length 2) val o (o + (3 + key.length) + 2) _ (by rw [hlen5]; omega) (by omega) (by rw [hlen5]; omega)] at hb9
          have hst9 := hst8.step hg hgl (Below.refl _ _).drew hg9 hb9
          have e : (UInt8.ofNat (1 : Int).toNat :: (fixedF key.length 2 ++ key)) ++ fixedF val.length 2 ++ val = cellF ⟨key, 1, val, pg, ct⟩ := by simp [cellF, tailF]
          rw [e] at hst9
          exact ⟨⟨_, rfl⟩, hst9.b, hst9.lo, hst9.t⟩
        · have hb1 : (ck == 1) = false := beq_eq_false_iff_ne.2 h1
          have hlo : longF ⟨key, ck, val, pg, ct⟩ = 11 + key.length := if_neg h1
          have hv1 := hc.v1 h1
          simp only at hv1
          obtain ⟨hv0, hp0, hp1, hc0, hc1⟩ := hv1
          obtain ⟨pn, rfl⟩ : ∃ pn : Nat, pg = (pn : Int) := ⟨pg.toNat, by omega⟩
          obtain ⟨cn, rfl⟩ : ∃ cn : Nat, ct = (cn : Int) := ⟨ct.toNat, by omega⟩
          have hpw : IntKind.u64.wrap (pn : Int) = (pn : Int) := IntWalk.u64_in _ (by omega)
          have hcw : IntKind.u64.wrap (cn : Int) = (cn : Int) := IntWalk.u64_in _ (by omega)
          have e : (UInt8.ofNat ck.toNat :: (fixedF key.length 2 ++ key)) ++ fixedF pn 4 ++ fixedF cn 4 = cellF ⟨key, ck, val, (pn : Int), (cn : Int)⟩ := by simp [cellF, tailF, h1]
          have HE := Lib.hid e
          have n1 : ¬ cap - (3 + key.length) = 4 := by omega
          have n2 : (4 : Int) ≤ ((m - (3 + key.length) : Nat) : Int) := by omega
          clear hv0 h1 e
          go_upto_region 8 with (first
            | (go_at_call 141; (with_reducible refine (Fixed_4 pn (by omega) _).mono ?_); rintro e w7 ⟨rfl, hf7, hw7, hs7⟩)
            | ((with_reducible refine at_copy ?_); refine wp_copy_B rfl (.tmp 40) (.tmp 44) rfl _ (m - (3 + key.length)) (cap - (3 + key.length)) g (o + (3 + key.length)) rfl _ (hst.b.below hw7 hst.b.lt) (fun _ => rfl) (by rw [hs4]; omega) _ (fixedF pn 4) rfl (hf7.rdB (fixedF_length _ 4) (by omega)) ?_; intro w8 hb8 hg8)
            | fail)
          rw [splice_next L (UInt8.ofNat ck.toNat :: (fixedF key.length 2 ++ key)) (fixedF pn 4) o (o + (3 + key.length)) _ (by rw [hlen4]) (by rw [fixedF_length]; omega) (by rw [fixedF_length, hlen4]; omega)] at hb8
          have hst8 := hst.step hg hgl hw7 hg8 hb8
          clear c0 c1 c2 c3 c4 hb8
          obtain ⟨c0, c1, c2, c3, c4⟩ := cells5 hst8.c
          have hlen5 : ((UInt8.ofNat ck.toNat :: (fixedF key.length 2 ++ key)) ++ fixedF pn 4).length = 3 + key.length + 4 := by rw [List.length_append, hlen4, fixedF_length]
          have hs5 : (splice L o ((UInt8.ofNat ck.toNat :: (fixedF key.length 2 ++ key)) ++ fixedF pn 4)).length = L.length := splice_length (by rw [hlen5]; omega)
          clear hst hg8 hw7 hf7 hs7
          have hz8 := hst8.c.lt
          go_region_held3 (fun w' => w'.cell? ⟨w.heap.size, 4, none⟩ = some (.int .i64 (cn : Int)))
            (first
              | exact c4
              | exact (hw9.cell (by simpa using hz8)).trans c4
              | exact hg10.cell ((hw9.cell (by simpa using hz8)).trans c4) (by simp; omega))
            (first
              | (go_at_call 141; (with_reducible refine (Fixed_4 cn (by omega) _).mono ?_); rintro e w9 ⟨rfl, hf9, hw9, hs9⟩)
              | (refine step_copy_B (by rfl) (.tmp 47) (.tmp 51) (by rfl) _ (m - (3 + key.length) - 4) (cap - (3 + key.length) - 4) g (o + (3 + key.length) + 4) (by rfl) _ ((hst8.b.drew).below hw9 (by have := hst8.b.lt; simpa using this)) (fun _ => rfl) (by rw [hs5]; omega) _ (fixedF cn 4) (by rfl) (hf9.rdB (fixedF_length _ 4) (by omega)) ?_; intro w10 hb10 hg10)
              | fail)
          go_wp2_with fail
          refine bodyPost_end (results_none rfl _ _ _) rfl ?_
          rw [splice_next L ((UInt8.ofNat ck.toNat :: (fixedF key.length 2 ++ key)) ++ fixedF pn 4) (fixedF cn 4) o (o + (3 + key.length) + 4) _ (by rw [hlen5]; omega) (by rw [fixedF_length]; omega) (by rw [fixedF_length, hlen5]; omega)] at hb10
          have hst10 := hst8.step hg hgl ((Below.refl _ _).drew.trans hw9) hg10 hb10
          rw [HE.out] at hst10
          exact ⟨⟨_, rfl⟩, hst10.b, hst10.lo, hst10.t⟩
end Go.Proofs.YtfcnkpofcekmgaaGreat
