/- Texts joined: packed.isSize, isKind, may; packed.width, rest, length; packed.taken; packed.shared, Size; ink.half; ink.Sum; Helpers for the writing of pages -/
import Derived.Test.YtaniabhajngdeaaKN1
import Derived.Test.YtaniabhajngdeaaKN2
import Derived.Test.YtaniabhajngdeaaKN3
import Derived.Test.YtaniabhajngdeaaKN4
import Derived.Test.YtaniabhajngdeaaKN5
import Derived.Deep.CutRange
import Derived.Deep.DeepCutAuto
import Derived.Deep.QuietTactic
import Derived.BigQuiet
import Derived.Deep.RegionLaw
import Derived.Outline
-- packed.isSize, isKind, may: walks.
namespace Go.Proofs.Ytaniabhajngdeaa
open Go.RowKit
set_option maxRecDepth 20000 in
set_option maxHeartbeats 1000000 in
theorem KisSize_any (p : Int) (hp : -9223372036854775808 ≤ p ∧ p ≤ 9223372036854775807) (w : World) : Calls Try.prog 47 #[.int .i64 p] w fun e w' => e = .returned (.bool (isPowB p)) ∧ w = w' := by
  by_cases h1 : p < 512
  · have HV := Lib.hid (isPowB_out (.inl h1))
    go_enter Try.func47, Try.ntmps47
    go_wp2_with fail
    go_ret
    rw [HV.out]
    exact ⟨rfl, rfl⟩
  by_cases h2 : 65536 < p
  · have HV := Lib.hid (isPowB_out (.inr h2))
    go_enter Try.func47, Try.ntmps47
    go_wp2_with fail
    go_ret
    rw [HV.out]
    exact ⟨rfl, rfl⟩
  have hq := pow_eq p (by omega) (by omega)
  go_enter Try.func47, Try.ntmps47
  go_wp2_with fail
  go_ret
  exact ⟨rfl, rfl⟩
set_option maxRecDepth 20000 in
set_option maxHeartbeats 1000000 in
theorem KisKind_any (k : Int) (w : World) : Calls Try.prog 46 #[.int .i64 k] w fun e w' => e = .returned (.bool (isKindB k)) ∧ w = w' := by
  by_cases h1 : k = 2
  · subst h1
    go_enter Try.func46, Try.ntmps46
    go_wp2_with fail
    go_ret
    exact ⟨rfl, rfl⟩
  · have e1 : (k == 2) = false := beq_eq_false_iff_ne.2 h1
    by_cases h2 : k = 3
    · subst h2
      go_enter Try.func46, Try.ntmps46
      go_wp2_with fail
      go_ret
      exact ⟨rfl, rfl⟩
    · have e2 : (k == 3) = false := beq_eq_false_iff_ne.2 h2
      have HK : Hid (isKindB k = false) := by show _ = _; unfold isKindB; exact decide_eq_false (by omega)
      clear h1 h2
      go_enter Try.func46, Try.ntmps46
      go_wp2_with fail
      go_ret
      rw [HK.out]
      exact ⟨rfl, rfl⟩
set_option maxRecDepth 100000 in
set_option maxHeartbeats 4000000 in
theorem Kmay_any (x : CV) (kind : Int) (hkd : kind = 2 ∨ kind = 3) (P : Nat) (hP : P ≤ 65536) (w : World) (hx : x.ok w) : Calls Try.prog 48 #[.int .i64 kind, cellV x, .int .i64 (P : Int)] w fun e w' => e = .returned (.bool (mayP kind P x.c)) ∧ Below w.heap.size w w' := by
  obtain ⟨A, ca, B, cb, key, ck, val, pg, ct, rfl, hka, hvb⟩ := CV.form hx
  have hA : Below w.heap.size w (w.alloc (.cells #[.slice A key.length ca, .int .i64 ck, .slice B val.length cb, .int .i64 pg, .int .i64 ct] 50)) := (Below.refl _ _).alloc (Nat.le_refl _) _
  obtain ⟨c0, c1, c2, c3, c4⟩ := cells5 (OBlk.new' w 50 [.slice A key.length ca, .int .i64 ck, .slice B val.length cb, .int .i64 pg, .int .i64 ct])
  unfold cellV
  go_enter Try.func48, Try.ntmps48
  go_upto_region 2 with (fail)
  go_cut [9] (fun a wx => a = .bool (decide (2 ≤ pg) && decide (pg < 65536)) ∧ wx = (w.alloc (.cells #[.slice A key.length ca, .int .i64 ck, .slice B val.length cb, .int .i64 pg, .int .i64 ct] 50)))
  case first =>
    by_cases a1 : 2 ≤ pg
    · by_cases a2 : pg < 65536
      · go_wp2_with fail
        go_meet
        exact ⟨by simp [a1, a2], rfl⟩
      · go_wp2_with fail
        go_meet
        exact ⟨by simp [a1, a2], rfl⟩
    · by_cases a2 : pg < 65536
      · go_wp2_with fail
        go_meet
        exact ⟨by simp [a1, a2], rfl⟩
      · omega
  case rest =>
   obtain ⟨rfl, rfl⟩ := hcut
   go_upto_region 3 with (fail)
   go_cut [10] (fun b wx => b = .bool (decide (1 ≤ ct) && decide (ct ≤ 1073741824)) ∧ wx = (w.alloc (.cells #[.slice A key.length ca, .int .i64 ck, .slice B val.length cb, .int .i64 pg, .int .i64 ct] 50)))
   case first =>
    by_cases a3 : 1 ≤ ct
    · by_cases a4 : ct ≤ 1073741824
      · go_wp2_with fail
        go_meet
        exact ⟨by simp [a3, a4], rfl⟩
      · go_wp2_with fail
        go_meet
        exact ⟨by simp [a3, a4], rfl⟩
    · by_cases a4 : ct ≤ 1073741824
      · go_wp2_with fail
        go_meet
        exact ⟨by simp [a3, a4], rfl⟩
      · omega
   case rest =>
    obtain ⟨rfl, rfl⟩ := hcut
    have hch : decide (childP ⟨key, ck, val, pg, ct⟩) = (decide (2 ≤ pg) && decide (pg < 65536)) := by
      rw [Bool.eq_iff_iff, Bool.and_eq_true, decide_eq_true_iff, decide_eq_true_iff, decide_eq_true_iff]; exact Iff.rfl
    rcases hkd with rfl | rfl
    · have HM : Hid (mayP 2 P ⟨key, ck, val, pg, ct⟩ = (!decide (P / 8 < key.length) && (!((ck != 1) && decide (0 < val.length)) && (!(key.length == 0) && (bif ck == 1 then decide (val.length ≤ P / 16 * 3) && ((pg == 0) && (ct == 0)) else bif ck == 2 then (decide (2 ≤ pg) && decide (pg < 65536)) && (decide ((P : Int) / 16 * 3 < ct) && decide (ct ≤ 65536)) else bif ck == 4 then ((decide (2 ≤ pg) && decide (pg < 65536)) && (decide (1 ≤ ct) && decide (ct ≤ 1073741824))) || ((pg == 0) && (ct == 0)) else false))))) := by
        show _ = _
        rw [← hch]
        unfold mayP
        simp only
        by_cases h1 : P / 8 < key.length
        · simp [h1]
        by_cases h2 : key.length = 0
        · simp [h2]
        by_cases h3 : ck = 1
        · subst h3
          rw [if_neg (by omega), if_neg (by omega), if_pos rfl, show ((1 : Int) == 1) = true from rfl, cond_true]
          unfold thereP
          rw [Bool.eq_iff_iff]
          simp [h1, h2]
          constructor <;> (intro h; simp_all)
        by_cases h4 : 0 < val.length
        · rw [if_pos (by omega)]; simp [h3, h4]
        · rw [if_neg (by omega), if_neg (by omega), if_neg h3, show (ck == 1) = false from beq_eq_false_iff_ne.2 h3, cond_false]
          have hkk : key ≠ [] := fun e => h2 (by rw [e]; rfl)
          have hvv : val = [] := List.eq_nil_of_length_eq_zero (by omega)
          by_cases h5 : ck = 2
          · rw [if_pos h5, show (ck == 2) = true from beq_iff_eq.2 h5, cond_true, Bool.eq_iff_iff]
            simp [h1, hkk, hvv]
          · rw [if_neg h5, show (ck == 2) = false from beq_eq_false_iff_ne.2 h5, cond_false]
            by_cases h6 : ck = 4
            · rw [if_pos h6, show (ck == 4) = true from beq_iff_eq.2 h6, cond_true]
              unfold thereP
              rw [Bool.eq_iff_iff]
              simp [h1, hkk, hvv]
              constructor <;> (rintro (h | h) <;> simp_all)
            · rw [if_neg h6, show (ck == 4) = false from beq_eq_false_iff_ne.2 h6, cond_false]; simp
      clear hch
      generalize (decide (2 ≤ pg) && decide (pg < 65536)) = ch at *
      generalize (decide (1 ≤ ct) && decide (ct ≤ 1073741824)) = cn at *
      by_cases b1 : P / 8 < key.length
      · have b1i : ((P : Int) / 8 < (key.length : Int)) := by omega
        have b1d := Lib.hid (decide_eq_true b1)
        go_wp2_with fail
        go_ret
        refine ⟨?_, hA⟩
        rw [HM.out]
        first | (simp [b1d.out]; done) | (simp [b1d.out]; rfl)
      · have b1i : ¬ ((P : Int) / 8 < (key.length : Int)) := by omega
        have b1d := Lib.hid (decide_eq_false b1)
        by_cases k1 : ck = 1
        · subst k1
          rcases Bool.eq_false_or_eq_true (((key.length : Nat) : Int) == 0) with z0 | z0
          · have z2 : (key.length == 0) = true := by have := z0; rw [beq_iff_eq] at this ⊢; omega
            have Z2 := Lib.hid z2
            clear z2
            go_wp2_with fail
            go_ret
            refine ⟨?_, hA⟩
            rw [HM.out]
            first | (simp [b1d.out, Z2.out]; done) | (simp [b1d.out, Z2.out]; rfl)
          · have z2 : (key.length == 0) = false := by have := z0; rw [beq_eq_false_iff_ne] at this ⊢; omega
            have Z2 := Lib.hid z2
            clear z2
            by_cases v2 : val.length ≤ P / 16 * 3
            · have v2i : ((val.length : Int) ≤ (P : Int) / 16 * 3) := by omega
              have v2d := Lib.hid (decide_eq_true v2)
              by_cases p0 : pg = 0
              · subst p0
                by_cases c0 : ct = 0
                · subst c0
                  go_wp2_with fail
                  go_ret
                  refine ⟨?_, hA⟩
                  rw [HM.out]
                  first | (simp [b1d.out, Z2.out, v2d.out]; done) | (simp [b1d.out, Z2.out, v2d.out]; rfl)
                · have c0b : (ct == 0) = false := beq_eq_false_iff_ne.2 c0
                  have c0c : (ct != 0) = true := by rw [bne, c0b]; rfl
                  go_wp2_with fail
                  go_ret
                  refine ⟨?_, hA⟩
                  rw [HM.out]
                  first | (simp [b1d.out, Z2.out, v2d.out, c0b, c0c]; done) | (simp [b1d.out, Z2.out, v2d.out, c0b, c0c]; rfl)
              · have p0b : (pg == 0) = false := beq_eq_false_iff_ne.2 p0
                have p0c : (pg != 0) = true := by rw [bne, p0b]; rfl
                go_wp2_with fail
                go_ret
                refine ⟨?_, hA⟩
                rw [HM.out]
                first | (simp [b1d.out, Z2.out, v2d.out, p0b, p0c]; done) | (simp [b1d.out, Z2.out, v2d.out, p0b, p0c]; rfl)
            · have v2i : ¬ ((val.length : Int) ≤ (P : Int) / 16 * 3) := by omega
              have v2d := Lib.hid (decide_eq_false v2)
              go_wp2_with fail
              go_ret
              refine ⟨?_, hA⟩
              rw [HM.out]
              first | (simp [b1d.out, Z2.out, v2d.out]; done) | (simp [b1d.out, Z2.out, v2d.out]; rfl)
        · have k1b : (ck == 1) = false := beq_eq_false_iff_ne.2 k1
          have k1c : (ck != 1) = true := by rw [bne, k1b]; rfl
          by_cases v0 : 0 < val.length
          · have v0i : ((0 : Int) < (val.length : Int)) := by omega
            have v0d := Lib.hid (decide_eq_true v0)
            go_wp2_with fail
            go_ret
            refine ⟨?_, hA⟩
            rw [HM.out]
            first | (simp [b1d.out, k1b, k1c, v0d.out]; done) | (simp [b1d.out, k1b, k1c, v0d.out]; rfl)
          · have v0i : ¬ ((0 : Int) < (val.length : Int)) := by omega
            have v0d := Lib.hid (decide_eq_false v0)
            rcases Bool.eq_false_or_eq_true (((key.length : Nat) : Int) == 0) with z0 | z0
            · have z2 : (key.length == 0) = true := by have := z0; rw [beq_iff_eq] at this ⊢; omega
              have Z2 := Lib.hid z2
              clear z2
              go_wp2_with fail
              go_ret
              refine ⟨?_, hA⟩
              rw [HM.out]
              first | (simp [b1d.out, k1b, k1c, v0d.out, Z2.out]; done) | (simp [b1d.out, k1b, k1c, v0d.out, Z2.out]; rfl)
            · have z2 : (key.length == 0) = false := by have := z0; rw [beq_eq_false_iff_ne] at this ⊢; omega
              have Z2 := Lib.hid z2
              clear z2
              by_cases k2 : ck = 2
              · subst k2
                cases ch with
                | true =>
                  by_cases d3 : (P : Int) / 16 * 3 < ct
                  · have d3d := Lib.hid (decide_eq_true d3)
                    by_cases d4 : ct ≤ 65536
                    · have d4d := Lib.hid (decide_eq_true d4)
                      go_wp2_with fail
                      go_ret
                      refine ⟨?_, hA⟩
                      rw [HM.out]
                      first | (simp [b1d.out, k1b, k1c, v0d.out, Z2.out, d3d.out, d4d.out]; done) | (simp [b1d.out, k1b, k1c, v0d.out, Z2.out, d3d.out, d4d.out]; rfl)
                    · have d4d := Lib.hid (decide_eq_false d4)
                      go_wp2_with fail
                      go_ret
                      refine ⟨?_, hA⟩
                      rw [HM.out]
                      first | (simp [b1d.out, k1b, k1c, v0d.out, Z2.out, d3d.out, d4d.out]; done) | (simp [b1d.out, k1b, k1c, v0d.out, Z2.out, d3d.out, d4d.out]; rfl)
                  · have d3d := Lib.hid (decide_eq_false d3)
                    go_wp2_with fail
                    go_ret
                    refine ⟨?_, hA⟩
                    rw [HM.out]
                    first | (simp [b1d.out, k1b, k1c, v0d.out, Z2.out, d3d.out]; done) | (simp [b1d.out, k1b, k1c, v0d.out, Z2.out, d3d.out]; rfl)
                | false =>
                  go_wp2_with fail
                  go_ret
                  refine ⟨?_, hA⟩
                  rw [HM.out]
                  first | (simp [b1d.out, k1b, k1c, v0d.out, Z2.out]; done) | (simp [b1d.out, k1b, k1c, v0d.out, Z2.out]; rfl)
              · have k2b : (ck == 2) = false := beq_eq_false_iff_ne.2 k2
                have k2c : (ck != 2) = true := by rw [bne, k2b]; rfl
                by_cases k4 : ck = 4
                · subst k4
                  cases ch with
                  | true =>
                    cases cn with
                    | true =>
                      go_wp2_with fail
                      go_ret
                      refine ⟨?_, hA⟩
                      rw [HM.out]
                      first | (simp [b1d.out, k1b, k1c, v0d.out, Z2.out, k2b, k2c]; done) | (simp [b1d.out, k1b, k1c, v0d.out, Z2.out, k2b, k2c]; rfl)
                    | false =>
                      by_cases p0 : pg = 0
                      · subst p0
                        by_cases c0 : ct = 0
                        · subst c0
                          go_wp2_with fail
                          go_ret
                          refine ⟨?_, hA⟩
                          rw [HM.out]
                          first | (simp [b1d.out, k1b, k1c, v0d.out, Z2.out, k2b, k2c]; done) | (simp [b1d.out, k1b, k1c, v0d.out, Z2.out, k2b, k2c]; rfl)
                        · have c0b : (ct == 0) = false := beq_eq_false_iff_ne.2 c0
                          have c0c : (ct != 0) = true := by rw [bne, c0b]; rfl
                          go_wp2_with fail
                          go_ret
                          refine ⟨?_, hA⟩
                          rw [HM.out]
                          first | (simp [b1d.out, k1b, k1c, v0d.out, Z2.out, k2b, k2c, c0b, c0c]; done) | (simp [b1d.out, k1b, k1c, v0d.out, Z2.out, k2b, k2c, c0b, c0c]; rfl)
                      · have p0b : (pg == 0) = false := beq_eq_false_iff_ne.2 p0
                        have p0c : (pg != 0) = true := by rw [bne, p0b]; rfl
                        go_wp2_with fail
                        go_ret
                        refine ⟨?_, hA⟩
                        rw [HM.out]
                        first | (simp [b1d.out, k1b, k1c, v0d.out, Z2.out, k2b, k2c, p0b, p0c]; done) | (simp [b1d.out, k1b, k1c, v0d.out, Z2.out, k2b, k2c, p0b, p0c]; rfl)
                  | false =>
                    by_cases p0 : pg = 0
                    · subst p0
                      by_cases c0 : ct = 0
                      · subst c0
                        go_wp2_with fail
                        go_ret
                        refine ⟨?_, hA⟩
                        rw [HM.out]
                        first | (simp [b1d.out, k1b, k1c, v0d.out, Z2.out, k2b, k2c]; done) | (simp [b1d.out, k1b, k1c, v0d.out, Z2.out, k2b, k2c]; rfl)
                      · have c0b : (ct == 0) = false := beq_eq_false_iff_ne.2 c0
                        have c0c : (ct != 0) = true := by rw [bne, c0b]; rfl
                        go_wp2_with fail
                        go_ret
                        refine ⟨?_, hA⟩
                        rw [HM.out]
                        first | (simp [b1d.out, k1b, k1c, v0d.out, Z2.out, k2b, k2c, c0b, c0c]; done) | (simp [b1d.out, k1b, k1c, v0d.out, Z2.out, k2b, k2c, c0b, c0c]; rfl)
                    · have p0b : (pg == 0) = false := beq_eq_false_iff_ne.2 p0
                      have p0c : (pg != 0) = true := by rw [bne, p0b]; rfl
                      go_wp2_with fail
                      go_ret
                      refine ⟨?_, hA⟩
                      rw [HM.out]
                      first | (simp [b1d.out, k1b, k1c, v0d.out, Z2.out, k2b, k2c, p0b, p0c]; done) | (simp [b1d.out, k1b, k1c, v0d.out, Z2.out, k2b, k2c, p0b, p0c]; rfl)
                · have k4b : (ck == 4) = false := beq_eq_false_iff_ne.2 k4
                  have k4c : (ck != 4) = true := by rw [bne, k4b]; rfl
                  go_wp2_with fail
                  go_ret
                  refine ⟨?_, hA⟩
                  rw [HM.out]
                  first | (simp [b1d.out, k1b, k1c, v0d.out, Z2.out, k2b, k2c, k4b, k4c]; done) | (simp [b1d.out, k1b, k1c, v0d.out, Z2.out, k2b, k2c, k4b, k4c]; rfl)
    · have HM : Hid (mayP 3 P ⟨key, ck, val, pg, ct⟩ = (!decide (P / 8 < key.length) && (!((ck != 1) && decide (0 < val.length)) && ((ck == 3) && ((decide (2 ≤ pg) && decide (pg < 65536)) && (decide (1 ≤ ct) && decide (ct ≤ 1073741824))))))) := by
        show _ = _
        rw [← hch]
        unfold mayP
        simp only
        by_cases h1 : P / 8 < key.length
        · simp [h1]
        by_cases h3 : ck = 3
        · subst h3
          by_cases h4 : 0 < val.length
          · rw [if_pos (by omega)]; simp [h4]
          · rw [if_neg (by omega), if_pos trivial, Bool.eq_iff_iff]
            have hvv : val = [] := List.eq_nil_of_length_eq_zero (by omega)
            simp [h1, hvv]
        · by_cases h5 : (ck ≠ 1 ∧ 0 < val.length)
          · rw [if_pos (by omega)]; simp [h3]
          · rw [if_neg (by omega), if_pos trivial]; simp [h3]
      clear hch
      generalize (decide (2 ≤ pg) && decide (pg < 65536)) = ch at *
      generalize (decide (1 ≤ ct) && decide (ct ≤ 1073741824)) = cn at *
      by_cases b1 : P / 8 < key.length
      · have b1i : ((P : Int) / 8 < (key.length : Int)) := by omega
        have b1d := Lib.hid (decide_eq_true b1)
        go_wp2_with fail
        go_ret
        refine ⟨?_, hA⟩
        rw [HM.out]
        first | (simp [b1d.out]; done) | (simp [b1d.out]; rfl)
      · have b1i : ¬ ((P : Int) / 8 < (key.length : Int)) := by omega
        have b1d := Lib.hid (decide_eq_false b1)
        by_cases k1 : ck = 1
        · subst k1
          go_wp2_with fail
          go_ret
          refine ⟨?_, hA⟩
          rw [HM.out]
          first | (simp [b1d.out]; done) | (simp [b1d.out]; rfl)
        · have k1b : (ck == 1) = false := beq_eq_false_iff_ne.2 k1
          have k1c : (ck != 1) = true := by rw [bne, k1b]; rfl
          by_cases v0 : 0 < val.length
          · have v0i : ((0 : Int) < (val.length : Int)) := by omega
            have v0d := Lib.hid (decide_eq_true v0)
            go_wp2_with fail
            go_ret
            refine ⟨?_, hA⟩
            rw [HM.out]
            first | (simp [b1d.out, k1b, k1c, v0d.out]; done) | (simp [b1d.out, k1b, k1c, v0d.out]; rfl)
          · have v0i : ¬ ((0 : Int) < (val.length : Int)) := by omega
            have v0d := Lib.hid (decide_eq_false v0)
            by_cases k3 : ck = 3
            · subst k3
              cases ch with
              | true =>
                cases cn with
                | true =>
                  go_wp2_with fail
                  go_ret
                  refine ⟨?_, hA⟩
                  rw [HM.out]
                  first | (simp [b1d.out, k1b, k1c, v0d.out]; done) | (simp [b1d.out, k1b, k1c, v0d.out]; rfl)
                | false =>
                  go_wp2_with fail
                  go_ret
                  refine ⟨?_, hA⟩
                  rw [HM.out]
                  first | (simp [b1d.out, k1b, k1c, v0d.out]; done) | (simp [b1d.out, k1b, k1c, v0d.out]; rfl)
              | false =>
                go_wp2_with fail
                go_ret
                refine ⟨?_, hA⟩
                rw [HM.out]
                first | (simp [b1d.out, k1b, k1c, v0d.out]; done) | (simp [b1d.out, k1b, k1c, v0d.out]; rfl)
            · have k3b : (ck == 3) = false := beq_eq_false_iff_ne.2 k3
              have k3c : (ck != 3) = true := by rw [bne, k3b]; rfl
              go_wp2_with fail
              go_ret
              refine ⟨?_, hA⟩
              rw [HM.out]
              first | (simp [b1d.out, k1b, k1c, v0d.out, k3b, k3c]; done) | (simp [b1d.out, k1b, k1c, v0d.out, k3b, k3c]; rfl)
end Go.Proofs.Ytaniabhajngdeaa

-- packed.width, rest, length: walks.
namespace Go.Proofs.Ytaniabhajngdeaa
open Go.RowKit
set_option maxRecDepth 20000 in
set_option maxHeartbeats 1000000 in
theorem Width_any (n : Nat) (hn : n < 18446744073709551616) (w : World) :
    Calls Try.prog 97 #[.int .u64 (n : Int)] w fun e w' => e = .returned (.int .i64 ((uintF n).length : Nat)) ∧ w' = w := by
  have HL := Lib.hid (uintF_le10 hn)
  go_enter Try.func97, Try.ntmps97
  go_wp2_with fail
  go_loop [0, 3] (fun m v => ∃ (k j : Nat), m = .int .u64 (k : Int) ∧ k < 18446744073709551616 ∧ v = .int .i64 ((j : Int) + 1) ∧ j ≤ 10 ∧ Hid ((uintF n).length = j + (uintF k).length))
    (fun m _ => (intOf m).toNat)
  case atStart => exact ⟨n, 0, rfl, hn, rfl, by omega, Lib.hid (by omega)⟩
  case round =>
    obtain ⟨k, j, rfl, hk, rfl, hj, HE⟩ := hrel
    by_cases h : k < 128
    · have he : (uintF n).length = j + 1 := by rw [HE.out, uintF_lt h]; rfl
      have HE2 := Lib.hid he
      clear he HE
      go_wp2_with fail
      go_ret
      exact ⟨by rw [HE2.out]; go_num, rfl⟩
    · have he : (uintF n).length = (j + 1) + (uintF (k / 128)).length := by rw [HE.out, uintF_ge h, List.length_cons]; omega
      have hp := uintF_pos (k / 128)
      have hj2 : j + 1 ≤ 9 := by have := HL.out; omega
      have HE2 := Lib.hid he
      clear he HE hp
      go_wp2_with fail
      go_round
      case rel => exact ⟨k / 128, j + 1, by go_num, by omega, by go_num, by omega, HE2⟩
      case measure => simp [intOf]; omega
set_option maxRecDepth 20000 in
set_option maxHeartbeats 1000000 in
theorem Krest_any (kind : Int) (i : Nat) (x : CV) (pre : Nat) (w : World) (hx : x.ok w) (hp : ¬ (kind = 3 ∧ i = 0) → pre ≤ x.c.key.length) :
    Calls Try.prog 84 #[.int .i64 kind, .int .i64 (i : Int), cellV x, .int .i64 (pre : Int)] w fun e w' => ∃ A c, e = .returned (.slice A (restF kind i x.c.key pre).length c) ∧ RdB w (.slice A (restF kind i x.c.key pre).length c) (restF kind i x.c.key pre) ∧ Below w.heap.size w w' := by
  obtain ⟨A, ca, B, cb, key, ck, val, pg, ct, rfl, hka, hvb⟩ := CV.form hx
  have hA : Below w.heap.size w (w.alloc (.cells #[.slice A key.length ca, .int .i64 ck, .slice B val.length cb, .int .i64 pg, .int .i64 ct] 50)) := (Below.refl _ _).alloc (Nat.le_refl _) _
  obtain ⟨c0, c1, c2, c3, c4⟩ := cells5 (OBlk.new' w 50 [.slice A key.length ca, .int .i64 ck, .slice B val.length cb, .int .i64 pg, .int .i64 ct])
  have hk : RdB w (.slice A key.length ca) key := hx.k
  unfold cellV
  simp only at hp ⊢
  by_cases h : kind = 3 ∧ i = 0
  · obtain ⟨rfl, rfl⟩ := h
    have HR : Hid (restF 3 0 key pre = key) := by show _ = _; unfold restF; rw [if_pos ⟨rfl, rfl⟩]
    clear hp
    go_enter Try.func84, Try.ntmps84
    go_wp2_with fail
    go_ret
    rw [HR.out]
    exact ⟨_, _, rfl, hk, hA⟩
  · have HR : Hid (restF kind i key pre = key.drop pre) := by show _ = _; unfold restF; rw [if_neg h]
    obtain ⟨A2, c2', hrun, hrd⟩ := hk.run_l pre (hp h)
    have hp' := hp h
    have HRD := Lib.hid hrd
    have hlen : (key.drop pre).length = key.length - pre := by simp
    have HLN := Lib.hid hlen
    clear hrd hp hlen
    by_cases h3 : kind = 3
    · have e1 : (kind == 3) = true := by simp [h3]
      have e2 : ((i : Int) == 0) = false := beq_eq_false_iff_ne.2 (by omega)
      clear h3 h
      go_enter Try.func84, Try.ntmps84
      go_wp2_with fail
      go_ret
      rw [HR.out, HLN.out]
      exact ⟨_, _, rfl, HRD.out, hA⟩
    · have e1 : (kind == 3) = false := beq_eq_false_iff_ne.2 h3
      clear h3 h
      go_enter Try.func84, Try.ntmps84
      go_wp2_with fail
      go_ret
      rw [HR.out, HLN.out]
      exact ⟨_, _, rfl, HRD.out, hA⟩
theorem wrap_u64N (n : Int) : IntKind.u64.wrap n = ((u64N n : Nat) : Int) := by
  rw [IntKind.wrap_u64]; unfold u64N; omega
set_option maxRecDepth 20000 in
set_option maxHeartbeats 1000000 in
theorem Klength_any (kind : Int) (i : Nat) (x : CV) (pre : Nat) (w : World) (hx : x.ok w) (hp : ¬ (kind = 3 ∧ i = 0) → pre ≤ x.c.key.length) (hb : x.c.key.length + x.c.val.length ≤ 4611686018427387904) :
    Calls Try.prog 75 #[.int .i64 kind, .int .i64 (i : Int), cellV x, .int .i64 (pre : Int)] w fun e w' => e = .returned (.int .i64 ((pcF kind i x.c pre).length : Nat)) ∧ Below w.heap.size w w' := by
  have hrest := fun W hW => Krest_any kind i x pre W hW hp
  have hlr : (restF kind i x.c.key pre).length ≤ x.c.key.length := by unfold restF; split <;> simp
  have hpl : (pcF kind i x.c pre).length = 1 + (uintF (restF kind i x.c.key pre).length).length + (restF kind i x.c.key pre).length + (kvF x.c).length := by
    unfold pcF; simp only [List.length_cons, List.length_append]; omega
  obtain ⟨A, ca, B, cb, key, ck, val, pg, ct, rfl, hka, hvb⟩ := CV.form hx
  have hx' : CV.ok (w.alloc (.cells #[.slice A key.length ca, .int .i64 ck, .slice B val.length cb, .int .i64 pg, .int .i64 ct] 50)) ⟨.slice A key.length ca, .slice B val.length cb, ⟨key, ck, val, pg, ct⟩⟩ := hx.below ((Below.refl _ _).alloc (Nat.le_refl _) _)
  have hrest' := hrest _ hx'
  have hC := OBlk.new' w 50 [.slice A key.length ca, .int .i64 ck, .slice B val.length cb, .int .i64 pg, .int .i64 ct]
  have hA : Below w.heap.size w (w.alloc (.cells #[.slice A key.length ca, .int .i64 ck, .slice B val.length cb, .int .i64 pg, .int .i64 ct] 50)) := (Below.refl _ _).alloc (Nat.le_refl _) _
  unfold cellV at hrest' ⊢
  simp only at hrest' hb hlr hpl ⊢
  have hkv1 : ck = 1 → (kvF ⟨key, ck, val, pg, ct⟩).length = (uintF val.length).length + val.length := fun h => by unfold kvF; rw [if_pos h, List.length_append]
  have hkv2 : ck ≠ 1 → (kvF ⟨key, ck, val, pg, ct⟩).length = (uintF (u64N pg)).length + (uintF (u64N ct)).length := fun h => by unfold kvF; rw [if_neg h, List.length_append]
  obtain ⟨rl, hrl⟩ : ∃ rl, restF kind i key pre = rl := ⟨_, rfl⟩
  rw [hrl] at hrest' hlr hpl
  have hu1 := uintF_le10 (n := rl.length) (by omega)
  have HPL := Lib.hid hpl
  have HK1 := Lib.hid hkv1
  have HK2 := Lib.hid hkv2
  have hw1 := Width_any rl.length (by omega)
  have HW1 := Lib.hid hw1
  clear hrest hrl hpl hx hx' hkv1 hkv2 hw1
  generalize hul : (uintF rl.length).length = ul at *
  have HUL := Lib.hid hul
  clear hul
  go_enter Try.func75, Try.ntmps75
  go_upto_region 2 with (first
    | (go_at_call 84; refine hrest'.mono ?_; rintro e w1 ⟨A9, c9, rfl, hr9, hb9⟩)
    | fail)
  have hC1 := hC.below hb9 hC.lt
  have hA1 := hA.trans (hb9.mono hA.size)
  clear hC hA hr9 hb9 hrest'
  obtain ⟨c0, c1, c2, c3, c4⟩ := cells5 hC1
  go_upto_region 3 with (first
    | (go_at_call 97; refine (HW1.out _).mono ?_; rintro e w2 ⟨rfl, rfl⟩)
    | fail)
  by_cases h1 : ck = 1
  · subst h1
    have hk1 := HK1.out rfl
    have hu2 := uintF_le10 (n := val.length) (by omega)
    have hw2 := Width_any val.length (by omega)
    generalize hvl : (uintF val.length).length = vl at *
    have e1 : IntKind.i64.wrap (1 + (ul : Int) + (rl.length : Int) + (vl : Int)) = 1 + (ul : Int) + (rl.length : Int) + (vl : Int) := by rw [IntKind.wrap_i64]; omega
    have e2 : IntKind.i64.wrap (1 + (ul : Int) + (rl.length : Int) + (vl : Int) + (val.length : Int)) = 1 + (ul : Int) + (rl.length : Int) + (vl : Int) + (val.length : Int) := by rw [IntKind.wrap_i64]; omega
    have HN : Hid ((pcF kind i ⟨key, 1, val, pg, ct⟩ pre).length = 1 + ul + rl.length + vl + val.length) := Lib.hid (by rw [HPL.out, hk1]; omega)
    clear hk1
    have HW2 := Lib.hid (fun W => Width_any val.length (by omega) W)
    rw [hvl] at HW2
    clear hw2 hvl
    go_upto_region 4 with (fail)
    go_quiet ((go_at_call 97; exact Calls.quiet_of_same (HW2.out _)))
    go_wp2_with fail
    go_ret
    exact ⟨by rw [HN.out]; go_num, below_drewN hA1 _⟩
  · have e0 : (ck == 1) = false := beq_eq_false_iff_ne.2 h1
    have hk2 := HK2.out h1
    have hu2 := uintF_le10 (u64N_lt pg)
    have hu3 := uintF_le10 (u64N_lt ct)
    have HW2 := Lib.hid (fun W => Width_any (u64N pg) (u64N_lt pg) W)
    have HW3 := Lib.hid (fun W => Width_any (u64N ct) (u64N_lt ct) W)
    have q1 := wrap_u64N pg
    have q2 := wrap_u64N ct
    generalize (uintF (u64N pg)).length = vl at *
    generalize (uintF (u64N ct)).length = wl at *
    have e1 : IntKind.i64.wrap (1 + (ul : Int) + (rl.length : Int) + (vl : Int)) = 1 + (ul : Int) + (rl.length : Int) + (vl : Int) := by rw [IntKind.wrap_i64]; omega
    have e2 : IntKind.i64.wrap (1 + (ul : Int) + (rl.length : Int) + (vl : Int) + (wl : Int)) = 1 + (ul : Int) + (rl.length : Int) + (vl : Int) + (wl : Int) := by rw [IntKind.wrap_i64]; omega
    have HN : Hid ((pcF kind i ⟨key, ck, val, pg, ct⟩ pre).length = 1 + ul + rl.length + vl + wl) := Lib.hid (by rw [HPL.out, hk2]; omega)
    clear hk2 h1
    generalize u64N pg = pn at *
    generalize u64N ct = cn at *
    go_upto_region 5 with (fail)
    go_quiet ((first
      | (go_at_call 97; with_reducible exact Calls.quiet_of_same (HW2.out _))
      | (go_at_call 97; with_reducible exact Calls.quiet_of_same (HW3.out _))))
    go_wp2_with fail
    go_ret
    exact ⟨by rw [HN.out]; go_num, below_drewN hA1 _⟩
end Go.Proofs.Ytaniabhajngdeaa

-- packed.taken: plain bounds and the walk.
namespace Go.Proofs.Ytaniabhajngdeaa
open Go.RowKit
def bigK : List PC → Nat
  | [] => 0
  | c :: r => 33 + c.key.length + c.val.length + bigK r
theorem bigK_append : ∀ (a b : List PC), bigK (a ++ b) = bigK a + bigK b
  | [], b => by simp [bigK]
  | c :: r, b => by rw [List.cons_append]; simp only [bigK]; rw [bigK_append r b]; omega
theorem bigK_mem : ∀ {l : List PC} {c : PC}, c ∈ l → 33 + c.key.length + c.val.length ≤ bigK l
  | x :: r, c, h => by
    simp only [bigK]
    rcases List.mem_cons.1 h with rfl | h
    · omega
    · have := bigK_mem h; omega
theorem bigK_take (l : List PC) (k : Nat) : bigK (l.take k) ≤ bigK l := by
  have : bigK l = bigK (l.take k) + bigK (l.drop k) := by rw [← bigK_append, List.take_append_drop]
  omega
theorem bigK_drop (l : List PC) (k : Nat) : bigK (l.drop k) ≤ bigK l := by
  have : bigK l = bigK (l.take k) + bigK (l.drop k) := by rw [← bigK_append, List.take_append_drop]
  omega
theorem pcF_big (kind : Int) (i pre : Nat) {c : PC} (h : c.key.length + c.val.length ≤ 4611686018427387904) : (pcF kind i c pre).length + 2 ≤ 33 + c.key.length + c.val.length := by
  have hrl : (restF kind i c.key pre).length ≤ c.key.length := by unfold restF; split <;> simp
  have u1 := uintF_le10 (n := (restF kind i c.key pre).length) (by omega)
  unfold pcF kvF
  simp only [List.length_cons, List.length_append]
  split
  · have u2 := uintF_le10 (n := c.val.length) (by omega)
    rw [List.length_append]; omega
  · have u2 := uintF_le10 (u64N_lt c.page)
    have u3 := uintF_le10 (u64N_lt c.count)
    rw [List.length_append]; omega
theorem pbody_big (kind : Int) (pre : Nat) : ∀ (i : Nat) (l : List PC), bigK l ≤ 4611686018427387904 → (pbodyF kind pre i l).length + 2 * l.length ≤ bigK l
  | _, [], _ => by simp [pbodyF]
  | i, c :: r, h => by
    simp only [bigK] at h ⊢
    have h1 := pcF_big kind i pre (c := c) (by omega)
    have h2 := pbody_big kind pre (i + 1) r (by omega)
    simp only [pbodyF, List.length_append, List.length_cons]
    omega
theorem taken_take (kind : Int) (pre : Nat) (l : List PC) {k : Nat} (hk : k < l.length) : takenF kind (l.take (k + 1)) pre = takenF kind (l.take k) pre + (2 + (pcF kind k l[k] pre).length) := by
  unfold takenF
  rw [List.take_succ_eq_append_getElem hk, pbodyF_append]
  simp only [pbodyF, List.length_append, List.length_cons, List.length_nil, List.length_take, Nat.min_eq_left (Nat.le_of_lt hk), Nat.zero_add, List.append_nil]
  omega
theorem taken_big (kind : Int) (pre : Nat) (l : List PC) (k : Nat) (h : bigK l ≤ 4611686018427387904) : takenF kind (l.take k) pre ≤ 10 + pre + bigK l := by
  have h1 := bigK_take l k
  have h2 := pbody_big kind pre 0 (l.take k) (by omega)
  unfold takenF
  omega
set_option maxRecDepth 100000 in
set_option maxHeartbeats 4000000 in
theorem Ktaken_any (kind : Int) (v : Value) (l : List CV) (pre : Nat) (w : World) (hl : RdCs w v l) (hf : bigK (pcs l) ≤ 2305843009213693952) (hpr : pre ≤ 2305843009213693952) (hp : ∀ (i : Nat) (hi : i < (pcs l).length), ¬ (kind = 3 ∧ i = 0) → pre ≤ (pcs l)[i].key.length) :
    Calls Try.prog 42 #[.int .i64 kind, v, .int .i64 (pre : Int)] w fun e w' => e = .returned (.int .i64 (takenF kind (pcs l) pre : Nat)) ∧ Below w.heap.size w w' := by
  obtain ⟨A, c, rfl, hm, hc⟩ := hl.slice
  have HP := Lib.hid hp
  have HF := Lib.hid hf
  clear hp
  go_enter Try.func42, Try.ntmps42
  go_wp2_with fail
  go_loopw [7, 14] (fun n i wr => ∃ k : Nat, k ≤ l.length ∧ i = .int .i64 (k : Int) ∧ n = .int .i64 (takenF kind ((pcs l).take k) pre : Nat) ∧ Below w.heap.size w wr) (fun _ i _ => l.length - (intOf i).toNat)
  case atStart => exact ⟨0, Nat.zero_le _, rfl, by simp [takenF, pbodyF], Below.refl _ _⟩
  case round =>
    obtain ⟨k, hk, rfl, rfl, hB⟩ := hrel
    by_cases hlt : k < l.length
    · have ik : (k : Int) < (l.length : Int) := by omega
      have hS := taken_take kind pre (pcs l) (k := k) (by rw [pcs_length]; exact hlt)
      have hS1 := taken_big kind pre (pcs l) (k + 1) (by have := HF.out; omega)
      rw [pcs_at hlt] at hS
      have hmem : l[k].c ∈ pcs l := by rw [← pcs_at hlt]; exact List.getElem_mem _
      have hkv : l[k].c.key.length + l[k].c.val.length ≤ 4611686018427387904 := by have := bigK_mem hmem; have := HF.out; omega
      have hpk : ¬ (kind = 3 ∧ k = 0) → pre ≤ l[k].c.key.length := fun h => by rw [← pcs_at hlt]; exact HP.out k (by rw [pcs_length]; exact hlt) h
      obtain ⟨ad, rfl, c0, c1, c2, c3, c4⟩ := (hl.below hB).at_ hlt
      have hx := (hl.below hB).ok _ (List.getElem_mem hlt)
      generalize l[k] = x at *
      obtain ⟨A1, a1, B1, b1, key, ck, val, pg, ct, rfl, _, _⟩ := CV.form hx
      have hlo := fun W hW => Klength_any kind k ⟨.slice A1 key.length a1, .slice B1 val.length b1, ⟨key, ck, val, pg, ct⟩⟩ pre W hW hpk hkv
      unfold cellV at hlo
      have hA := hB.trans ((((Below.refl wr.heap.size wr).alloc (Nat.le_refl _) (.cells #[.slice A1 key.length a1, .int .i64 ck, .slice B1 val.length b1, .int .i64 pg, .int .i64 ct] 50))).mono hB.size)
      have hx' : CV.ok (wr.alloc (.cells #[.slice A1 key.length a1, .int .i64 ck, .slice B1 val.length b1, .int .i64 pg, .int .i64 ct] 50)) ⟨.slice A1 key.length a1, .slice B1 val.length b1, ⟨key, ck, val, pg, ct⟩⟩ := hx.below ((Below.refl _ _).alloc (Nat.le_refl _) _)
      have hS' : takenF kind ((pcs l).take (k + 1)) pre = takenF kind ((pcs l).take k) pre + (2 + (pcF kind k ⟨key, ck, val, pg, ct⟩ pre).length) := hS
      have HS := Lib.hid hS'
      have hS2 : takenF kind ((pcs l).take k) pre + (2 + (pcF kind k ⟨key, ck, val, pg, ct⟩ pre).length) ≤ 9223372036854775000 := by have := HF.out; omega
      generalize takenF kind ((pcs l).take k) pre = s at *
      generalize (pcF kind k ⟨key, ck, val, pg, ct⟩ pre).length = lo at *
      clear hS hS' hS1 hmem hx hB hkv hpk
      go_wp2_with fail
      refine (hlo _ hx').mono ?_
      rintro e w2 ⟨rfl, hb2⟩
      have hB2 := hA.trans (hb2.mono hA.size)
      go_wp2_with fail
      go_roundw
      case rel => exact ⟨k + 1, by omega, by go_num, by rw [HS.out]; go_num, hB2⟩
      case measure => simp [intOf]; omega
    · obtain rfl : k = l.length := by omega
      have e : (pcs l).take l.length = pcs l := List.take_of_length_le (by rw [pcs_length]; omega)
      rw [e]
      go_wp2_with fail
      go_ret
      exact ⟨rfl, hB⟩
end Go.Proofs.Ytaniabhajngdeaa

-- packed.shared, Size: walks.
namespace Go.Proofs.Ytaniabhajngdeaa
open Go.RowKit
theorem RdCs.key_at {w : World} {A : Option Addr} {m c i : Nat} {l : List CV} (h : RdCs w (.slice A m c) l) (hi : i < l.length) :
    ∃ ad B b, A = some ad ∧ w.cell? (ad.add (i * 5)) = some (.slice B l[i].c.key.length b) ∧ RdB w (.slice B l[i].c.key.length b) l[i].c.key := by
  obtain ⟨ad, rfl, c0, -⟩ := h.at_ hi
  have hx := (h.ok _ (List.getElem_mem hi)).k
  obtain ⟨B, b, he, -⟩ := hx.form
  rw [he] at hx c0
  exact ⟨ad, B, b, rfl, c0, hx⟩
theorem RdL.two {w : World} {u v : Value} {a b : List UInt8} (ha : RdB w u a) (hb : RdB w v b) (T : TypeId) : RdL (w.alloc (.cells #[u, v] T)) (.slice (some ⟨w.heap.size, 0, none⟩) 2 2) [a, b] :=
  ⟨[u, v], Rd.lit w [u, v] T (by simp [maxLen]), rfl, fun i hi => by
    rcases (by simp at hi; omega : i = 0 ∨ i = 1) with rfl | rfl
    · exact ⟨u, rfl, ha.alloc _⟩
    · exact ⟨v, rfl, hb.alloc _⟩⟩
theorem comLs_two (a b : List UInt8) : comLs [a, b] = comF a b := by
  show min a.length (comF a b) = _
  have := (comF_le a b).1
  omega
set_option maxRecDepth 100000 in
set_option maxHeartbeats 8000000 in
theorem Kshared_any (kind : Int) (v : Value) (l : List CV) (w : World) (hl : RdCs w v l) :
    Calls Try.prog 43 #[.int .i64 kind, v] w fun e w' => e = .returned (.int .i64 (sharedF kind (pcs l) : Nat)) ∧ Below w.heap.size w w' := by
  obtain ⟨A, c, rfl, hm, hc⟩ := hl.slice
  obtain ⟨s, hs⟩ : ∃ s, sharedF kind (pcs l) = s := ⟨_, rfl⟩
  rw [hs]
  by_cases h3 : kind = 3 ∧ 0 < l.length
  · obtain ⟨rfl, h0⟩ := h3
    have i1 : (0 : Int) < (l.length : Int) := by omega
    obtain ⟨A1, c1, s1, hmr⟩ := hl.run_l 1 (by omega)
    have s1 : ∀ w', (Instr.slice 23 (.slice A l.length c) (some (.int .i64 1)) none none).run Try.prog w' = .ok (.slice A1 (l.length - 1) c1) w' := fun w' => s1 w'
    have hkeys : Hid (s = comLs ((l.drop 1).map fun x => x.c.key)) := Lib.hid (by
      rw [← hs]
      unfold sharedF keysF
      rw [if_pos rfl]
      simp [pcs, List.map_drop, Function.comp_def])
    have hml0 : l.length - 1 = (l.drop 1).length := by simp
    rw [hml0] at s1 hmr
    generalize l.drop 1 = m at *
    clear hml0 hs
    go_enter Try.func43, Try.ntmps43
    go_upto_region 3 with (fail)
    clear s1
    have HK : Hid (s = comLs (m.map fun x => x.c.key)) := hkeys
    cases m with
    | nil =>
      have e0 : s = 0 := by rw [HK.out]; rfl
      subst e0
      clear HK hkeys
      go_wp2_with fail
      go_ret
      exact ⟨rfl, Below.refl _ _⟩
    | cons x r =>
      obtain ⟨ad, B, b, rfl, q0, hkr⟩ := hmr.key_at (i := 0) (by simp)
      have q0 : w.cell? ad = some (.slice B x.c.key.length b) := by simpa [Addr.add] using q0
      have hkr : RdB w (.slice B x.c.key.length b) x.c.key := hkr
      obtain ⟨A2, c2, s2, hr2⟩ := hmr.run_l 1 (by simp)
      have s2 : ∀ w', (Instr.slice 23 (.slice (some ad) (x :: r).length c1) (some (.int .i64 1)) none none).run Try.prog w' = .ok (.slice A2 r.length c2) w' := fun w' => s2 w'
      have hr2 : RdCs w (.slice A2 r.length c2) r := hr2
      have hml : r.length + 1 ≤ 9223372036854775807 := by
        obtain ⟨_, h1, h2⟩ := hmr.len
        simp at h1
        omega
      have hL : (x :: r).length = r.length + 1 := rfl
      rw [hL] at s2 hmr ⊢
      have e0 : (((r.length : Int) + 1) == 0) = false := by simp; omega
      have i0 : (0 : Int) < (r.length : Int) + 1 := by omega
      have hkl : x.c.key.length ≤ 9223372036854775807 := hkr.le
      have HK2 : Hid (s = (r.map fun x => x.c.key).foldl (fun n y => min n (comF x.c.key y)) x.c.key.length) := Lib.hid HK.out
      clear hL hkeys HK
      generalize x.c.key = t at *
      go_wp2_with fail
      clear s2
      go_loopw [5, 28] (fun n i wr => ∃ j N : Nat, i = .int .i64 (j : Int) ∧ n = .int .i64 (N : Int) ∧ j ≤ r.length ∧ Hid (N = ((r.map fun x => x.c.key).take j).foldl (fun n x => min n (comF t x)) t.length ∧ N ≤ t.length) ∧ Below w.heap.size w wr)
        (fun _ i _ => r.length - (intOf i).toNat)
      case atStart => exact ⟨0, t.length, rfl, rfl, Nat.zero_le _, Lib.hid ⟨rfl, Nat.le_refl _⟩, Below.refl _ _⟩
      case round =>
        obtain ⟨j, N, rfl, rfl, hj, HN, hB⟩ := hrel
        have q1 : wr.cell? ad = some (.slice B t.length b) := (hB.cell (World.block_lt_of_cell? w _ q0)).trans q0
        have hkr1 := hkr.below hB (Nat.le_refl _)
        by_cases hlt : j < r.length
        · have ij : (j : Int) < (r.length : Int) := by omega
          have HJ : Hid (((r.map fun x => x.c.key).take (j + 1)).foldl (fun n x => min n (comF t x)) t.length = min N (comF t r[j].c.key)) := Lib.hid (by
            have hj2 : j < (r.map fun x => x.c.key).length := by simpa using hlt
            rw [List.take_succ_eq_append_getElem hj2, List.foldl_append, ← HN.out.1]
            simp)
          obtain ⟨ad2, rfl, c0, c1', c2', c3, c4⟩ := (hr2.below hB).at_ hlt
          have hx := (hr2.below hB).ok _ (List.getElem_mem hlt)
          generalize r[j] = y at *
          obtain ⟨KA, ka, VA, va, key, ck, val, pg, ct, rfl, _, _⟩ := CV.form hx
          have hyk : RdB wr (.slice KA key.length ka) key := hx.k
          simp only at HJ c0 c1' c2' c3 c4
          have hcl := (comF_le t key).1
          have hA : Below wr.heap.size wr (wr.alloc (.cells #[.slice KA key.length ka, .int .i64 ck, .slice VA val.length va, .int .i64 pg, .int .i64 ct] 50)) := (Below.refl _ _).alloc (Nat.le_refl _) _
          have hC := OBlk.new' wr 50 [.slice KA key.length ka, .int .i64 ck, .slice VA val.length va, .int .i64 pg, .int .i64 ct]
          have q2 := (hA.cell (World.block_lt_of_cell? wr _ q1)).trans q1
          have hkr2 := hkr1.below hA (Nat.le_refl _)
          have hyk2 := hyk.below hA (Nat.le_refl _)
          have hBA := hB.trans (hA.mono hB.size)
          clear hx hyk hkr1 q1
          go_upto_region 9 with (fail)
          clear c0 c1' c2' c3 c4
          generalize wr.alloc (.cells #[.slice KA key.length ka, .int .i64 ck, .slice VA val.length va, .int .i64 pg, .int .i64 ct] 50) = w2 at *
          have c0 := hC.cell' (j := 0) rfl
          have hT := Common_any _ _ _ (RdL.two (w := w2.drew) (show RdB w2.drew _ _ from hkr2) (show RdB w2.drew _ _ from hyk2) 29)
          rw [comLs_two] at hT
          have hT := Lib.hid hT
          generalize comF t key = cm at *
          clear hC hA hkr2 hyk2
          have hmin : min (N : Int) (cm : Int) = ((min N cm : Nat) : Int) := by omega
          go_region_law
            (first
              | (go_simp; go_at_call 81; refine hT.out.mono ?_; rintro e w4 ⟨rfl, hw4⟩)
              | fail)
          all_goals
            have hB4 : Below w.heap.size w w4 := hBA.trans ((((Below.refl w2.heap.size w2).drew).alloc (Nat.le_refl _) (.cells #[.slice B t.length b, .slice KA key.length ka] 29)).trans (hw4.mono (by simp)) |>.mono hBA.size)
            go_wp2_with fail
            go_roundw
            case rel =>
              refine ⟨j + 1, min N cm, by go_num, ?_, by omega, Lib.hid ⟨HJ.out.symm, by have := HN.out.2; omega⟩, hB4⟩
              first
                | rfl
                | (rw [← hmin]; rfl)
                | (congr 1; omega)
            case measure => simp [intOf]; omega
        · obtain rfl : j = r.length := by omega
          have ij : ¬ (r.length : Int) < (r.length : Int) := by omega
          have hfin : s = N := by
            rw [HK2.out, HN.out.1, List.take_of_length_le (by simp)]
          subst hfin
          go_wp2_with fail
          go_ret
          exact ⟨rfl, hB⟩
  · by_cases hk : kind = 3
    · subst hk
      have h0 : l = [] := by
        rcases Nat.eq_zero_or_pos l.length with e | e
        · exact List.eq_nil_of_length_eq_zero e
        · exact absurd ⟨rfl, e⟩ h3
      subst h0
      have e0 : s = 0 := by rw [← hs]; rfl
      subst e0
      clear hs h3
      go_enter Try.func43, Try.ntmps43
      go_wp2_with fail
      go_ret
      exact ⟨rfl, Below.refl _ _⟩
    · have e3 : (kind == 3) = false := beq_eq_false_iff_ne.2 hk
      have hkeys : Hid (s = comLs (l.map fun x => x.c.key)) := Lib.hid (by
        rw [← hs]
        unfold sharedF keysF
        rw [if_neg hk]
        simp [pcs, Function.comp_def])
      have hmr := hl
      clear hs hk h3
      go_enter Try.func43, Try.ntmps43
      go_upto_region 3 with (fail)
      have HK : Hid (s = comLs (l.map fun x => x.c.key)) := hkeys
      cases l with
      | nil =>
        have e0 : s = 0 := by rw [HK.out]; rfl
        subst e0
        clear HK hkeys
        go_wp2_with fail
        go_ret
        exact ⟨rfl, Below.refl _ _⟩
      | cons x r =>
        obtain ⟨ad, B, b, rfl, q0, hkr⟩ := hmr.key_at (i := 0) (by simp)
        have q0 : w.cell? ad = some (.slice B x.c.key.length b) := by simpa [Addr.add] using q0
        have hkr : RdB w (.slice B x.c.key.length b) x.c.key := hkr
        obtain ⟨A2, c2, s2, hr2⟩ := hmr.run_l 1 (by simp)
        have s2 : ∀ w', (Instr.slice 23 (.slice (some ad) (x :: r).length c) (some (.int .i64 1)) none none).run Try.prog w' = .ok (.slice A2 r.length c2) w' := fun w' => s2 w'
        have hr2 : RdCs w (.slice A2 r.length c2) r := hr2
        have hml : r.length + 1 ≤ 9223372036854775807 := by
          obtain ⟨_, h1, h2⟩ := hmr.len
          simp at h1
          omega
        have hL : (x :: r).length = r.length + 1 := rfl
        rw [hL] at s2 hmr ⊢
        have e0 : (((r.length : Int) + 1) == 0) = false := by simp; omega
        have i0 : (0 : Int) < (r.length : Int) + 1 := by omega
        have hkl : x.c.key.length ≤ 9223372036854775807 := hkr.le
        have HK2 : Hid (s = (r.map fun x => x.c.key).foldl (fun n y => min n (comF x.c.key y)) x.c.key.length) := Lib.hid HK.out
        clear hL hkeys HK
        generalize x.c.key = t at *
        go_wp2_with fail
        clear s2
        go_loopw [5, 28] (fun n i wr => ∃ j N : Nat, i = .int .i64 (j : Int) ∧ n = .int .i64 (N : Int) ∧ j ≤ r.length ∧ Hid (N = ((r.map fun x => x.c.key).take j).foldl (fun n x => min n (comF t x)) t.length ∧ N ≤ t.length) ∧ Below w.heap.size w wr)
          (fun _ i _ => r.length - (intOf i).toNat)
        case atStart => exact ⟨0, t.length, rfl, rfl, Nat.zero_le _, Lib.hid ⟨rfl, Nat.le_refl _⟩, Below.refl _ _⟩
        case round =>
          obtain ⟨j, N, rfl, rfl, hj, HN, hB⟩ := hrel
          have q1 : wr.cell? ad = some (.slice B t.length b) := (hB.cell (World.block_lt_of_cell? w _ q0)).trans q0
          have hkr1 := hkr.below hB (Nat.le_refl _)
          by_cases hlt : j < r.length
          · have ij : (j : Int) < (r.length : Int) := by omega
            have HJ : Hid (((r.map fun x => x.c.key).take (j + 1)).foldl (fun n x => min n (comF t x)) t.length = min N (comF t r[j].c.key)) := Lib.hid (by
              have hj2 : j < (r.map fun x => x.c.key).length := by simpa using hlt
              rw [List.take_succ_eq_append_getElem hj2, List.foldl_append, ← HN.out.1]
              simp)
            obtain ⟨ad2, rfl, c0, c', c2', c3, c4⟩ := (hr2.below hB).at_ hlt
            have hx := (hr2.below hB).ok _ (List.getElem_mem hlt)
            generalize r[j] = y at *
            obtain ⟨KA, ka, VA, va, key, ck, val, pg, ct, rfl, _, _⟩ := CV.form hx
            have hyk : RdB wr (.slice KA key.length ka) key := hx.k
            simp only at HJ c0 c' c2' c3 c4
            have hcl := (comF_le t key).1
            have hA : Below wr.heap.size wr (wr.alloc (.cells #[.slice KA key.length ka, .int .i64 ck, .slice VA val.length va, .int .i64 pg, .int .i64 ct] 50)) := (Below.refl _ _).alloc (Nat.le_refl _) _
            have hC := OBlk.new' wr 50 [.slice KA key.length ka, .int .i64 ck, .slice VA val.length va, .int .i64 pg, .int .i64 ct]
            have q2 := (hA.cell (World.block_lt_of_cell? wr _ q1)).trans q1
            have hkr2 := hkr1.below hA (Nat.le_refl _)
            have hyk2 := hyk.below hA (Nat.le_refl _)
            have hBA := hB.trans (hA.mono hB.size)
            clear hx hyk hkr1 q1
            go_upto_region 9 with (fail)
            clear c0 c' c2' c3 c4
            generalize wr.alloc (.cells #[.slice KA key.length ka, .int .i64 ck, .slice VA val.length va, .int .i64 pg, .int .i64 ct] 50) = w2 at *
            have c0 := hC.cell' (j := 0) rfl
            have hT := Common_any _ _ _ (RdL.two (w := w2.drew) (show RdB w2.drew _ _ from hkr2) (show RdB w2.drew _ _ from hyk2) 29)
            rw [comLs_two] at hT
            have hT := Lib.hid hT
            generalize comF t key = cm at *
            clear hC hA hkr2 hyk2
            have hmin : min (N : Int) (cm : Int) = ((min N cm : Nat) : Int) := by omega
            go_region_law
              (first
                | (go_simp; go_at_call 81; refine hT.out.mono ?_; rintro e w4 ⟨rfl, hw4⟩)
                | fail)
            all_goals
              have hB4 : Below w.heap.size w w4 := hBA.trans ((((Below.refl w2.heap.size w2).drew).alloc (Nat.le_refl _) (.cells #[.slice B t.length b, .slice KA key.length ka] 29)).trans (hw4.mono (by simp)) |>.mono hBA.size)
              go_wp2_with fail
              go_roundw
              case rel =>
                refine ⟨j + 1, min N cm, by go_num, ?_, by omega, Lib.hid ⟨HJ.out.symm, by have := HN.out.2; omega⟩, hB4⟩
                first
                  | rfl
                  | (rw [← hmin]; rfl)
                  | (congr 1; omega)
              case measure => simp [intOf]; omega
          · obtain rfl : j = r.length := by omega
            have ij : ¬ (r.length : Int) < (r.length : Int) := by omega
            have hfin : s = N := by
              rw [HK2.out, HN.out.1, List.take_of_length_le (by simp)]
            subst hfin
            go_wp2_with fail
            go_ret
            exact ⟨rfl, hB⟩
set_option maxRecDepth 100000 in
set_option maxHeartbeats 1000000 in
theorem KSize_any (kind : Int) (v : Value) (l : List CV) (w : World) (hl : RdCs w v l) (hf : bigK (pcs l) ≤ 1152921504606846976) :
    Calls Try.prog 13 #[.int .i64 kind, v] w fun e w' => e = .returned (.int .i64 (psizeF kind (pcs l) : Nat)) ∧ Below w.heap.size w w' := by
  have h1 := Kshared_any kind v l w hl
  have hpk : ∀ (i : Nat) (hi : i < (pcs l).length), ¬ (kind = 3 ∧ i = 0) → sharedF kind (pcs l) ≤ (pcs l)[i].key.length := fun i hi hn => (key_split (kind := kind) hi hn).1
  have hsb : sharedF kind (pcs l) ≤ 2305843009213693952 := by
    rcases Nat.eq_zero_or_pos (sharedF kind (pcs l)) with e | e
    · omega
    · obtain ⟨i, hi, hn⟩ := sharedF_pos e
      have h2 := hpk i hi hn
      have h3 := bigK_mem (List.getElem_mem hi)
      omega
  have h2 := fun W hW => Ktaken_any kind v l (sharedF kind (pcs l)) W hW (by omega) hsb hpk
  unfold psizeF
  clear hpk hsb
  obtain ⟨A, c, rfl, -, -⟩ := hl.slice
  generalize sharedF kind (pcs l) = s at *
  go_enter Try.func13, Try.ntmps13
  go_wp2_with (first
    | (go_at_call 43; (with_reducible refine h1.mono ?_); rintro e w1 ⟨rfl, hb1⟩)
    | (go_at_call 42; (with_reducible refine (h2 _ (hl.below hb1)).mono ?_); rintro e w2 ⟨rfl, hb2⟩)
    | fail)
  go_ret
  exact ⟨rfl, hb1.trans (hb2.mono hb1.size)⟩
end Go.Proofs.Ytaniabhajngdeaa

-- ink.half: the walk.
namespace Go.Proofs.Ytaniabhajngdeaa
open Go.RowKit


/-! ### half, Sum -/
theorem halfTab_at (k : Nat) (h : k < 16) : [Value.int IntKind.u32 0, Value.int IntKind.u32 274646895, Value.int IntKind.u32 549293790,
              Value.int IntKind.u32 820201905, Value.int IntKind.u32 1098587580, Value.int IntKind.u32 1361435347,
              Value.int IntKind.u32 1640403810, Value.int IntKind.u32 1905808397, Value.int IntKind.u32 2197175160,
              Value.int IntKind.u32 2460548119, Value.int IntKind.u32 2722870694, Value.int IntKind.u32 2987750089,
              Value.int IntKind.u32 3280807620, Value.int IntKind.u32 3553878443, Value.int IntKind.u32 3811616794,
              Value.int IntKind.u32 4084100981][k]? = some (.int .u32 (halfTab.getD k 0 : Nat)) := by
  match k, h with
  | 0, _ | 1, _ | 2, _ | 3, _ | 4, _ | 5, _ | 6, _ | 7, _ | 8, _ | 9, _ | 10, _ | 11, _ | 12, _ | 13, _ | 14, _ | 15, _ => rfl
  | k + 16, h => omega
set_option maxHeartbeats 400000 in
theorem half_any (r : Nat) (h : r < 4294967296) (w : World) :
    Calls Try.prog 86 #[.int .u32 r] w fun e w' => e = .returned (.int .u32 (halfF r : Nat)) ∧ Below w.heap.size w w' := by
  have hb : bits .and .u32 (r : Int) 15 = ((r % 16 : Nat) : Int) := by rw [← nat_mask4]; exact u32_and_nat r 15 h (by omega)
  have h1 : (0 : Int) ≤ ((r % 16 : Nat) : Int) := by omega
  have h2 : ((r % 16 : Nat) : Int) < 16 := by omega
  have ht := halfTab_at (r % 16) (by omega)
  rw [show halfTab.getD (r % 16) 0 = halfF r from rfl] at ht
  go_enter Try.func86, Try.ntmps86
  go_wp2
  go_ret
  exact ⟨rfl, (Below.refl _ _).alloc (Nat.le_refl _) _⟩
end Go.Proofs.Ytaniabhajngdeaa

-- ink.Sum: the walk.
namespace Go.Proofs.Ytaniabhajngdeaa
open Go.RowKit
def halfC (r : Nat) : Nat := halfF r ^^^ r / 16
theorem halfC_lt (r : Nat) (h : r < 4294967296) : halfC r < 4294967296 := Nat.xor_lt_two_pow (n := 32) (halfF_lt r) (by omega)
theorem crcByte_half (r : Nat) (x : UInt8) : crcByte r x = halfC (halfC (r ^^^ x.toNat)) := crcByte_eq r x
theorem xor_half (r : Nat) (h : r < 4294967296) : bits .xor .u32 (halfF r : Nat) ((r : Int) / 16) = (halfC r : Nat) := by
  exact u32_xor_nat (halfF r) (r / 16) (halfF_lt r) (by omega)
theorem not_u32 (r : Nat) (h : r < 4294967296) : bits .xor .u32 IntKind.u32.max (r : Int) = ((r ^^^ 4294967295 : Nat) : Int) := by
  rw [Nat.xor_comm]; exact u32_xor_nat 4294967295 r (by omega) h
set_option maxHeartbeats 400000 in
theorem Sum_any (v : Value) (ls : List (List UInt8)) (w : World) (hv : RdL w v ls) :
    Calls Try.prog 52 #[v] w fun e w' => e = .returned (.int .u32 (sumF ls.flatten : Nat)) ∧ Below w.heap.size w w' := by
  obtain ⟨A, c, rfl, hm⟩ := hv.form
  go_enter Try.func52, Try.ntmps52
  go_wp2
  go_loopw [3, 10] (fun r i wr => ∃ (k : Nat), i = .int .i64 (k : Int) ∧ k ≤ ls.length ∧ r = .int .u32 (crcF 4294967295 (ls.take k).flatten : Nat) ∧ Below w.heap.size w wr)
    (fun _ i _ => ls.length - (intOf i).toNat)
  case atStart => exact ⟨0, rfl, Nat.zero_le _, rfl, Below.refl _ _⟩
  case round =>
    obtain ⟨k, rfl, hk, rfl, hw⟩ := hrel
    by_cases hlt : k < ls.length
    · obtain ⟨ad, A2, c2, rfl, hcell, hru0⟩ := (hv.below hw (Nat.le_refl _)).at_ hlt
      have hm2 := hru0.le
      have hfl := flat_snoc ls k hlt
      have HF := Lib.hid hfl
      generalize ls[k] = l at *
      clear hfl
      go_wp2
      obtain ⟨wo, rfl⟩ : ∃ wo : World, wo = wr := ⟨_, rfl⟩
      go_loopw [3, 16] (fun r i wi => ∃ (j : Nat), i = .int .i64 (j : Int) ∧ j ≤ l.length ∧ r = .int .u32 (crcF (crcF 4294967295 (ls.take k).flatten) (l.take j) : Nat) ∧ Below wo.heap.size wo wi)
        (fun _ i _ => l.length - (intOf i).toNat)
      case atStart => exact ⟨0, rfl, Nat.zero_le _, rfl, Below.refl _ _⟩
      case round =>
        obtain ⟨j, rfl, hj, rfl, hwi⟩ := hrel
        have hr0 : crcF (crcF 4294967295 (ls.take k).flatten) (l.take j) < 4294967296 := crcF_lt _ _ (crcF_lt _ _ (by omega))
        by_cases hjl : j < l.length
        · obtain ⟨ad2, hA2, hcell2⟩ := (hru0.below hwi (Nat.le_refl _)).at_ hjl
          subst hA2
          have hsn : crcF (crcF 4294967295 (ls.take k).flatten) (l.take (j + 1)) = halfC (halfC (crcF (crcF 4294967295 (ls.take k).flatten) (l.take j) ^^^ l[j].toNat)) := by
            rw [List.take_succ_eq_append_getElem hjl, crcF_snoc, crcByte_half]
          have HS := Lib.hid hsn
          clear hsn
          have hx := u32_xor_nat _ l[j].toNat hr0 (by have := l[j].toNat_lt; omega)
          have hx1 : crcF (crcF 4294967295 (ls.take k).flatten) (l.take j) ^^^ l[j].toNat < 4294967296 := Nat.xor_lt_two_pow (n := 32) hr0 (by have := l[j].toNat_lt; omega)
          have hxb : l[j].toNat < 256 := l[j].toNat_lt
          generalize crcF (crcF 4294967295 (ls.take k).flatten) (l.take j) = r at *
          generalize l[j].toNat = x at *
          generalize r ^^^ x = y at *
          have hy1 := xor_half y hx1
          have hy2 := xor_half (halfC y) (halfC_lt y hx1)
          go_wp2_with fail
          refine (half_any y hx1 _).mono ?_
          rintro e w1 ⟨rfl, hb1⟩
          go_wp2_with fail
          refine (half_any (halfC y) (halfC_lt y hx1) _).mono ?_
          rintro e w2 ⟨rfl, hb2⟩
          go_wp2
          go_roundw
          case rel => exact ⟨j + 1, by go_num, by omega, by rw [HS.out], hwi.trans (((hb1.mono hwi.size)).trans (hb2.mono (Nat.le_trans hwi.size hb1.size)))⟩
          case measure => simp [intOf]; omega
        · obtain rfl : j = l.length := by omega
          rw [List.take_length] at *
          have hz : crcF (crcF 4294967295 (ls.take k).flatten) l = crcF 4294967295 (ls.take (k + 1)).flatten := by rw [HF.out, crcF_append]
          rw [hz]
          clear hz
          go_wp2
          go_roundw
          case rel => exact ⟨k + 1, by go_num, by omega, rfl, hw.trans (hwi.mono hw.size)⟩
          case measure => simp [intOf]; omega
    · obtain rfl : k = ls.length := by omega
      rw [List.take_length]
      have hr0 : crcF 4294967295 ls.flatten < 4294967296 := crcF_lt _ _ (by omega)
      have hn := not_u32 _ hr0
      rw [show crcF 4294967295 ls.flatten ^^^ 4294967295 = sumF ls.flatten from rfl] at hn
      go_wp2
      go_ret
      exact ⟨rfl, hw⟩
end Go.Proofs.Ytaniabhajngdeaa

-- Helpers for the writing of pages: plain laws of splice, and short forms of ink's contracts.
namespace Go.Proofs.Ytaniabhajngdeaa
open Go.RowKit
theorem splice_splice (L a b : List UInt8) (o : Nat) (h : o + a.length + b.length ≤ L.length) : splice (splice L o a) (o + a.length) b = splice L o (a ++ b) := by
  have h1 : (L.take o ++ a).length = o + a.length := by simp; omega
  have e0 : splice L o a = (L.take o ++ a) ++ L.drop (o + a.length) := by unfold splice; rw [List.append_assoc]
  have e1 : (splice L o a).take (o + a.length) = L.take o ++ a := by rw [e0, List.take_left' h1]
  have e2 : (splice L o a).drop (o + a.length + b.length) = L.drop (o + a.length + b.length) := by
    rw [e0, List.drop_append, h1, List.drop_of_length_le (by omega), List.nil_append, List.drop_drop]
    congr 1; omega
  show (splice L o a).take (o + a.length) ++ (b ++ (splice L o a).drop (o + a.length + b.length)) = _
  rw [e1, e2]
  unfold splice
  rw [List.length_append, Nat.add_assoc]
  simp only [List.append_assoc]
theorem splice_length {L a : List UInt8} {o : Nat} (h : o + a.length ≤ L.length) : (splice L o a).length = L.length := by
  unfold splice; simp; omega
theorem splice_next (L a b : List UInt8) (o d n : Nat) (hd : d = o + a.length) (hn : b.length ≤ n) (h : o + a.length + b.length ≤ L.length) : splice (splice L o a) d (b.take (min b.length n)) = splice L o (a ++ b) := by
  rw [Nat.min_eq_left hn, List.take_length, hd, splice_splice L a b o h]
theorem Fixed_2 (n : Nat) (hn : n < 18446744073709551616) (w : World) : Calls Try.prog 50 #[.int .u64 n, .int .i64 2] w fun e w' => e = .returned (.slice (some ⟨w.heap.size, 0, none⟩) 2 2) ∧ OBlk w' w.heap.size 5 (bvs (fixedF n 2)) ∧ Below w.heap.size w w' ∧ w'.heap.size = w.heap.size + 1 := Fixed_any n hn 2 (by omega) (by omega) w
theorem splice_mid (pre mid post new : List UInt8) (o : Nat) (ho : pre.length = o) (h : mid.length = new.length) : splice (pre ++ (mid ++ post)) o new = pre ++ (new ++ post) := by
  unfold splice
  rw [List.take_left' ho, List.drop_append, ho, List.drop_of_length_le (by omega), List.nil_append, show o + new.length - o = new.length by omega, ← h, List.drop_left' rfl]
theorem RdB.slice0 {w : World} {g n c : Nat} {L : List UInt8} (h : OBlk w g 5 (bvs L)) (hn : n ≤ L.length) (hc : L.length = c) (hm : c ≤ 140737488355328) : RdB w (.slice (some ⟨g, 0, none⟩) n c) (L.take n) := by
  have := (h.owB (base := 0) (Nat.zero_le _) (by simp only [maxLen]; omega) (n := n) hn).rd
  rw [hc] at this
  exact this
theorem Sum_one (v : Value) (l : List UInt8) (w : World) (g : Nat) (hv : RdL w v [l]) : Calls Try.prog 52 #[v] w fun e w' => e = .returned (.int .u32 (sumF l : Nat)) ∧ Below w.heap.size w w' := by
  have := Sum_any v [l] w hv
  simpa using this
theorem okc_fit {P : Nat} {c : PC} (h : OkC P c) (hP : P ≤ 65536) : c.key.length + c.val.length ≤ 131072 := by
  have h1 := h.k0
  have h2 := h.v0
  have h3 := h.v1
  by_cases h : c.kind = 1
  · have := (h2 h).1; omega
  · rw [(h3 h).1]; simp; omega
theorem prevK_zero (l : List PC) : prevK l 0 = none := rfl
theorem prevK_succ (l : List PC) {i : Nat} (hi : i < l.length) : prevK l (i + 1) = some l[i].key := by
  unfold prevK
  rw [if_neg (by omega)]
  simp [List.getD, hi]
end Go.Proofs.Ytaniabhajngdeaa
