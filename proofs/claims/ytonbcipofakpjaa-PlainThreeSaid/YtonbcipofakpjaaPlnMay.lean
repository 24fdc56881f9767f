/- plain.may, plain.long: walks. -/
import Derived.Test.YtonbcipofakpjaaPlnA
import Derived.Deep.CutRange
import Derived.Deep.DeepCutAuto
namespace Go.Proofs.Ytonbcipofakpjaa
open Go.RowKit
theorem below_drewN {B : Nat} {w w' : World} (h : Below B w w') : ∀ n, Below B w (w'.drewN n)
  | 0 => h
  | n + 1 => (below_drewN h n).drew
set_option maxRecDepth 100000 in
set_option maxHeartbeats 4000000 in
theorem long_any (x : CV) (w : World) (hx : x.ok w) (hl : x.c.key.length + x.c.val.length ≤ 9223372036854775000) : Calls Try.prog 53 #[cellV x] w fun e w' => e = .returned (.int .i64 (longF x.c : Nat)) ∧ Below w.heap.size w w' := by
  obtain ⟨kv, vv, key, kind, val, pg, ct⟩ := x
  obtain ⟨A, ca, hkv, hka⟩ := hx.k.form
  obtain ⟨B, cb, hvv, hvb⟩ := hx.v.form
  simp only at hkv hvv hka hvb hl
  subst hkv hvv
  have hA : Below w.heap.size w (w.alloc (.cells #[.slice A key.length ca, .int .i64 kind, .slice B val.length cb, .int .i64 pg, .int .i64 ct] 32)) := (Below.refl _ _).alloc (Nat.le_refl _) _
  obtain ⟨c0, c1, c2, c3, c4⟩ := cells5 (OBlk.new' w 32 [.slice A key.length ca, .int .i64 kind, .slice B val.length cb, .int .i64 pg, .int .i64 ct])
  by_cases h1 : kind = 1
  · subst h1
    unfold cellV
    go_enter Try.func53, Try.ntmps53
    go_wp2_with fail
    go_ret
    exact ⟨by unfold longF; rw [if_pos rfl]; go_num, hA⟩
  · have hb : (kind == 1) = false := beq_eq_false_iff_ne.2 h1
    have HL : Hid (longF ⟨key, kind, val, pg, ct⟩ = 11 + key.length) := by show _ = _; unfold longF; rw [if_neg h1]
    clear h1
    unfold cellV
    go_enter Try.func53, Try.ntmps53
    go_wp2_with fail
    go_ret
    exact ⟨by rw [HL.out]; go_num, hA⟩
set_option maxRecDepth 100000 in
set_option maxHeartbeats 4000000 in
theorem may_any (x : CV) (kind : Int) (P : Nat) (hP : P ≤ 65536) (w : World) (hx : x.ok w) : Calls Try.prog 50 #[.int .i64 kind, .int .i64 (P : Int), cellV x] w fun e w' => e = .returned (.bool (mayP kind P x.c)) ∧ Below w.heap.size w w' := by
  obtain ⟨kv, vv, key, ck, val, pg, ct⟩ := x
  obtain ⟨A, ca, hkv, hka⟩ := hx.k.form
  obtain ⟨B, cb, hvv, hvb⟩ := hx.v.form
  simp only at hkv hvv hka hvb
  subst hkv hvv
  have hA : Below w.heap.size w (w.alloc (.cells #[.slice A key.length ca, .int .i64 ck, .slice B val.length cb, .int .i64 pg, .int .i64 ct] 32)) := (Below.refl _ _).alloc (Nat.le_refl _) _
  obtain ⟨c0, c1, c2, c3, c4⟩ := cells5 (OBlk.new' w 32 [.slice A key.length ca, .int .i64 ck, .slice B val.length cb, .int .i64 pg, .int .i64 ct])
  unfold cellV
  go_enter Try.func50, Try.ntmps50
  go_upto_region 1 with (fail)
  go_cut [7, 8] (fun a b wx => a = .bool (decide (childP ⟨key, ck, val, pg, ct⟩)) ∧ b = .bool (decide (thereP ⟨key, ck, val, pg, ct⟩)) ∧ ∃ m, wx = (w.alloc (.cells #[.slice A key.length ca, .int .i64 ck, .slice B val.length cb, .int .i64 pg, .int .i64 ct] 32)).drewN m)
  case first =>
    have HCH : Hid (decide (childP ⟨key, ck, val, pg, ct⟩) = (decide (2 ≤ pg) && decide (pg < 65536))) := by
      show _ = _
      rw [Bool.eq_iff_iff, Bool.and_eq_true, decide_eq_true_iff, decide_eq_true_iff, decide_eq_true_iff]; exact Iff.rfl
    have HTH : Hid (decide (thereP ⟨key, ck, val, pg, ct⟩) = ((pg == 0) && (ct == 0))) := by
      show _ = _
      rw [Bool.eq_iff_iff, Bool.and_eq_true, decide_eq_true_iff, beq_iff_eq, beq_iff_eq]; exact Iff.rfl
    by_cases a1 : 2 ≤ pg
    · have e1 : (pg == 0) = false := beq_eq_false_iff_ne.2 (by omega)
      by_cases a2 : pg < 65536
      · go_region
        go_wp2_with fail
        go_meet
        exact ⟨by rw [HCH.out]; simp [a1, a2], by rw [HTH.out]; simp [e1], 1, rfl⟩
      · go_region
        go_wp2_with fail
        go_meet
        exact ⟨by rw [HCH.out, decide_eq_false (show ¬ pg < 65536 by omega), Bool.and_false], by rw [HTH.out]; simp [e1], 1, rfl⟩
    · by_cases a3 : pg = 0
      · subst a3
        rcases Bool.eq_false_or_eq_true (ct == 0) with a4 | a4
        · go_region
          go_wp2_with fail
          go_meet
          exact ⟨by rw [HCH.out]; simp, by rw [HTH.out]; simp [a4], 1, rfl⟩
        · go_region
          go_wp2_with fail
          go_meet
          exact ⟨by rw [HCH.out]; simp, by rw [HTH.out]; simp [a4], 1, rfl⟩
      · have e1 : (pg == 0) = false := beq_eq_false_iff_ne.2 a3
        clear a3
        go_region
        go_wp2_with fail
        go_meet
        exact ⟨by rw [HCH.out, decide_eq_false (show ¬ 2 ≤ pg by omega), Bool.false_and], by rw [HTH.out]; simp [e1], 1, rfl⟩
  case rest =>
    obtain ⟨rfl, rfl, m, rfl⟩ := hcut
    have HM : ∀ bd : Bool, bd = decide (P / 8 < key.length ∨ (kind = 2 ∧ key.length = 0) ∨ (ck ≠ 1 ∧ 0 < val.length)) → Hid (mayP kind P ⟨key, ck, val, pg, ct⟩ = bif bd then false
      else if kind = 3 then (ck == 3) && (decide (childP ⟨key, ck, val, pg, ct⟩) && (decide (1 ≤ ct) && decide (ct ≤ 1073741824)))
      else if ck = 1 then decide (thereP ⟨key, ck, val, pg, ct⟩) && decide (val.length ≤ P / 16 * 3)
      else if ck = 2 then decide (childP ⟨key, ck, val, pg, ct⟩) && (decide ((P : Int) / 16 * 3 < ct) && decide (ct ≤ 65536))
      else if ck = 4 then decide (thereP ⟨key, ck, val, pg, ct⟩) || (decide (childP ⟨key, ck, val, pg, ct⟩) && (decide (1 ≤ ct) && decide (ct ≤ 1073741824)))
      else false) := by
      intro bd hbd
      show _ = _
      unfold mayP
      by_cases hc : P / 8 < key.length ∨ (kind = 2 ∧ key.length = 0) ∨ (ck ≠ 1 ∧ 0 < val.length)
      · rw [if_pos hc, hbd, decide_eq_true hc]; rfl
      · rw [if_neg hc, hbd, decide_eq_false hc]
        simp only [Bool.cond_false, Bool.decide_and, Bool.decide_or]
        rfl
    go_upto_region 2 with (fail)
    go_cut [51] (fun s wx => s = .bool (decide (P / 8 < key.length ∨ (kind = 2 ∧ key.length = 0) ∨ (ck ≠ 1 ∧ 0 < val.length))) ∧ ∃ m, wx = (w.alloc (.cells #[.slice A key.length ca, .int .i64 ck, .slice B val.length cb, .int .i64 pg, .int .i64 ct] 32)).drewN m)
    case first =>
      clear HM
      generalize decide (childP ⟨key, ck, val, pg, ct⟩) = ch at *
      generalize decide (thereP ⟨key, ck, val, pg, ct⟩) = th at *
      by_cases b1 : P / 8 < key.length
      · have b1i : (P : Int) / 8 < (key.length : Int) := by omega
        go_wp2_with fail
        go_meet
        refine ⟨?_, m, ?_⟩
        · first | (simp [b1, b1i]; done) | (simp [b1, b1i]; omega)
        · rfl
      · have b1i : ¬ ((P : Int) / 8 < (key.length : Int)) := by omega
        by_cases q2 : kind = 2
        · subst q2
          rcases Bool.eq_false_or_eq_true (((key.length : Nat) : Int) == 0) with z0 | z0
          · skip
            go_wp2_with fail
            go_meet
            refine ⟨?_, m, ?_⟩
            · first | (simp [b1, b1i, z0, (show key = [] by simpa using z0)]; done) | (simp [b1, b1i, z0, (show key = [] by simpa using z0)]; omega)
            · rfl
          · have z1 : ¬ key = [] := by simpa using z0
            by_cases k1 : ck = 1
            · subst k1
              go_wp2_with fail
              go_meet
              refine ⟨?_, m, ?_⟩
              · first | (simp [b1, b1i, z0, z1]; done) | (simp [b1, b1i, z0, z1]; omega)
              · rfl
            · have k1b : (ck == 1) = false := beq_eq_false_iff_ne.2 k1
              have k1c : (ck != 1) = true := by rw [bne, k1b]; rfl
              by_cases v0 : 0 < val.length
              · have v0i : (0 : Int) < (val.length : Int) := by omega
                go_wp2_with fail
                go_meet
                refine ⟨?_, m, ?_⟩
                · first | (simp [b1, b1i, z0, z1, k1, k1b, v0, v0i]; done) | (simp [b1, b1i, z0, z1, k1, k1b, v0, v0i]; omega)
                · rfl
              · have v0i : ¬ ((0 : Int) < (val.length : Int)) := by omega
                go_wp2_with fail
                go_meet
                refine ⟨?_, m, ?_⟩
                · first | (simp [b1, b1i, z0, z1, k1, k1b, v0, v0i]; done) | (simp [b1, b1i, z0, z1, k1, k1b, v0, v0i]; omega)
                · rfl
        · have q2b : (kind == 2) = false := beq_eq_false_iff_ne.2 q2
          have q2c : (kind != 2) = true := by rw [bne, q2b]; rfl
          by_cases k1 : ck = 1
          · subst k1
            go_wp2_with fail
            go_meet
            refine ⟨?_, m, ?_⟩
            · first | (simp [b1, b1i, q2, q2b]; done) | (simp [b1, b1i, q2, q2b]; omega)
            · rfl
          · have k1b : (ck == 1) = false := beq_eq_false_iff_ne.2 k1
            have k1c : (ck != 1) = true := by rw [bne, k1b]; rfl
            by_cases v0 : 0 < val.length
            · have v0i : (0 : Int) < (val.length : Int) := by omega
              go_wp2_with fail
              go_meet
              refine ⟨?_, m, ?_⟩
              · first | (simp [b1, b1i, q2, q2b, k1, k1b, v0, v0i]; done) | (simp [b1, b1i, q2, q2b, k1, k1b, v0, v0i]; omega)
              · rfl
            · have v0i : ¬ ((0 : Int) < (val.length : Int)) := by omega
              go_wp2_with fail
              go_meet
              refine ⟨?_, m, ?_⟩
              · first | (simp [b1, b1i, q2, q2b, k1, k1b, v0, v0i]; done) | (simp [b1, b1i, q2, q2b, k1, k1b, v0, v0i]; omega)
              · rfl
    case rest =>
      obtain ⟨rfl, m, rfl⟩ := hcut
      have HM := HM _ rfl
      generalize decide (P / 8 < key.length ∨ (kind = 2 ∧ key.length = 0) ∨ (ck ≠ 1 ∧ 0 < val.length)) = bd at *
      generalize decide (childP ⟨key, ck, val, pg, ct⟩) = ch at *
      generalize decide (thereP ⟨key, ck, val, pg, ct⟩) = th at *
      cases bd with
      | true =>
        go_wp2_with fail
        go_ret
        refine ⟨?_, below_drewN hA m⟩
        rw [HM.out]
        first | (simp []; done) | (simp []; omega)
      | false =>
        by_cases q3 : kind = 3
        · subst q3
          by_cases k3 : ck = 3
          · subst k3
            cases ch with
            | true =>
              by_cases d1 : 1 ≤ ct
              · skip
                by_cases d2 : ct ≤ 1073741824
                · skip
                  go_wp2_with fail
                  go_ret
                  refine ⟨?_, below_drewN hA m⟩
                  rw [HM.out]
                  first | (simp [d1, d2]; done) | (simp [d1, d2]; omega)
                · skip
                  go_wp2_with fail
                  go_ret
                  refine ⟨?_, below_drewN hA m⟩
                  rw [HM.out]
                  first | (simp [d1, d2]; done) | (simp [d1, d2]; omega)
              · skip
                go_wp2_with fail
                go_ret
                refine ⟨?_, below_drewN hA m⟩
                rw [HM.out]
                first | (simp [d1]; done) | (simp [d1]; omega)
            | false =>
              go_wp2_with fail
              go_ret
              refine ⟨?_, below_drewN hA m⟩
              rw [HM.out]
              first | (simp []; done) | (simp []; omega)
          · have k3b : (ck == 3) = false := beq_eq_false_iff_ne.2 k3
            have k3c : (ck != 3) = true := by rw [bne, k3b]; rfl
            go_wp2_with fail
            go_ret
            refine ⟨?_, below_drewN hA m⟩
            rw [HM.out]
            first | (simp [k3, k3b]; done) | (simp [k3, k3b]; omega)
        · have q3b : (kind == 3) = false := beq_eq_false_iff_ne.2 q3
          have q3c : (kind != 3) = true := by rw [bne, q3b]; rfl
          by_cases k1 : ck = 1
          · subst k1
            cases th with
            | true =>
              by_cases v2 : val.length ≤ P / 16 * 3
              · have v2i : (val.length : Int) ≤ (P : Int) / 16 * 3 := by omega
                go_wp2_with fail
                go_ret
                refine ⟨?_, below_drewN hA m⟩
                rw [HM.out]
                first | (simp [q3, q3b, v2, v2i]; done) | (simp [q3, q3b, v2, v2i]; omega)
              · have v2i : ¬ ((val.length : Int) ≤ (P : Int) / 16 * 3) := by omega
                go_wp2_with fail
                go_ret
                refine ⟨?_, below_drewN hA m⟩
                rw [HM.out]
                first | (simp [q3, q3b, v2, v2i]; done) | (simp [q3, q3b, v2, v2i]; omega)
            | false =>
              go_wp2_with fail
              go_ret
              refine ⟨?_, below_drewN hA m⟩
              rw [HM.out]
              first | (simp [q3, q3b]; done) | (simp [q3, q3b]; omega)
          · have k1b : (ck == 1) = false := beq_eq_false_iff_ne.2 k1
            have k1c : (ck != 1) = true := by rw [bne, k1b]; rfl
            by_cases k2 : ck = 2
            · subst k2
              cases ch with
              | true =>
                by_cases d3 : (P : Int) / 16 * 3 < ct
                · skip
                  by_cases d4 : ct ≤ 65536
                  · skip
                    go_wp2_with fail
                    go_ret
                    refine ⟨?_, below_drewN hA m⟩
                    rw [HM.out]
                    first | (simp [q3, q3b, k1, k1b, d3, d4]; done) | (simp [q3, q3b, k1, k1b, d3, d4]; omega)
                  · skip
                    go_wp2_with fail
                    go_ret
                    refine ⟨?_, below_drewN hA m⟩
                    rw [HM.out]
                    first | (simp [q3, q3b, k1, k1b, d3, d4]; done) | (simp [q3, q3b, k1, k1b, d3, d4]; omega)
                · skip
                  go_wp2_with fail
                  go_ret
                  refine ⟨?_, below_drewN hA m⟩
                  rw [HM.out]
                  first | (simp [q3, q3b, k1, k1b, d3]; done) | (simp [q3, q3b, k1, k1b, d3]; omega)
              | false =>
                go_wp2_with fail
                go_ret
                refine ⟨?_, below_drewN hA m⟩
                rw [HM.out]
                first | (simp [q3, q3b, k1, k1b]; done) | (simp [q3, q3b, k1, k1b]; omega)
            · have k2b : (ck == 2) = false := beq_eq_false_iff_ne.2 k2
              have k2c : (ck != 2) = true := by rw [bne, k2b]; rfl
              by_cases k4 : ck = 4
              · subst k4
                cases th with
                | true =>
                  go_wp2_with fail
                  go_ret
                  refine ⟨?_, below_drewN hA m⟩
                  rw [HM.out]
                  first | (simp [q3, q3b, k1, k1b, k2, k2b]; done) | (simp [q3, q3b, k1, k1b, k2, k2b]; omega)
                | false =>
                  cases ch with
                  | true =>
                    by_cases d1 : 1 ≤ ct
                    · skip
                      by_cases d2 : ct ≤ 1073741824
                      · skip
                        go_wp2_with fail
                        go_ret
                        refine ⟨?_, below_drewN hA m⟩
                        rw [HM.out]
                        first | (simp [q3, q3b, k1, k1b, k2, k2b, d1, d2]; done) | (simp [q3, q3b, k1, k1b, k2, k2b, d1, d2]; omega)
                      · skip
                        go_wp2_with fail
                        go_ret
                        refine ⟨?_, below_drewN hA m⟩
                        rw [HM.out]
                        first | (simp [q3, q3b, k1, k1b, k2, k2b, d1, d2]; done) | (simp [q3, q3b, k1, k1b, k2, k2b, d1, d2]; omega)
                    · skip
                      go_wp2_with fail
                      go_ret
                      refine ⟨?_, below_drewN hA m⟩
                      rw [HM.out]
                      first | (simp [q3, q3b, k1, k1b, k2, k2b, d1]; done) | (simp [q3, q3b, k1, k1b, k2, k2b, d1]; omega)
                  | false =>
                    go_wp2_with fail
                    go_ret
                    refine ⟨?_, below_drewN hA m⟩
                    rw [HM.out]
                    first | (simp [q3, q3b, k1, k1b, k2, k2b]; done) | (simp [q3, q3b, k1, k1b, k2, k2b]; omega)
              · have k4b : (ck == 4) = false := beq_eq_false_iff_ne.2 k4
                have k4c : (ck != 4) = true := by rw [bne, k4b]; rfl
                go_wp2_with fail
                go_ret
                refine ⟨?_, below_drewN hA m⟩
                rw [HM.out]
                first | (simp [q3, q3b, k1, k1b, k2, k2b, k4, k4b]; done) | (simp [q3, q3b, k1, k1b, k2, k2b, k4, k4b]; omega)
end Go.Proofs.Ytonbcipofakpjaa
