/- espalierlaw09.SpillBack: the walk. -/
import Derived.Test.YtgnhakgfgdelpaaSpAwake
import Derived.Test.YtgnhakgfgdelpaaSpBkF
import Derived.Test.YtgnhakgfgdelpaaSameI
import Derived.BigQuiet
namespace Go.Proofs.Ytgnhakgfgdelpaa
open Go.RowKit Go.Maps
theorem str_dr {w : World} {v : Value} {l : List UInt8} (h : RdB w v l) (n : Nat) : (convert 25 9 v).run Try.prog (w.drewN n) = .ok (.string ⟨l.toArray⟩) (w.drewN n) :=
  run_B_string (w := w.drewN n) h
theorem BTaken_eq {w0 w : World} {gb gm : Nat} {pv : Int → Option Value} {S : BS} {L : List Ent} (hS : Sep w0 w (benchE gb gm pv S :: L)) {T : List Int} (he : takenF S = T) :
    Calls Try.prog 23 #[.pointer (some ⟨gb, 0, none⟩)] w fun e w' => ∃ u, e = .returned u ∧ Sep w0 w' (intsE u T :: benchE gb gm pv S :: L) := by
  have h := BTaken_any hS
  rw [he] at h
  exact h
theorem RdIn.old {v : World} {L : List Ent} {x : Value} {l : List UInt8} (hr : RdB v x l) (hm : oldE v ∈ L) : RdIn L x l :=
  ⟨oldE v, hm, fun _ h => hr.keep fun p hp => World.cell?_of_block (h p.block hp)⟩
set_option maxRecDepth 100000 in
set_option maxHeartbeats 16000000 in
theorem back_any (page : Int) (va vb : Value) (a b : List UInt8) (lo hi : Int) (hpg : -9223372036854775808 ≤ page ∧ page ≤ 9223372036854775807) (hlo : -9223372036854775808 ≤ lo ∧ lo ≤ 9223372036854775807) (hhi : -9223372036854775808 ≤ hi ∧ hi ≤ 9223372036854775807) (w : World) (ha : RdB w va a) (hb : RdB w vb b) :
    Calls Try.prog 7 #[.int .i64 page, va, .agg #[vb, .int .i64 lo, .int .i64 hi]] w fun e w' => e = .returned (.bool true) ∧ Below w.heap.size w w' := by
  obtain ⟨A, ca, rfl, hma⟩ := ha.form
  obtain ⟨B, cb, rfl, hmb⟩ := hb.form
  go_enter Try.func7, Try.ntmps7
  have hbx := OBlk.new' w 40 [.slice B b.length cb, .int .i64 lo, .int .i64 hi]
  have cx0 := hbx.cell' (j := 0) rfl
  have cx1 := hbx.cell' (j := 1) rfl
  have cx2 := hbx.cell' (j := 2) rfl
  have hwb : Below w.heap.size w (w.alloc (.cells #[.slice B b.length cb, .int .i64 lo, .int .i64 hi] 40)) := (Below.refl _ _).alloc (Nat.le_refl _) _
  go_upto_region 5 with (first | (go_at_call 9; (with_reducible refine (awake_any _).mono ?_); rintro e w1 ⟨rfl, hw1⟩) | fail)
  have hB := hwb.trans (hw1.mono hwb.size)
  have HA := Lib.hid (ha.below hB (Nat.le_refl _))
  have HBB := Lib.hid (hb.below hB (Nat.le_refl _))
  clear ha hb hbx cx0 cx1 cx2 hwb hw1
  cases hnb : newB page 65536 with
  | false =>
    have hNB := NewB_bad 1 page 65536 (.inl rfl) hnb w1
    go_wp2_with (first | (go_at_call 21; (with_reducible refine hNB.mono ?_); rintro e w2 ⟨rfl, rfl⟩) | fail)
    go_ret
    exact ⟨rfl, hB⟩
  | true =>
    have hNB := NewB_ok 1 page 65536 (.inl rfl) hnb w1 w1 [oldE w1] (Sep.start w1)
    have hpw : isPowB page = true := by
      unfold newB at hnb
      cases e : isPowB page with
      | true => rfl
      | false => rw [e] at hnb; cases hnb
    have HPW := Lib.hid hpw
    clear hnb hpw
    generalize hS0 : emptyB 1 page 65536 = S0 at hNB
    have HS0 := Lib.hid hS0
    clear hS0
    go_upto_region 8 with (first | (go_at_call 21; (with_reducible refine hNB.mono ?_); rintro e w2 ⟨gb, gm, rfl, hS2⟩) | fail)
    clear hNB
    by_cases h1 : a.length < 1
    · have i1 : (a.length : Int) < 1 := by omega
      clear h1
      go_wp2_with fail
      go_ret
      exact ⟨rfl, hB.trans ((hS2.belowOld (v := w1) (by simp)).mono hB.size)⟩
    by_cases h2 : 65536 < a.length
    · have i1 : ¬ (a.length : Int) < 1 := by omega
      have i2 : 65536 < (a.length : Int) := by omega
      clear h1 h2
      go_wp2_with fail
      go_ret
      exact ⟨rfl, hB.trans ((hS2.belowOld (v := w1) (by simp)).mono hB.size)⟩
    by_cases h3 : b.length < 1
    · have i1 : ¬ (a.length : Int) < 1 := by omega
      have i2 : ¬ 65536 < (a.length : Int) := by omega
      have i3 : (b.length : Int) < 1 := by omega
      clear h1 h2 h3
      go_wp2_with fail
      go_ret
      exact ⟨rfl, hB.trans ((hS2.belowOld (v := w1) (by simp)).mono hB.size)⟩
    by_cases h4 : 65536 < b.length
    · have i1 : ¬ (a.length : Int) < 1 := by omega
      have i2 : ¬ 65536 < (a.length : Int) := by omega
      have i3 : ¬ (b.length : Int) < 1 := by omega
      have i4 : 65536 < (b.length : Int) := by omega
      clear h1 h2 h3 h4
      go_wp2_with fail
      go_ret
      exact ⟨rfl, hB.trans ((hS2.belowOld (v := w1) (by simp)).mono hB.size)⟩
    obtain ⟨x, y, z, d, l, T, ps, S1, S2, S3, S4, S5, S6, S7, S8, hR⟩ := back_law (a := a) (b := b) lo hi HPW.out (by omega) (by omega) (by omega) (by omega)
    have HW1 : Hid (wrF S0 a = (x, 0, S1)) := by show _ = _; rw [← HS0.out]; exact hR.w1
    have R := Lib.hid hR
    clear hR
    have i1 : ¬ (a.length : Int) < 1 := by omega
    have i2 : ¬ 65536 < (a.length : Int) := by omega
    have i3 : ¬ (b.length : Int) < 1 := by omega
    have i4 : ¬ 65536 < (b.length : Int) := by omega
    clear h1 h2 h3 h4
    go_upto_region 10 with (fail)
    clear i1 i2 i3 i4
    have hC := SWrite_eq hS2 _ _ (RdIn.old HA.out (by simp)) HW1.out
    go_upto_region 11 with (first | (go_at_call 22; (with_reducible refine hC.mono ?_); rintro e w3 ⟨rfl, pv3, hS3⟩) | fail)
    clear hC
    clear hS2
    have hC := BTaken_eq hS3 R.out.t1
    go_upto_region 12 with (first | (go_at_call 23; (with_reducible refine hC.mono ?_); rintro e w4 ⟨uT, rfl, hS4a⟩) | fail)
    clear hC
    have hS4 : Sep w1 w4 (benchE gb gm pv3 S1 :: [intsE uT T, oldE w1]) := hS4a.sw1
    clear hS4a hS3
    have hC := SWrite_eq hS4 _ _ (RdIn.old HBB.out (by simp)) R.out.w2
    go_upto_region 13 with (first | (go_at_call 22; (with_reducible refine hC.mono ?_); rintro e w5 ⟨rfl, pv5, hS5⟩) | fail)
    clear hC
    clear hS4
    have hC := SRead_eq hS5 x R.out.ix a.length R.out.r3
    go_upto_region 14 with (first | (go_at_call 24; (with_reducible refine hC.mono ?_); rintro e w6 ⟨uc, pv6, rfl, hS6a⟩) | fail)
    clear hC
    have hS6 : Sep w1 w6 (benchE gb gm pv6 S3 :: [bytesE uc a, intsE uT T, oldE w1]) := hS6a.sw1
    clear hS6a hS5
    obtain ⟨qs, hq⟩ := R.out.s4
    have hC := SSlice_eq hS6 y R.out.iy b.length lo hi hlo hhi hq
    go_upto_region 15 with (first | (go_at_call 25; (with_reducible refine hC.mono ?_); rintro e w7 ⟨ud, pv7, rfl, hS7a⟩) | fail)
    clear hC
    have hS7 : Sep w1 w7 (benchE gb gm pv7 S4 :: [bytesE ud d, bytesE uc a, intsE uT T, oldE w1]) := hS7a.sw1
    clear hS7a hS6 hq
    obtain ⟨may, HMay⟩ : ∃ may : Bool, Hid (may = decide (0 ≤ lo ∧ lo ≤ hi ∧ hi ≤ (b.length : Int))) := ⟨_, Lib.hid rfl⟩
    go_cut [21] (fun s wx => s = .bool may ∧ w7 = wx)
    case first =>
      by_cases m1 : 0 ≤ lo
      · by_cases m2 : lo ≤ hi
        · by_cases m3 : hi ≤ (b.length : Int)
          · have HV : Hid (may = true) := by show _ = _; rw [HMay.out, decide_eq_true ⟨m1, m2, m3⟩]
            go_wp2_with fail
            go_meet
            exact ⟨by rw [HV.out], rfl⟩
          · have HV : Hid (may = false) := by show _ = _; rw [HMay.out, decide_eq_false (fun h => m3 h.2.2)]
            go_wp2_with fail
            go_meet
            exact ⟨by rw [HV.out], rfl⟩
        · have HV : Hid (may = false) := by show _ = _; rw [HMay.out, decide_eq_false (fun h => m2 h.2.1)]
          go_wp2_with fail
          go_meet
          exact ⟨by rw [HV.out], rfl⟩
      · have HV : Hid (may = false) := by show _ = _; rw [HMay.out, decide_eq_false (fun h => m1 h.1)]
        go_wp2_with fail
        go_meet
        exact ⟨by rw [HV.out], rfl⟩
    case rest =>
      obtain ⟨rfl, rfl⟩ := hcut
      go_upto_region 16 with (fail)
      go_cut [148] (fun s wx => s = .bool false ∧ ∃ nq, wx = w7.drewN nq)
      case first =>
        have s1 := fun n => str_dr (OwB.rd (hS7.of_mem (E := bytesE uc a) (by simp))) n
        have s2 := fun n => str_dr (hS7.rd (v := w1) (by simp) HA.out) n
        have s3 := fun n => str_dr (OwB.rd (hS7.of_mem (E := bytesE ud d) (by simp))) n
        by_cases hm : 0 ≤ lo ∧ lo ≤ hi ∧ hi ≤ (b.length : Int)
        · have hv : may = true := by rw [HMay.out, decide_eq_true hm]
          obtain ⟨lo', rfl⟩ : ∃ n : Nat, lo = (n : Int) := ⟨lo.toNat, by omega⟩
          obtain ⟨hi', rfl⟩ : ∃ n : Nat, hi = (n : Int) := ⟨hi.toNat, by omega⟩
          obtain ⟨z0, hd0⟩ := R.out.may hm.1 hm.2.1 hm.2.2
          rw [Int.toNat_natCast, Int.toNat_natCast] at hd0
          obtain ⟨A2, c2, q2, r2⟩ := RdB.run_lh (hS7.rd (v := w1) (by simp) HBB.out) lo' hi' (by omega) (by omega)
          rw [← hd0] at r2
          have s4 := fun n => str_dr r2 n
          subst hv
          have j1 : (0 : Int) ≤ (lo' : Int) := by omega
          have j2 : (lo' : Int) ≤ (hi' : Int) := by omega
          have j3 : (hi' : Int) ≤ (b.length : Int) := by omega
          clear r2 hd0 hm
          generalize hzz : z = zz at *
          subst z0
          go_quiet (fail)
          go_wp2_with fail
          go_meet
          exact ⟨rfl, _, rfl⟩
        · have hv : may = false := by rw [HMay.out, decide_eq_false hm]
          have hz := R.out.not hm
          subst hv
          clear hm
          go_quiet (fail)
          go_wp2_with fail
          go_meet
          exact ⟨rfl, _, rfl⟩
      case rest =>
        obtain ⟨rfl, nq, rfl⟩ := hcut
        have hS7 := hS7.drewN nq
        generalize w7.drewN nq = w8 at *
        go_upto_region 18 with (fail)
        have hC := SFree_eq hS7 y R.out.iy b.length R.out.f5
        go_upto_region 19 with (first | (go_at_call 26; (with_reducible refine hC.mono ?_); rintro e w9 ⟨pv9, rfl, hS9⟩) | fail)
        clear hC
        clear hS7
        have hC := BTaken_eq hS9 R.out.t5
        go_upto_region 20 with (first | (go_at_call 23; (with_reducible refine hC.mono ?_); rintro e w10 ⟨uA, rfl, hS10a⟩) | fail)
        clear hC
        have hS10 : Sep w1 w10 (benchE gb gm pv9 S5 :: [intsE uA T, bytesE ud d, bytesE uc a, intsE uT T, oldE w1]) := hS10a.sw1
        clear hS10a hS9
        have hC := SList_eq hS10 x R.out.ix a.length R.out.l6
        go_upto_region 21 with (first | (go_at_call 27; (with_reducible refine hC.mono ?_); rintro e w11 ⟨ul, pv11, rfl, hS11a⟩) | fail)
        clear hC
        have hS11 : Sep w1 w11 (benchE gb gm pv11 S6 :: [intsE ul ps, intsE uA T, bytesE ud d, bytesE uc a, intsE uT T, oldE w1]) := hS11a.sw1
        clear hS11a hS10
        have hC := SRead_eq hS11 x R.out.ix a.length R.out.r7
        go_upto_region 22 with (first | (go_at_call 24; (with_reducible refine hC.mono ?_); rintro e w12 ⟨uz, pv12, rfl, hS12a⟩) | fail)
        clear hC
        have hS12 : Sep w1 w12 (benchE gb gm pv12 S7 :: [bytesE uz a, intsE ul ps, intsE uA T, bytesE ud d, bytesE uc a, intsE uT T, oldE w1]) := hS12a.sw1
        clear hS12a hS11
        have hC := SFree_eq hS12 x R.out.ix a.length R.out.f8
        go_upto_region 23 with (first | (go_at_call 26; (with_reducible refine hC.mono ?_); rintro e w13 ⟨pv13, rfl, hS13⟩) | fail)
        clear hC
        clear hS12
        have hC := BTaken_eq hS13 R.out.t8
        go_upto_region 24 with (first | (go_at_call 23; (with_reducible refine hC.mono ?_); rintro e w14 ⟨uN, rfl, hS14⟩) | fail)
        clear hC
        have s1 := run_B_string (OwB.rd (hS14.of_mem (E := bytesE uz a) (by simp)))
        have s2 := run_B_string (hS14.rd (v := w1) (by simp) HA.out)
        have hrT : RdI w14 uT T := OwI.rd (hS14.of_mem (E := intsE uT T) (by simp))
        have hrA : RdI w14 uA T := OwI.rd (hS14.of_mem (E := intsE uA T) (by simp))
        have hrl : RdI w14 ul ps := OwI.rd (hS14.of_mem (E := intsE ul ps) (by simp))
        have hrN : RdI w14 uN [] := OwI.rd (hS14.of_mem (E := intsE uN []) (by simp))
        have hsi := sameInts_any uT uA T w14 hrT hrA
        obtain ⟨AT, cT, rfl, -⟩ := hrT.form
        obtain ⟨Al, cl, rfl, -⟩ := hrl.form
        obtain ⟨AN, cN, rfl, -⟩ := hrN.form
        have hPg := fun W => SPages_any page a.length (by unfold i64w; omega) (by unfold i64w; omega) W
        rw [R.out.pages] at hPg
        have hlen := R.out.len
        have e1 : ((ps.length : Int) == (T.length : Int)) = true := by rw [hlen]; simp
        clear hlen hrT hrA hrl hrN
        go_wp2_with (first
          | (go_at_call 28; (with_reducible refine hsi.mono ?_); rintro e w15 ⟨rfl, nq2, rfl⟩)
          | (go_at_call 10; (with_reducible refine (hPg _).mono ?_); rintro e w16 ⟨rfl, rfl⟩)
          | fail)
        go_ret
        exact ⟨rfl, hB.trans (((hS14.drewN _).belowOld (v := w1) (by simp)).mono hB.size)⟩
end Go.Proofs.Ytgnhakgfgdelpaa
