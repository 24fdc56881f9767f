/- espalierlaw01.InkBack: the walk. -/
import Derived.Test.YtijlebjldnhnaaaInkBackF
namespace Go.Proofs.Ytijlebjldnhnaaa
open Go.RowKit
set_option maxRecDepth 100000 in
set_option maxHeartbeats 16000000 in
theorem back_any (va vt vd : Value) (a : List UInt8) (n : Nat) (wide : Int) (text behind : List UInt8) (w : World) (ra0 : RdB w va a) (rt0 : RdB w vt text) (rd0 : RdB w vd behind) (la : a.length ≤ 1048576) (hn : n < 18446744073709551616) (_ : -9223372036854775808 ≤ wide ∧ wide ≤ 9223372036854775807) (lt : text.length ≤ 1048576) (ld : behind.length ≤ 1048576) :
    Calls Try.prog 6 #[va, .int .u64 (n : Int), .int .i64 wide, vt, vd] w fun e w' => e = .returned (.bool true) ∧ Below w.heap.size w w' := by
  obtain ⟨Aa, ca, rfl, hma⟩ := ra0.form
  obtain ⟨At, ct, rfl, hmt⟩ := rt0.form
  obtain ⟨Ad, cd, rfl, hmd⟩ := rd0.form
  have hU1 := uintF_pos n
  have hU2 := uintF_le10 hn
  have hO1 := (escF_len text).1
  have hO2 := ordF_len text
  have hO1 : text.length + 2 ≤ (ordF text).length := by simp [ordF]; omega
  go_enter Try.func6, Try.ntmps6
  go_wp2_with fail
  refine (live_any _).mono ?_
  rintro e w0 ⟨rfl, hb⟩
  by_cases hwide : 0 ≤ wide
  · obtain ⟨s, hs1, hs2, hs8⟩ : ∃ s : Nat, wide.tmod 8 = (s : Int) ∧ wide % 8 = (s : Int) ∧ s < 8 := ⟨(wide % 8).toNat, by rw [Int.tmod_eq_emod_of_nonneg hwide]; omega, by omega, by omega⟩
    obtain ⟨W, hW⟩ : ∃ W, W = s + 1 := ⟨_, rfl⟩
    have hW1 : 1 ≤ W ∧ W ≤ 8 := by omega
    have hWe : (1 : Int) + (s : Int) = (W : Int) := by omega
    have HWs := Lib.hid hW
    clear hW
    go_wp2_with fail
    refine (Fixed_sl n hn W _ rfl (by omega) (by omega) _).mono ?_
    rintro e w1 ⟨AF, cF, rfl, oF, hw⟩
    replace oF := oF.low hb.size
    replace hb := hb.trans (hw.mono hb.size)
    clear hw
    go_wp2_with fail
    refine (Uint_sl n hn _).mono ?_
    rintro e w2 ⟨AU, cU, rfl, oU, hw⟩
    replace oF := oF.below' hw (Nat.le_refl _)
    replace oU := oU.low hb.size
    replace hb := hb.trans (hw.mono hb.size)
    clear hw
    go_wp2_with fail
    refine (Ordered_sl _ text _ (rt0.below hb (Nat.le_refl _)) (by omega)).mono ?_
    rintro e w3 ⟨AO, cO, rfl, oO, hw⟩
    replace oF := oF.below' hw (Nat.le_refl _)
    replace oU := oU.below' hw (Nat.le_refl _)
    replace oO := oO.low hb.size
    have hb3 := hb.trans (hw.mono hb.size)
    clear hw hb
    have ra := ra0.below hb3 (Nat.le_refl _)
    have rt := rt0
    have rd := rd0.below hb3 (Nat.le_refl _)
    have rF := oF.rd
    have rU := oU.rd
    have rO := oO.rd
    clear oF oU oO
    obtain ⟨F, hF⟩ : ∃ F, F = fixedF n W := ⟨_, rfl⟩
    obtain ⟨U, hU⟩ : ∃ U, U = uintF n := ⟨_, rfl⟩
    obtain ⟨O, hO⟩ : ∃ O, O = ordF text := ⟨_, rfl⟩
    rw [← hF] at rF
    have hFl : F.length = W := by rw [hF]; exact fixedF_length n W
    rw [← hU] at hU1 hU2 rU ⊢
    rw [← hO] at hO1 hO2 rO ⊢
    have HF := Lib.hid hF
    have HU := Lib.hid hU
    have HO := Lib.hid hO
    clear hF hU hO
    have HFl := Lib.hid hFl
    clear hFl
    go_wp2_with fail
    go_loopw [16, 17] (fun v i wr => ∃ j : Nat, i = .int .i64 (j : Int) ∧ j ≤ a.length ∧ OwB wr w3.heap.size v (a.take j) ∧ Below w3.heap.size w3 wr)
      (fun _ i _ => a.length - (intOf i).toNat)
    case atStart => exact ⟨0, rfl, Nat.zero_le _, OwB.nil _ _, Below.refl _ _⟩
    case round =>
      obtain ⟨j, rfl, hj, ho, hbl⟩ := hrel
      have hbs := hbl.size
      by_cases hlt : j < a.length
      · have hlt2 : j < a.length := hlt
        obtain ⟨ad, hA, hc⟩ := (ra.below hbl (Nat.le_refl _)).at_ hlt2
        subst hA
        have htk := (List.take_append_getElem hlt2)
        have hln : (a.take j).length + 1 ≤ 140737488355328 := by simp; omega
        have ij : (j : Int) < (a.length : Int) := by omega
        generalize a[j] = x at hc htk
        have HT := Lib.hid htk
        clear htk
        go_wp2_with (first
          | (at_builtin; refine wp_append_B1 rfl (.tmp 92) (.tmp 97) rfl w3.heap.size _ _ rfl ho x _ rfl 5 rfl hln hbs ?_; intro v3 w4 ho3 hg3 _; have hb3 := hbl.grown hg3 hbs (fun g hg => (ho.lt g hg).1))
          | fail)
        go_roundw
        case rel => exact ⟨j + 1, by go_num, by omega, by rw [← HT.out]; exact ho3, hb3⟩
        case measure => simp [intOf]; omega
      · obtain rfl : a.length = j := by omega
        rw [List.take_length] at ho
        clear hlt hj hbs
        obtain ⟨A1, c1, rfl⟩ := ho.sl
        go_wp2_with fail
        go_loopw [16, 19] (fun v i wr => ∃ j : Nat, i = .int .i64 (j : Int) ∧ j ≤ W ∧ OwB wr w3.heap.size v (a ++ F.take j) ∧ Below w3.heap.size w3 wr)
          (fun _ i _ => W - (intOf i).toNat)
        case atStart => exact ⟨0, rfl, Nat.zero_le _, by rw [List.take_zero, List.append_nil]; exact ho, hbl⟩
        case round =>
          clear ho hbl
          obtain ⟨j, rfl, hj, ho, hbl⟩ := hrel
          have hbs := hbl.size
          by_cases hlt : j < W
          · have hlt2 : j < F.length := by rw [HFl.out]; exact hlt
            obtain ⟨ad, hA, hc⟩ := (rF.below hbl (Nat.le_refl _)).at_ hlt2
            subst hA
            have htk := (List.take_append_getElem hlt2)
            have hln : (a ++ F.take j).length + 1 ≤ 140737488355328 := by simp; omega
            have ij : (j : Int) < (W : Int) := by omega
            generalize F[j] = x at hc htk
            have HT := Lib.hid htk
            clear htk
            go_wp2_with (first
              | (at_builtin; refine wp_append_B1 rfl (.tmp 107) (.tmp 112) rfl w3.heap.size _ _ rfl ho x _ rfl 5 rfl hln hbs ?_; intro v3 w4 ho3 hg3 _; have hb3 := hbl.grown hg3 hbs (fun g hg => (ho.lt g hg).1))
              | fail)
            go_roundw
            case rel => exact ⟨j + 1, by go_num, by omega, by rw [← HT.out, ← List.append_assoc]; exact ho3, hb3⟩
            case measure => simp [intOf]; omega
          · obtain rfl : W = j := by omega
            rw [show F.take W = F from List.take_of_length_le (by rw [HFl.out]; exact Nat.le_refl _)] at ho
            clear hlt hj hbs
            obtain ⟨L2, hL2⟩ : ∃ L, L = a ++ F := ⟨_, rfl⟩
            rw [← hL2] at ho
            have HL2 := Lib.hid hL2
            have hm2 : L2.length ≤ 1048590 := by rw [hL2]; simp; have := HFl.out; omega
            clear hL2
            obtain ⟨A2, c2, rfl⟩ := ho.sl
            go_wp2_with fail
            go_loopw [16, 21] (fun v i wr => ∃ j : Nat, i = .int .i64 (j : Int) ∧ j ≤ U.length ∧ OwB wr w3.heap.size v (L2 ++ U.take j) ∧ Below w3.heap.size w3 wr)
              (fun _ i _ => U.length - (intOf i).toNat)
            case atStart => exact ⟨0, rfl, Nat.zero_le _, by rw [List.take_zero, List.append_nil]; exact ho, hbl⟩
            case round =>
              clear ho hbl
              obtain ⟨j, rfl, hj, ho, hbl⟩ := hrel
              have hbs := hbl.size
              by_cases hlt : j < U.length
              · have hlt2 : j < U.length := hlt
                obtain ⟨ad, hA, hc⟩ := (rU.below hbl (Nat.le_refl _)).at_ hlt2
                subst hA
                have htk := (List.take_append_getElem hlt2)
                have hln : (L2 ++ U.take j).length + 1 ≤ 140737488355328 := by simp; omega
                have ij : (j : Int) < (U.length : Int) := by omega
                generalize U[j] = x at hc htk
                have HT := Lib.hid htk
                clear htk
                go_wp2_with (first
                  | (at_builtin; refine wp_append_B1 rfl (.tmp 122) (.tmp 127) rfl w3.heap.size _ _ rfl ho x _ rfl 5 rfl hln hbs ?_; intro v3 w4 ho3 hg3 _; have hb3 := hbl.grown hg3 hbs (fun g hg => (ho.lt g hg).1))
                  | fail)
                go_roundw
                case rel => exact ⟨j + 1, by go_num, by omega, by rw [← HT.out, ← List.append_assoc]; exact ho3, hb3⟩
                case measure => simp [intOf]; omega
              · obtain rfl : U.length = j := by omega
                rw [List.take_length] at ho
                clear hlt hj hbs
                obtain ⟨L3, hL3⟩ : ∃ L, L = L2 ++ U := ⟨_, rfl⟩
                rw [← hL3] at ho
                have HL3 := Lib.hid hL3
                have hm3 : L3.length ≤ 2097200 := by rw [hL3]; simp; omega
                clear hL3
                obtain ⟨A3, c3, rfl⟩ := ho.sl
                go_wp2_with fail
                go_loopw [16, 23] (fun v i wr => ∃ j : Nat, i = .int .i64 (j : Int) ∧ j ≤ O.length ∧ OwB wr w3.heap.size v (L3 ++ O.take j) ∧ Below w3.heap.size w3 wr)
                  (fun _ i _ => O.length - (intOf i).toNat)
                case atStart => exact ⟨0, rfl, Nat.zero_le _, by rw [List.take_zero, List.append_nil]; exact ho, hbl⟩
                case round =>
                  clear ho hbl
                  obtain ⟨j, rfl, hj, ho, hbl⟩ := hrel
                  have hbs := hbl.size
                  by_cases hlt : j < O.length
                  · have hlt2 : j < O.length := hlt
                    obtain ⟨ad, hA, hc⟩ := (rO.below hbl (Nat.le_refl _)).at_ hlt2
                    subst hA
                    have htk := (List.take_append_getElem hlt2)
                    have hln : (L3 ++ O.take j).length + 1 ≤ 140737488355328 := by simp; omega
                    have ij : (j : Int) < (O.length : Int) := by omega
                    generalize O[j] = x at hc htk
                    have HT := Lib.hid htk
                    clear htk
                    go_wp2_with (first
                      | (at_builtin; refine wp_append_B1 rfl (.tmp 137) (.tmp 142) rfl w3.heap.size _ _ rfl ho x _ rfl 5 rfl hln hbs ?_; intro v3 w4 ho3 hg3 _; have hb3 := hbl.grown hg3 hbs (fun g hg => (ho.lt g hg).1))
                      | fail)
                    go_roundw
                    case rel => exact ⟨j + 1, by go_num, by omega, by rw [← HT.out, ← List.append_assoc]; exact ho3, hb3⟩
                    case measure => simp [intOf]; omega
                  · obtain rfl : O.length = j := by omega
                    rw [List.take_length] at ho
                    clear hlt hj hbs
                    obtain ⟨L4, hL4⟩ : ∃ L, L = L3 ++ O := ⟨_, rfl⟩
                    rw [← hL4] at ho
                    have HL4 := Lib.hid hL4
                    clear hL4
                    have hm4 : L4.length ≤ 8388608 := by rw [HL4.out]; simp; omega
                    obtain ⟨A4, c4, rfl⟩ := ho.sl
                    obtain ⟨m4, h4⟩ : ∃ m, m + 1 = (L3 ++ O).length := ⟨(L3 ++ O).length - 1, by simp; omega⟩
                    obtain ⟨m3, h3⟩ : ∃ m, m + 1 = (L2 ++ U).length := ⟨(L2 ++ U).length - 1, by simp; omega⟩
                    obtain ⟨m2, h2⟩ : ∃ m, m + 1 = (a ++ F).length := ⟨(a ++ F).length - 1, by simp; have := HFl.out; omega⟩
                    have k4 : L4.take m4 = L3 ++ (ordF text).dropLast := by rw [← HO.out, HL4.out]; simpa using take_short L3 O [] m4 (by omega) h4
                    have k3 : L4.take m3 = L2 ++ (uintF n).dropLast := by rw [← HU.out, HL4.out, HL3.out]; exact take_short L2 U O m3 (by omega) h3
                    have k2 : L4.take m2 = a ++ (fixedF n W).dropLast := by rw [← HF.out, HL4.out, HL3.out, HL2.out, List.append_assoc]; exact take_short a F (U ++ O) m2 (by have := HFl.out; omega) h2
                    rw [← HL4.out] at h4
                    rw [← HL3.out] at h3
                    rw [← HL2.out] at h2
                    have g4 : (L4.length : Int) - 1 = (m4 : Int) := by omega
                    have g3 : (L3.length : Int) - 1 = (m3 : Int) := by omega
                    have g2 : (L2.length : Int) - 1 = (m2 : Int) := by omega
                    have n3 : L3.length ≤ L4.length := by rw [HL4.out]; simp
                    have n2 : L2.length ≤ L3.length := by rw [HL3.out]; simp
                    obtain ⟨B4, d4, q4, r4⟩ := ho.rd.run_h m4 (by omega)
                    obtain ⟨B3, d3, q3, r3⟩ := ho.rd.run_h m3 (by omega)
                    obtain ⟨B2, d2, q2, r2⟩ := ho.rd.run_h m2 (by omega)
                    have K4 := Lib.hid k4
                    have K3 := Lib.hid k3
                    have K2 := Lib.hid k2
                    have N4 := Lib.hid h4
                    have N3 := Lib.hid h3
                    have N2 := Lib.hid h2
                    clear k4 k3 k2 h4 h3 h2
                    go_wp2_with fail
                    refine (Ro_few _ L3 text _ _ _ r4 K4.out (by simp; omega) rfl).mono ?_
                    rintro e w5 ⟨u5, rfl, hw⟩
                    have r3 := r3.below hw (Nat.le_refl _)
                    have r2 := r2.below hw (Nat.le_refl _)
                    replace ho := ho.below' hw (Nat.le_refl _)
                    replace hbl := hbl.trans (hw.mono hbl.size)
                    clear hw r4
                    go_wp2_with (first
                      | (go_at_call 23; refine (Ru_few _ L2 _ n hn _ _ r3 K3.out rfl).mono ?_; rintro e wp ⟨rfl, rfl⟩)
                      | (go_at_call 21; refine (Rf_few _ a _ n W (by omega) (by omega) _ _ _ r2 K2.out rfl rfl).mono ?_; rintro e wp ⟨rfl, rfl⟩)
                      | fail)
                    clear r3 r2 q4 q3 q2 g4 g3 g2 K4 K3 K2 N4 N3 N2
                    go_loopw [16, 33] (fun v i wr => ∃ j : Nat, i = .int .i64 (j : Int) ∧ j ≤ behind.length ∧ OwB wr w3.heap.size v (L4 ++ behind.take j) ∧ Below w3.heap.size w3 wr)
                      (fun _ i _ => behind.length - (intOf i).toNat)
                    case atStart => exact ⟨0, rfl, Nat.zero_le _, by rw [List.take_zero, List.append_nil]; exact ho, hbl⟩
                    case round =>
                      clear ho hbl
                      obtain ⟨j, rfl, hj, ho, hbl⟩ := hrel
                      have hbs := hbl.size
                      by_cases hlt : j < behind.length
                      · have hlt2 : j < behind.length := hlt
                        obtain ⟨ad, hA, hc⟩ := (rd.below hbl (Nat.le_refl _)).at_ hlt2
                        subst hA
                        have htk := (List.take_append_getElem hlt2)
                        have hln : (L4 ++ behind.take j).length + 1 ≤ 140737488355328 := by simp; omega
                        have ij : (j : Int) < (behind.length : Int) := by omega
                        generalize behind[j] = x at hc htk
                        have HT := Lib.hid htk
                        clear htk
                        go_wp2_with (first
                          | (at_builtin; refine wp_append_B1 rfl (.tmp 182) (.tmp 187) rfl w3.heap.size _ _ rfl ho x _ rfl 5 rfl hln hbs ?_; intro v3 w4 ho3 hg3 _; have hb3 := hbl.grown hg3 hbs (fun g hg => (ho.lt g hg).1))
                          | fail)
                        go_roundw
                        case rel => exact ⟨j + 1, by go_num, by omega, by rw [← HT.out, ← List.append_assoc]; exact ho3, hb3⟩
                        case measure => simp [intOf]; omega
                      · obtain rfl : behind.length = j := by omega
                        rw [List.take_length] at ho
                        clear hlt hj hbs
                        obtain ⟨L5, hL5⟩ : ∃ L, L = L4 ++ behind := ⟨_, rfl⟩
                        rw [← hL5] at ho
                        have hm5 : L5.length ≤ 140737488355327 := by rw [hL5]; simp; omega
                        have f2 : L5 = (a ++ fixedF n W) ++ ((U ++ O) ++ behind) := by rw [hL5, HL4.out, HL3.out, HL2.out, HF.out]; simp
                        have f3 : L5 = (L2 ++ uintF n) ++ (O ++ behind) := by rw [hL5, HL4.out, HL3.out, ← HU.out]; simp
                        have f4 : L5 = (L3 ++ ordF text) ++ behind := by rw [hL5, HL4.out, ← HO.out]
                        have HF2 := Lib.hid f2
                        have HF3 := Lib.hid f3
                        have HF4 := Lib.hid f4
                        have l3 : L3.length = (L2 ++ uintF n).length := by rw [HL3.out, HU.out]
                        have l4 : L4.length = (L3 ++ ordF text).length := by rw [HL4.out, HO.out]
                        have HE3 := Lib.hid l3
                        have HE4 := Lib.hid l4
                        clear hL5 f2 f3 f4 l3 l4
                        obtain ⟨r, hr⟩ : ∃ r, r = n % 256 ^ W := ⟨_, rfl⟩
                        have HR := Lib.hid hr
                        clear hr
                        go_wp2_with (first
                          | (go_at_call 21; refine (Rf_at _ a _ _ n W r HR.out (by omega) (by omega) _ _ _ ho.rd HF2.out rfl rfl).mono ?_; rintro e wp ⟨rfl, rfl⟩)
                          | (go_at_call 23; refine (Ru_at _ L2 _ _ n L3.length hn _ _ ho.rd HF3.out rfl HE3.out).mono ?_; rintro e wp ⟨rfl, rfl⟩)
                          | fail)
                        refine (Ro_at _ L3 _ text _ L4.length _ _ ho.rd HF4.out hm5 rfl HE4.out).mono ?_
                        rintro e wl ⟨ut, rfl, ot, hw⟩
                        replace hbl := hbl.trans (hw.mono hbl.size)
                        clear hw ho
                        by_cases hW : W < 8
                        · have hWi : (W : Int) < 8 := by omega
                          have hW7 : W ≤ 7 := by omega
                          go_wp2_with fail
                          go_loopw [43, 44] (fun m i wr => ∃ j P : Nat, i = .int .i64 (j : Int) ∧ m = .int .u64 (P : Int) ∧ j ≤ W ∧ Hid (P = 256 ^ j) ∧ wr = wl)
                            (fun _ i _ => W - (intOf i).toNat)
                          case atStart => exact ⟨0, 1, rfl, rfl, Nat.zero_le _, Lib.hid rfl, rfl⟩
                          case round =>
                            obtain ⟨j, P, rfl, rfl, hj, HP, rfl⟩ := hrel
                            by_cases hlt : j < W
                            · have hP : P ≤ 281474976710656 := by rw [HP.out]; exact Nat.le_trans (Nat.pow_le_pow_right (by omega) (show j ≤ 6 by omega)) (by decide)
                              have HP2 : Hid (256 * P = 256 ^ (j + 1)) := Lib.hid (by rw [HP.out, Nat.pow_succ, Nat.mul_comm])
                              have ij : (j : Int) < (W : Int) := by omega
                              go_wp2_with fail
                              go_roundw
                              case rel => exact ⟨j + 1, 256 * P, by go_num, by go_num, by omega, HP2, trivial⟩
                              case measure => simp [intOf]; omega
                            · obtain rfl : W = j := by omega
                              have hP1 : 1 ≤ P := by rw [HP.out]; exact Nat.pow_pos (by omega)
                              have hP2 : P ≤ 72057594037927936 := by rw [HP.out]; exact Nat.le_trans (Nat.pow_le_pow_right (by omega) hW7) (by decide)
                              have hr2 : n % P = r := by rw [HP.out]; exact HR.out.symm
                              have e5 : (n : Int).tmod (P : Int) = (r : Int) := by rw [Int.tmod_eq_emod_of_nonneg (by omega), ← hr2]; omega
                              have e6 : (n : Int) % (P : Int) = (r : Int) := by rw [← hr2]; omega
                              have hlt2 : r < 18446744073709551616 := by rw [← hr2]; exact Nat.lt_of_le_of_lt (Nat.mod_le _ _) hn
                              clear hr2
                              have hp0 : ((P : Int) == 0) = false := by simp; omega
                              go_wp2_with fail
                              refine (Same_any _ _ text text _ ot.rd (rt.below (hb3.trans (hbl.mono hb3.size)) (Nat.le_refl _))).mono ?_
                              rintro e wz ⟨rfl, rfl⟩
                              rw [show (text == text) = true by simp]
                              go_wp2_with fail
                              go_ret
                              exact ⟨rfl, hb3.trans (hbl.mono hb3.size)⟩
                        · obtain rfl : W = 8 := by omega
                          obtain rfl : r = n := HR.out.trans (Nat.mod_eq_of_lt (Nat.lt_of_lt_of_le hn (by decide)))
                          go_wp2_with fail
                          refine (Same_any _ _ text text _ ot.rd (rt.below (hb3.trans (hbl.mono hb3.size)) (Nat.le_refl _))).mono ?_
                          rintro e wz ⟨rfl, rfl⟩
                          rw [show (text == text) = true by simp]
                          go_wp2_with fail
                          go_ret
                          exact ⟨rfl, hb3.trans (hbl.mono hb3.size)⟩
  · have hneg : wide < 0 := by omega
    clear hwide
    obtain ⟨W, hW⟩ : ∃ W : Nat, (W : Int) = 8 := ⟨8, rfl⟩
    have hW1 : 1 ≤ W ∧ W ≤ 8 := by omega
    have HW8 : Hid (W = 8) := Lib.hid (by omega)
    go_wp2_with fail
    rw [← hW]
    clear hW
    refine (Fixed_sl n hn W _ rfl (by omega) (by omega) _).mono ?_
    rintro e w1 ⟨AF, cF, rfl, oF, hw⟩
    replace oF := oF.low hb.size
    replace hb := hb.trans (hw.mono hb.size)
    clear hw
    go_wp2_with fail
    refine (Uint_sl n hn _).mono ?_
    rintro e w2 ⟨AU, cU, rfl, oU, hw⟩
    replace oF := oF.below' hw (Nat.le_refl _)
    replace oU := oU.low hb.size
    replace hb := hb.trans (hw.mono hb.size)
    clear hw
    go_wp2_with fail
    refine (Ordered_sl _ text _ (rt0.below hb (Nat.le_refl _)) (by omega)).mono ?_
    rintro e w3 ⟨AO, cO, rfl, oO, hw⟩
    replace oF := oF.below' hw (Nat.le_refl _)
    replace oU := oU.below' hw (Nat.le_refl _)
    replace oO := oO.low hb.size
    have hb3 := hb.trans (hw.mono hb.size)
    clear hw hb
    have ra := ra0.below hb3 (Nat.le_refl _)
    have rt := rt0
    have rd := rd0.below hb3 (Nat.le_refl _)
    have rF := oF.rd
    have rU := oU.rd
    have rO := oO.rd
    clear oF oU oO
    obtain ⟨F, hF⟩ : ∃ F, F = fixedF n W := ⟨_, rfl⟩
    obtain ⟨U, hU⟩ : ∃ U, U = uintF n := ⟨_, rfl⟩
    obtain ⟨O, hO⟩ : ∃ O, O = ordF text := ⟨_, rfl⟩
    rw [← hF] at rF
    have hFl : F.length = W := by rw [hF]; exact fixedF_length n W
    rw [← hU] at hU1 hU2 rU ⊢
    rw [← hO] at hO1 hO2 rO ⊢
    have HF := Lib.hid hF
    have HU := Lib.hid hU
    have HO := Lib.hid hO
    clear hF hU hO
    have HFl := Lib.hid hFl
    clear hFl
    go_wp2_with fail
    go_loopw [16, 17] (fun v i wr => ∃ j : Nat, i = .int .i64 (j : Int) ∧ j ≤ a.length ∧ OwB wr w3.heap.size v (a.take j) ∧ Below w3.heap.size w3 wr)
      (fun _ i _ => a.length - (intOf i).toNat)
    case atStart => exact ⟨0, rfl, Nat.zero_le _, OwB.nil _ _, Below.refl _ _⟩
    case round =>
      obtain ⟨j, rfl, hj, ho, hbl⟩ := hrel
      have hbs := hbl.size
      by_cases hlt : j < a.length
      · have hlt2 : j < a.length := hlt
        obtain ⟨ad, hA, hc⟩ := (ra.below hbl (Nat.le_refl _)).at_ hlt2
        subst hA
        have htk := (List.take_append_getElem hlt2)
        have hln : (a.take j).length + 1 ≤ 140737488355328 := by simp; omega
        have ij : (j : Int) < (a.length : Int) := by omega
        generalize a[j] = x at hc htk
        have HT := Lib.hid htk
        clear htk
        go_wp2_with (first
          | (at_builtin; refine wp_append_B1 rfl (.tmp 92) (.tmp 97) rfl w3.heap.size _ _ rfl ho x _ rfl 5 rfl hln hbs ?_; intro v3 w4 ho3 hg3 _; have hb3 := hbl.grown hg3 hbs (fun g hg => (ho.lt g hg).1))
          | fail)
        go_roundw
        case rel => exact ⟨j + 1, by go_num, by omega, by rw [← HT.out]; exact ho3, hb3⟩
        case measure => simp [intOf]; omega
      · obtain rfl : a.length = j := by omega
        rw [List.take_length] at ho
        clear hlt hj hbs
        obtain ⟨A1, c1, rfl⟩ := ho.sl
        go_wp2_with fail
        go_loopw [16, 19] (fun v i wr => ∃ j : Nat, i = .int .i64 (j : Int) ∧ j ≤ W ∧ OwB wr w3.heap.size v (a ++ F.take j) ∧ Below w3.heap.size w3 wr)
          (fun _ i _ => W - (intOf i).toNat)
        case atStart => exact ⟨0, rfl, Nat.zero_le _, by rw [List.take_zero, List.append_nil]; exact ho, hbl⟩
        case round =>
          clear ho hbl
          obtain ⟨j, rfl, hj, ho, hbl⟩ := hrel
          have hbs := hbl.size
          by_cases hlt : j < W
          · have hlt2 : j < F.length := by rw [HFl.out]; exact hlt
            obtain ⟨ad, hA, hc⟩ := (rF.below hbl (Nat.le_refl _)).at_ hlt2
            subst hA
            have htk := (List.take_append_getElem hlt2)
            have hln : (a ++ F.take j).length + 1 ≤ 140737488355328 := by simp; omega
            have ij : (j : Int) < (W : Int) := by omega
            generalize F[j] = x at hc htk
            have HT := Lib.hid htk
            clear htk
            go_wp2_with (first
              | (at_builtin; refine wp_append_B1 rfl (.tmp 107) (.tmp 112) rfl w3.heap.size _ _ rfl ho x _ rfl 5 rfl hln hbs ?_; intro v3 w4 ho3 hg3 _; have hb3 := hbl.grown hg3 hbs (fun g hg => (ho.lt g hg).1))
              | fail)
            go_roundw
            case rel => exact ⟨j + 1, by go_num, by omega, by rw [← HT.out, ← List.append_assoc]; exact ho3, hb3⟩
            case measure => simp [intOf]; omega
          · obtain rfl : W = j := by omega
            rw [show F.take W = F from List.take_of_length_le (by rw [HFl.out]; exact Nat.le_refl _)] at ho
            clear hlt hj hbs
            obtain ⟨L2, hL2⟩ : ∃ L, L = a ++ F := ⟨_, rfl⟩
            rw [← hL2] at ho
            have HL2 := Lib.hid hL2
            have hm2 : L2.length ≤ 1048590 := by rw [hL2]; simp; have := HFl.out; omega
            clear hL2
            obtain ⟨A2, c2, rfl⟩ := ho.sl
            go_wp2_with fail
            go_loopw [16, 21] (fun v i wr => ∃ j : Nat, i = .int .i64 (j : Int) ∧ j ≤ U.length ∧ OwB wr w3.heap.size v (L2 ++ U.take j) ∧ Below w3.heap.size w3 wr)
              (fun _ i _ => U.length - (intOf i).toNat)
            case atStart => exact ⟨0, rfl, Nat.zero_le _, by rw [List.take_zero, List.append_nil]; exact ho, hbl⟩
            case round =>
              clear ho hbl
              obtain ⟨j, rfl, hj, ho, hbl⟩ := hrel
              have hbs := hbl.size
              by_cases hlt : j < U.length
              · have hlt2 : j < U.length := hlt
                obtain ⟨ad, hA, hc⟩ := (rU.below hbl (Nat.le_refl _)).at_ hlt2
                subst hA
                have htk := (List.take_append_getElem hlt2)
                have hln : (L2 ++ U.take j).length + 1 ≤ 140737488355328 := by simp; omega
                have ij : (j : Int) < (U.length : Int) := by omega
                generalize U[j] = x at hc htk
                have HT := Lib.hid htk
                clear htk
                go_wp2_with (first
                  | (at_builtin; refine wp_append_B1 rfl (.tmp 122) (.tmp 127) rfl w3.heap.size _ _ rfl ho x _ rfl 5 rfl hln hbs ?_; intro v3 w4 ho3 hg3 _; have hb3 := hbl.grown hg3 hbs (fun g hg => (ho.lt g hg).1))
                  | fail)
                go_roundw
                case rel => exact ⟨j + 1, by go_num, by omega, by rw [← HT.out, ← List.append_assoc]; exact ho3, hb3⟩
                case measure => simp [intOf]; omega
              · obtain rfl : U.length = j := by omega
                rw [List.take_length] at ho
                clear hlt hj hbs
                obtain ⟨L3, hL3⟩ : ∃ L, L = L2 ++ U := ⟨_, rfl⟩
                rw [← hL3] at ho
                have HL3 := Lib.hid hL3
                have hm3 : L3.length ≤ 2097200 := by rw [hL3]; simp; omega
                clear hL3
                obtain ⟨A3, c3, rfl⟩ := ho.sl
                go_wp2_with fail
                go_loopw [16, 23] (fun v i wr => ∃ j : Nat, i = .int .i64 (j : Int) ∧ j ≤ O.length ∧ OwB wr w3.heap.size v (L3 ++ O.take j) ∧ Below w3.heap.size w3 wr)
                  (fun _ i _ => O.length - (intOf i).toNat)
                case atStart => exact ⟨0, rfl, Nat.zero_le _, by rw [List.take_zero, List.append_nil]; exact ho, hbl⟩
                case round =>
                  clear ho hbl
                  obtain ⟨j, rfl, hj, ho, hbl⟩ := hrel
                  have hbs := hbl.size
                  by_cases hlt : j < O.length
                  · have hlt2 : j < O.length := hlt
                    obtain ⟨ad, hA, hc⟩ := (rO.below hbl (Nat.le_refl _)).at_ hlt2
                    subst hA
                    have htk := (List.take_append_getElem hlt2)
                    have hln : (L3 ++ O.take j).length + 1 ≤ 140737488355328 := by simp; omega
                    have ij : (j : Int) < (O.length : Int) := by omega
                    generalize O[j] = x at hc htk
                    have HT := Lib.hid htk
                    clear htk
                    go_wp2_with (first
                      | (at_builtin; refine wp_append_B1 rfl (.tmp 137) (.tmp 142) rfl w3.heap.size _ _ rfl ho x _ rfl 5 rfl hln hbs ?_; intro v3 w4 ho3 hg3 _; have hb3 := hbl.grown hg3 hbs (fun g hg => (ho.lt g hg).1))
                      | fail)
                    go_roundw
                    case rel => exact ⟨j + 1, by go_num, by omega, by rw [← HT.out, ← List.append_assoc]; exact ho3, hb3⟩
                    case measure => simp [intOf]; omega
                  · obtain rfl : O.length = j := by omega
                    rw [List.take_length] at ho
                    clear hlt hj hbs
                    obtain ⟨L4, hL4⟩ : ∃ L, L = L3 ++ O := ⟨_, rfl⟩
                    rw [← hL4] at ho
                    have HL4 := Lib.hid hL4
                    clear hL4
                    have hm4 : L4.length ≤ 8388608 := by rw [HL4.out]; simp; omega
                    obtain ⟨A4, c4, rfl⟩ := ho.sl
                    obtain ⟨m4, h4⟩ : ∃ m, m + 1 = (L3 ++ O).length := ⟨(L3 ++ O).length - 1, by simp; omega⟩
                    obtain ⟨m3, h3⟩ : ∃ m, m + 1 = (L2 ++ U).length := ⟨(L2 ++ U).length - 1, by simp; omega⟩
                    obtain ⟨m2, h2⟩ : ∃ m, m + 1 = (a ++ F).length := ⟨(a ++ F).length - 1, by simp; have := HFl.out; omega⟩
                    have k4 : L4.take m4 = L3 ++ (ordF text).dropLast := by rw [← HO.out, HL4.out]; simpa using take_short L3 O [] m4 (by omega) h4
                    have k3 : L4.take m3 = L2 ++ (uintF n).dropLast := by rw [← HU.out, HL4.out, HL3.out]; exact take_short L2 U O m3 (by omega) h3
                    have k2 : L4.take m2 = a ++ (fixedF n W).dropLast := by rw [← HF.out, HL4.out, HL3.out, HL2.out, List.append_assoc]; exact take_short a F (U ++ O) m2 (by have := HFl.out; omega) h2
                    rw [← HL4.out] at h4
                    rw [← HL3.out] at h3
                    rw [← HL2.out] at h2
                    have g4 : (L4.length : Int) - 1 = (m4 : Int) := by omega
                    have g3 : (L3.length : Int) - 1 = (m3 : Int) := by omega
                    have g2 : (L2.length : Int) - 1 = (m2 : Int) := by omega
                    have n3 : L3.length ≤ L4.length := by rw [HL4.out]; simp
                    have n2 : L2.length ≤ L3.length := by rw [HL3.out]; simp
                    obtain ⟨B4, d4, q4, r4⟩ := ho.rd.run_h m4 (by omega)
                    obtain ⟨B3, d3, q3, r3⟩ := ho.rd.run_h m3 (by omega)
                    obtain ⟨B2, d2, q2, r2⟩ := ho.rd.run_h m2 (by omega)
                    have K4 := Lib.hid k4
                    have K3 := Lib.hid k3
                    have K2 := Lib.hid k2
                    have N4 := Lib.hid h4
                    have N3 := Lib.hid h3
                    have N2 := Lib.hid h2
                    clear k4 k3 k2 h4 h3 h2
                    go_wp2_with fail
                    refine (Ro_few _ L3 text _ _ _ r4 K4.out (by simp; omega) rfl).mono ?_
                    rintro e w5 ⟨u5, rfl, hw⟩
                    have r3 := r3.below hw (Nat.le_refl _)
                    have r2 := r2.below hw (Nat.le_refl _)
                    replace ho := ho.below' hw (Nat.le_refl _)
                    replace hbl := hbl.trans (hw.mono hbl.size)
                    clear hw r4
                    go_wp2_with (first
                      | (go_at_call 23; refine (Ru_few _ L2 _ n hn _ _ r3 K3.out rfl).mono ?_; rintro e wp ⟨rfl, rfl⟩)
                      | (go_at_call 21; refine (Rf_few _ a _ n W (by omega) (by omega) _ _ _ r2 K2.out rfl rfl).mono ?_; rintro e wp ⟨rfl, rfl⟩)
                      | fail)
                    clear r3 r2 q4 q3 q2 g4 g3 g2 K4 K3 K2 N4 N3 N2
                    go_loopw [16, 33] (fun v i wr => ∃ j : Nat, i = .int .i64 (j : Int) ∧ j ≤ behind.length ∧ OwB wr w3.heap.size v (L4 ++ behind.take j) ∧ Below w3.heap.size w3 wr)
                      (fun _ i _ => behind.length - (intOf i).toNat)
                    case atStart => exact ⟨0, rfl, Nat.zero_le _, by rw [List.take_zero, List.append_nil]; exact ho, hbl⟩
                    case round =>
                      clear ho hbl
                      obtain ⟨j, rfl, hj, ho, hbl⟩ := hrel
                      have hbs := hbl.size
                      by_cases hlt : j < behind.length
                      · have hlt2 : j < behind.length := hlt
                        obtain ⟨ad, hA, hc⟩ := (rd.below hbl (Nat.le_refl _)).at_ hlt2
                        subst hA
                        have htk := (List.take_append_getElem hlt2)
                        have hln : (L4 ++ behind.take j).length + 1 ≤ 140737488355328 := by simp; omega
                        have ij : (j : Int) < (behind.length : Int) := by omega
                        generalize behind[j] = x at hc htk
                        have HT := Lib.hid htk
                        clear htk
                        go_wp2_with (first
                          | (at_builtin; refine wp_append_B1 rfl (.tmp 182) (.tmp 187) rfl w3.heap.size _ _ rfl ho x _ rfl 5 rfl hln hbs ?_; intro v3 w4 ho3 hg3 _; have hb3 := hbl.grown hg3 hbs (fun g hg => (ho.lt g hg).1))
                          | fail)
                        go_roundw
                        case rel => exact ⟨j + 1, by go_num, by omega, by rw [← HT.out, ← List.append_assoc]; exact ho3, hb3⟩
                        case measure => simp [intOf]; omega
                      · obtain rfl : behind.length = j := by omega
                        rw [List.take_length] at ho
                        clear hlt hj hbs
                        obtain ⟨L5, hL5⟩ : ∃ L, L = L4 ++ behind := ⟨_, rfl⟩
                        rw [← hL5] at ho
                        have hm5 : L5.length ≤ 140737488355327 := by rw [hL5]; simp; omega
                        have f2 : L5 = (a ++ fixedF n W) ++ ((U ++ O) ++ behind) := by rw [hL5, HL4.out, HL3.out, HL2.out, HF.out]; simp
                        have f3 : L5 = (L2 ++ uintF n) ++ (O ++ behind) := by rw [hL5, HL4.out, HL3.out, ← HU.out]; simp
                        have f4 : L5 = (L3 ++ ordF text) ++ behind := by rw [hL5, HL4.out, ← HO.out]
                        have HF2 := Lib.hid f2
                        have HF3 := Lib.hid f3
                        have HF4 := Lib.hid f4
                        have l3 : L3.length = (L2 ++ uintF n).length := by rw [HL3.out, HU.out]
                        have l4 : L4.length = (L3 ++ ordF text).length := by rw [HL4.out, HO.out]
                        have HE3 := Lib.hid l3
                        have HE4 := Lib.hid l4
                        clear hL5 f2 f3 f4 l3 l4
                        obtain ⟨r, hr⟩ : ∃ r, r = n % 256 ^ W := ⟨_, rfl⟩
                        have HR := Lib.hid hr
                        clear hr
                        go_wp2_with (first
                          | (go_at_call 21; refine (Rf_at _ a _ _ n W r HR.out (by omega) (by omega) _ _ _ ho.rd HF2.out rfl rfl).mono ?_; rintro e wp ⟨rfl, rfl⟩)
                          | (go_at_call 23; refine (Ru_at _ L2 _ _ n L3.length hn _ _ ho.rd HF3.out rfl HE3.out).mono ?_; rintro e wp ⟨rfl, rfl⟩)
                          | fail)
                        refine (Ro_at _ L3 _ text _ L4.length _ _ ho.rd HF4.out hm5 rfl HE4.out).mono ?_
                        rintro e wl ⟨ut, rfl, ot, hw⟩
                        replace hbl := hbl.trans (hw.mono hbl.size)
                        clear hw ho
                        obtain rfl : W = 8 := HW8.out
                        obtain rfl : r = n := HR.out.trans (Nat.mod_eq_of_lt (Nat.lt_of_lt_of_le hn (by decide)))
                        go_wp2_with fail
                        refine (Same_any _ _ text text _ ot.rd (rt.below (hb3.trans (hbl.mono hb3.size)) (Nat.le_refl _))).mono ?_
                        rintro e wz ⟨rfl, rfl⟩
                        rw [show (text == text) = true by simp]
                        go_wp2_with fail
                        go_ret
                        exact ⟨rfl, hb3.trans (hbl.mono hb3.size)⟩
end Go.Proofs.Ytijlebjldnhnaaa
