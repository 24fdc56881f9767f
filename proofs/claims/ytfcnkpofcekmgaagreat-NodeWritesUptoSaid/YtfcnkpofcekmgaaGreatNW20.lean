/- Texts joined: espalierref08.Size, Half, Fill -/
import Derived.Test.YtfcnkpofcekmgaaGreatNW18
import Derived.Test.YtfcnkpofcekmgaaGreatNW19
-- espalierref08.Size, Half, Fill: walks.
namespace Go.Proofs.YtfcnkpofcekmgaaGreat
open Go.RowKit
theorem fitN1_le (kind : Int) {P : Nat} (_hP : isPowB (P : Int) = true) (x : List PC) (h : fitN1 kind P x = true) : szN1 kind x ≤ P := by
  have h : encZ kind x (P : Int) = 0 := by unfold fitN1 at h; exact eq_of_beq h
  unfold encZ at h
  split at h
  · exact (encE_zero.1 h).2
  · cases h
set_option maxRecDepth 20000 in
set_option maxHeartbeats 1000000 in
theorem RNSiz_1 (kind : Int) (v : Value) (l : List CV) (w : World) (hl : RdCs w v l) (_hn : l.length ≤ 2000000000000) (hb : bigK (pcs l) ≤ 100000000000000) :
    Calls Tryz.prog 66 #[.int .i64 1, .int .i64 kind, v] w fun e w' => e = .returned (.int .i64 (szN1 kind (pcs l) : Nat)) ∧ Below w.heap.size w w' := by
  have hE := RSize_any kind v l w hl (fit_big (by omega))
  obtain ⟨A, c, rfl, hm, hc⟩ := hl.slice
  show Calls _ _ _ _ fun e w' => e = .returned (.int .i64 (sizeF (pcs l) : Nat)) ∧ Below w.heap.size w w'
  generalize sizeF (pcs l) = z at *
  clear hl hc hb
  go_enter Tryz.func66, Tryz.ntmps66
  go_wp2_with (first
    | (go_at_call 116; (with_reducible refine hE.mono ?_); rintro e w1 ⟨rfl, hb⟩)
    | fail)
  go_ret
  exact ⟨rfl, hb⟩
set_option maxRecDepth 20000 in
set_option maxHeartbeats 2000000 in
theorem RNFil_1 (kind : Int) (v : Value) (l : List CV) (P : Nat) (hp : isPowB (P : Int) = true) (w : World) (hl : RdCs w v l) (hn : l.length ≤ 2000000000000) (hb : bigK (pcs l) ≤ 100000000000000) :
    Calls Tryz.prog 31 #[.int .i64 1, .int .i64 kind, v, .int .i64 (P : Int)] w fun e w' => e = .returned (.int .i64 ((szN1 kind (pcs l) * 256 / P : Nat) : Int)) ∧ Below w.heap.size w w' := by
  have hr := isPowB_range hp
  have hi := fun W => RNIsPage_any (P : Int) W
  rw [hp] at hi
  have hE := RNSiz_1 kind v l w hl hn hb
  obtain ⟨A, c, rfl, hm, hc⟩ := hl.slice
  have hz : szN1 kind (pcs l) ≤ 1000000000000000 := by have := sizeF_big (pcs l); unfold szN1; omega
  obtain ⟨z, hzz⟩ : ∃ z, szN1 kind (pcs l) = z := ⟨_, rfl⟩
  rw [hzz] at hE hz
  have HZ := Lib.hid hzz
  have e1 : IntKind.i64.wrap ((z : Int) * 256) = (z : Int) * 256 := by rw [IntKind.wrap_i64]; omega
  have e2 : IntKind.i64.wrap ((z : Int) * 256 / (P : Int)) = (z : Int) * 256 / (P : Int) := by
    have h1 : (z : Int) * 256 / (P : Int) = ((z * 256 / P : Nat) : Int) := by push_cast; rfl
    have h2 := Nat.div_le_self (z * 256) P
    have h3 : 0 ≤ (z : Int) * 256 / (P : Int) := by rw [h1]; exact Int.natCast_nonneg _
    have h4 : (z : Int) * 256 / (P : Int) ≤ 9223372036854775807 := by
      rw [h1]; exact Int.le_trans (Int.ofNat_le.2 h2) (by omega)
    rw [IntKind.wrap_i64]
    generalize (z : Int) * 256 / (P : Int) = q at *
    omega
  have e3 : ((P : Int) == 0) = false := beq_eq_false_iff_ne.2 (by omega)
  have e4 : ¬ (P : Int) = 0 := by omega
  clear hl hc hp hb hn hzz
  go_enter Tryz.func31, Tryz.ntmps31
  go_wp2_with (first
    | (go_at_call 65; (with_reducible refine (hi _).mono ?_); rintro e w3 ⟨rfl, rfl⟩)
    | (go_at_call 66; (with_reducible refine hE.mono ?_); rintro e w4 ⟨rfl, hw4⟩)
    | fail)
  go_ret
  have h9 : ((szN1 kind (pcs l) * 256 / P : Nat) : Int) = (z : Int) * 256 / (P : Int) := by rw [HZ.out]; push_cast; rfl
  rw [h9]
  exact ⟨rfl, hw4⟩
set_option maxRecDepth 20000 in
set_option maxHeartbeats 1000000 in
theorem RNFil_bad_1 (kind P : Int) (hp : isPowB P = false) (A : Option Addr) (m c : Nat) (w : World) :
    Calls Tryz.prog 31 #[.int .i64 1, .int .i64 kind, .slice A m c, .int .i64 P] w fun e w' => e = .returned (.int .i64 0) ∧ Below w.heap.size w w' := by
  have hi := fun W => RNIsPage_any P W
  rw [hp] at hi
  clear hp
  go_enter Tryz.func31, Tryz.ntmps31
  go_wp2_with (first
    | (go_at_call 65; (with_reducible refine (hi _).mono ?_); rintro e w3 ⟨rfl, rfl⟩)
    | fail)
  go_ret
  exact ⟨rfl, Below.refl _ _⟩
set_option maxRecDepth 20000 in
set_option maxHeartbeats 1000000 in
theorem NdFil_bad_1 (kind P : Int) (hPr : i64r P) (hp : isPowB P = false) (A : Option Addr) (m c : Nat) (w : World) :
    Calls Tryz.prog 27 #[.int .i64 1, .int .i64 kind, .slice A m c, .int .i64 P] w fun e w' => e = .returned (.int .i64 0) ∧ Below w.heap.size w w' := by
  have hsf := st_func
  have hi := fun W => NdIsPage_any P hPr W
  rw [hp] at hi
  clear hp
  go_enter Tryz.func27, Tryz.ntmps27
  go_wp2_with (first
    | (go_at_call 38; (with_reducible refine (of_1 _).mono ?_); rintro e w1 ⟨rfl, hw1⟩)
    | (go_at_call 62; (with_reducible refine (hi _).mono ?_); rintro e w3 ⟨rfl, rfl⟩)
    | fail)
  go_ret
  exact ⟨rfl, hw1.alloc hw1.size _⟩
set_option maxRecDepth 100000 in
set_option maxHeartbeats 16000000 in
theorem RNHalf_1_2 (v : Value) (l : List CV) (P : Nat) (hp : isPowB (P : Int) = true) (w : World) (hl : RdCs w v l) (hn : l.length * 72 ≤ 140737488355328) (hb : bigK (pcs l) ≤ 100000000000000) :
    Calls Tryz.prog 32 #[.int .i64 1, .int .i64 2, v, .int .i64 (P : Int)] w fun e w' => e = .returned (.tuple #[.int .i64 (halfA (szN1 2) (fitN1 2 P) 2 (pcs l) P : Nat), .int .i64 (halfZ (szN1 2) (fitN1 2 P) 2 (pcs l) P)]) ∧ Below w.heap.size w w' := by
  have hr := isPowB_range hp
  have hi := fun W => RNIsPage_any (P : Int) W
  rw [hp] at hi
  obtain ⟨n, hnn⟩ : ∃ n, l.length = n := ⟨_, rfl⟩
  have HNN := Lib.hid hnn
  have hhl : halfA (szN1 2) (fitN1 2 P) 2 (pcs l) P = (rLoop (szN1 2) (fitN1 2 P) 2 (pcs l) (n - 3) 2 (0, 0)).2 := by
    unfold halfA halfS
    rw [pcs_length, hnn]
    exact (rLoop_eq (szN1 2) (fitN1 2 P) 2 (pcs l) (P := P) (fitN1_le 2 hp) (n - 3) 2 (P + 1, 0) (0, 0) (Nat.le_refl _) rfl (fun _ => rfl) (fun h => absurd rfl h)).symm
  have HL0 := Lib.hid hhl
  have hl0 := hl
  obtain ⟨A, c, rfl, hm, hc⟩ := hl.slice
  rw [hnn] at hm hl0 hn ⊢
  have HB := Lib.hid hb
  have HLL := Lib.hid hl0
  clear hl hc hp hnn hb hhl hl0
  have e2 : (n : Int) ≤ 9223372036854775807 := by omega
  go_enter Tryz.func32, Tryz.ntmps32
  go_upto_region 9 with (first
    | (go_at_call 65; (with_reducible refine (hi _).mono ?_); rintro e w3 ⟨rfl, rfl⟩)
    | fail)
  clear hi
  go_loopw [11, 12, 13] (fun av bv kv wr => ∃ (k b a : Nat), 2 ≤ k ∧ k ≤ n + 2 ∧ b ≤ 4000000000000000000 ∧ a ≤ n ∧ kv = .int .i64 (k : Int) ∧ bv = .int .i64 (b : Int) ∧ av = .int .i64 (a : Int) ∧ Hid (halfA (szN1 2) (fitN1 2 P) 2 (pcs l) P = (rLoop (szN1 2) (fitN1 2 P) 2 (pcs l) (n - 1 - k) k (b, a)).2) ∧ Below w.heap.size w wr) (fun _ _ kv _ => n + 2 - (intOf kv).toNat)
  case atStart => exact ⟨2, 0, 0, by omega, by omega, by omega, by omega, rfl, rfl, rfl, HL0, Below.refl _ _⟩
  case round =>
    clear HL0
    obtain ⟨k, b, a, hk2, hkn, hbP, han, rfl, rfl, rfl, HL, hB⟩ := hrel
    have ekw : IntKind.i64.wrap ((k : Int) + 2) = (k : Int) + 2 := by rw [IntKind.wrap_i64]; omega
    by_cases hlt : k + 2 ≤ n
    · have ik : (k : Int) + 2 ≤ (n : Int) := by omega
      have hkl : k ≤ l.length := by rw [HNN.out]; omega
      have hl1 := HLL.out.below hB
      have hR := Right_2 (.slice A n c) l k hkl wr hl1 (by rw [HNN.out]; exact hn)
      rw [show (rightC 2 l k).length = n - k by rw [rightC_length, HNN.out]] at hR
      go_upto_region 12 with (first
        | (go_at_call 59; (with_reducible refine hR.mono ?_); rintro e w1 ⟨R, rc, rfl, hS1⟩)
        | fail)
      have hb1 : Below wr.heap.size wr w1 := hS1.belowOld (_v := wr) (by simp)
      have hl2 := hl1.below hb1
      have hor : Own w1 0 43 5 (.slice R (n - k) rc) (rightC 2 l k).length (flatC (rightC 2 l k)) := by rw [rightC_length, HNN.out]; exact hS1.head
      have hrr := rightC_rd hor hl2
      obtain ⟨A2, c2, hs2, hr2⟩ := hl2.run_h k hkl
      have hbt : bigK (pcs (l.take k)) ≤ 100000000000000 := by rw [pcs_take]; have := bigK_take (pcs l) k; have := HB.out; omega
      have hbr : bigK (pcs (rightC 2 l k)) ≤ 100000000000000 := by rw [pcs_rightC]; have := bigK_right 2 (pcs l) k; have := HB.out; omega
      have hsl := fun W (hW : Below w1.heap.size w1 W) => RNSiz_1 2 (.slice A2 k c2) (l.take k) W (hr2.below hW) (by rw [List.length_take, HNN.out]; omega) hbt
      have hsr := fun W (hW : Below w1.heap.size w1 W) => RNSiz_1 2 (.slice R (n - k) rc) (rightC 2 l k) W (hrr.below hW) (by rw [rightC_length, HNN.out]; omega) hbr
      have hzl := szN1_le 2 (show bigK (pcs (l.take k)) ≤ 1000000000000000000 by omega)
      have hzr := szN1_le 2 (show bigK (pcs (rightC 2 l k)) ≤ 1000000000000000000 by omega)
      have hft := fun W (hW : Below w1.heap.size w1 W) => RNFit_1 2 (.slice A2 k c2) (l.take k) (P : Int) W (hr2.below hW) (by rw [List.length_take, HNN.out]; omega)
      have hfr := fun W (hW : Below w1.heap.size w1 W) => RNFit_1 2 (.slice R (n - k) rc) (rightC 2 l k) (P : Int) W (hrr.below hW) (by rw [rightC_length, HNN.out]; omega)
      have hmo : hMost (szN1 2) 2 (pcs l) k = max (szN1 2 (pcs (l.take k))) (szN1 2 (pcs (rightC 2 l k))) := by unfold hMost; rw [pcs_take, pcs_rightC]
      have hfl1 : fitN1 2 P ((pcs l).take k) = (encZ 2 (pcs (l.take k)) (P : Int) == 0) := by rw [pcs_take]; rfl
      have hfr1 : fitN1 2 P (rightF 2 (pcs l) k) = (encZ 2 (pcs (rightC 2 l k)) (P : Int) == 0) := by rw [pcs_rightC]; rfl
      rw [← hfl1] at hft
      rw [← hfr1] at hfr
      have hst : rStep (szN1 2) (fitN1 2 P) 2 (pcs l) k (b, a) = if fitN1 2 P ((pcs l).take k) = true ∧ fitN1 2 P (rightF 2 (pcs l) k) = true ∧ (a = 0 ∨ max (szN1 2 (pcs (l.take k))) (szN1 2 (pcs (rightC 2 l k))) < b) then (max (szN1 2 (pcs (l.take k))) (szN1 2 (pcs (rightC 2 l k))), k) else (b, a) := by unfold rStep; rw [hmo]
      have hnx : rLoop (szN1 2) (fitN1 2 P) 2 (pcs l) (n - 1 - k) k (b, a) = rLoop (szN1 2) (fitN1 2 P) 2 (pcs l) (n - 1 - (k + 1)) (k + 1) (rStep (szN1 2) (fitN1 2 P) 2 (pcs l) k (b, a)) := by rw [show n - 1 - k = (n - 1 - (k + 1)) + 1 by omega]; rfl
      rw [hst] at hnx
      have HNX := Lib.hid (HL.out.trans (congrArg Prod.snd hnx))
      have HSL := Lib.hid hsl
      have HSR := Lib.hid hsr
      have HFT := Lib.hid hft
      have HFR := Lib.hid hfr
      have HB1 := Lib.hid (hB.trans (hb1.mono hB.size))
      have hq1 := Below.refl w1.heap.size w1
      clear hl1 hR hl2 hr2 hor hrr hbt hbr hsl hsr hft hfr hmo hfl1 hfr1 hst hnx HL hS1 hb1 hB
      generalize szN1 2 (pcs (l.take k)) = zl at *
      generalize szN1 2 (pcs (rightC 2 l k)) = zr at *
      generalize fitN1 2 P ((pcs l).take k) = fl at *
      generalize fitN1 2 P (rightF 2 (pcs l) k) = fr at *
      go_upto_region 14 with (first
        | (go_at_call 67; (with_reducible refine (HFT.out _ hq1).mono ?_); rintro e w2 ⟨rfl, hw2⟩; have hq2 := hq1.trans (hw2.mono hq1.size))
        | (go_at_call 67; (with_reducible refine (HFR.out _ hq2).mono ?_); rintro e w3 ⟨rfl, hw3⟩; have hq3 := hq2.trans (hw3.mono hq2.size))
        | fail)
      clear hw2 hw3 hq1 hq2 HFT HFR
      go_cut [17] (fun mv wx => mv = .int .i64 ((max zl zr : Nat) : Int) ∧ Below w1.heap.size w1 wx)
      case first =>
        go_wp2_with (first
          | (go_at_call 66; (with_reducible refine (HSL.out _ hq3).mono ?_); rintro e w5 ⟨rfl, hw5⟩; have hb5 := hq3.trans (hw5.mono hq3.size))
          | (go_at_call 66; (with_reducible refine (HSR.out _ hb5).mono ?_); rintro e w6 ⟨rfl, hw6⟩; have hb6 := hb5.trans (hw6.mono hb5.size))
          | fail)
        all_goals go_meet
        all_goals first
          | exact ⟨by rw [show max zl zr = zr by omega], hb6⟩
          | exact ⟨by rw [show max zl zr = zl by omega], hb6⟩
      case rest =>
        obtain ⟨rfl, hwx⟩ := hcut
        have hwx2 := HB1.out.trans (hwx.mono HB1.out.size)
        have HWX := Lib.hid hwx2
        clear hwx hwx2 HSL HSR hq3 hs2
        have hmx : max zl zr ≤ 4000000000000000000 := by omega
        have hml : max zl zr < b ∨ b ≤ max zl zr := Nat.lt_or_ge _ _
        generalize max zl zr = mx at *
        have hE : ∀ (s' : Nat × Nat), (if fl = true ∧ fr = true ∧ (a = 0 ∨ mx < b) then (mx, k) else (b, a)) = s' → halfA (szN1 2) (fitN1 2 P) 2 (pcs l) P = (rLoop (szN1 2) (fitN1 2 P) 2 (pcs l) (n - 1 - (k + 1)) (k + 1) s').2 := fun s' h => h ▸ HNX.out
        have HE := Lib.hid hE
        clear HNX hE
        cases fl
        case false =>
          have HN2 := Lib.hid (HE.out (b, a) (if_neg (by simp)))
          clear HE
          go_wp2_with (fail)
          go_roundw
          case rel => exact ⟨k + 1, b, a, by omega, by omega, hbP, han, by go_num, rfl, rfl, HN2, HWX.out⟩
          case measure => simp [intOf]; omega
        case true =>
          cases fr
          case false =>
            have HN2 := Lib.hid (HE.out (b, a) (if_neg (by simp)))
            clear HE
            go_wp2_with (fail)
            go_roundw
            case rel => exact ⟨k + 1, b, a, by omega, by omega, hbP, han, by go_num, rfl, rfl, HN2, HWX.out⟩
            case measure => simp [intOf]; omega
          case true =>
            rcases Nat.eq_zero_or_pos a with h | h
            · subst h
              have HN2 := Lib.hid (HE.out (mx, k) (if_pos ⟨rfl, rfl, .inl rfl⟩))
              clear HE hml
              go_wp2_with (fail)
              go_roundw
              case rel => exact ⟨k + 1, mx, k, by omega, by omega, hmx, by omega, by go_num, rfl, rfl, HN2, HWX.out⟩
              case measure => simp [intOf]; omega
            · have ia : ((a : Int) == 0) = false := beq_eq_false_iff_ne.2 (by omega)
              rcases hml with hlb | hlb
              · have ilb : (mx : Int) < (b : Int) := by omega
                have HN2 := Lib.hid (HE.out (mx, k) (if_pos ⟨rfl, rfl, .inr hlb⟩))
                clear HE
                go_wp2_with (fail)
                go_roundw
                case rel => exact ⟨k + 1, mx, k, by omega, by omega, hmx, by omega, by go_num, rfl, rfl, HN2, HWX.out⟩
                case measure => simp [intOf]; omega
              · have ilb : (b : Int) ≤ (mx : Int) := by omega
                have HN2 := Lib.hid (HE.out (b, a) (if_neg (by omega)))
                clear HE
                go_wp2_with (fail)
                go_roundw
                case rel => exact ⟨k + 1, b, a, by omega, by omega, hbP, han, by go_num, rfl, rfl, HN2, HWX.out⟩
                case measure => simp [intOf]; omega
    · have hfin : halfA (szN1 2) (fitN1 2 P) 2 (pcs l) P = a := by rw [HL.out, show n - 1 - k = 0 by omega]; rfl
      have HFIN := Lib.hid hfin
      have HBO := Lib.hid hB
      clear hB HL hfin
      have ik : (n : Int) < (k : Int) + 2 := by omega
      rcases Nat.eq_zero_or_pos a with h | h
      · subst h
        go_wp2_with (fail)
        go_ret2
        exact ⟨by unfold halfZ; rw [HFIN.out]; rfl, HBO.out⟩
      · have ia : ((a : Int) == 0) = false := beq_eq_false_iff_ne.2 (by omega)
        go_wp2_with (fail)
        go_ret2
        exact ⟨by unfold halfZ; rw [HFIN.out, if_neg (by omega)]; rfl, HBO.out⟩
set_option maxRecDepth 100000 in
set_option maxHeartbeats 16000000 in
theorem RNHalf_1_3 (v : Value) (l : List CV) (P : Nat) (hp : isPowB (P : Int) = true) (w : World) (hl : RdCs w v l) (hn : l.length * 72 ≤ 140737488355328) (hb : bigK (pcs l) ≤ 100000000000000) :
    Calls Tryz.prog 32 #[.int .i64 1, .int .i64 3, v, .int .i64 (P : Int)] w fun e w' => e = .returned (.tuple #[.int .i64 (halfA (szN1 3) (fitN1 3 P) 3 (pcs l) P : Nat), .int .i64 (halfZ (szN1 3) (fitN1 3 P) 3 (pcs l) P)]) ∧ Below w.heap.size w w' := by
  have hr := isPowB_range hp
  have hi := fun W => RNIsPage_any (P : Int) W
  rw [hp] at hi
  obtain ⟨n, hnn⟩ : ∃ n, l.length = n := ⟨_, rfl⟩
  have HNN := Lib.hid hnn
  have hhl : halfA (szN1 3) (fitN1 3 P) 3 (pcs l) P = (rLoop (szN1 3) (fitN1 3 P) 3 (pcs l) (n - 3) 2 (0, 0)).2 := by
    unfold halfA halfS
    rw [pcs_length, hnn]
    exact (rLoop_eq (szN1 3) (fitN1 3 P) 3 (pcs l) (P := P) (fitN1_le 3 hp) (n - 3) 2 (P + 1, 0) (0, 0) (Nat.le_refl _) rfl (fun _ => rfl) (fun h => absurd rfl h)).symm
  have HL0 := Lib.hid hhl
  have hl0 := hl
  obtain ⟨A, c, rfl, hm, hc⟩ := hl.slice
  rw [hnn] at hm hl0 hn ⊢
  have HB := Lib.hid hb
  have HLL := Lib.hid hl0
  clear hl hc hp hnn hb hhl hl0
  have e2 : (n : Int) ≤ 9223372036854775807 := by omega
  go_enter Tryz.func32, Tryz.ntmps32
  go_upto_region 9 with (first
    | (go_at_call 65; (with_reducible refine (hi _).mono ?_); rintro e w3 ⟨rfl, rfl⟩)
    | fail)
  clear hi
  go_loopw [11, 12, 13] (fun av bv kv wr => ∃ (k b a : Nat), 2 ≤ k ∧ k ≤ n + 2 ∧ b ≤ 4000000000000000000 ∧ a ≤ n ∧ kv = .int .i64 (k : Int) ∧ bv = .int .i64 (b : Int) ∧ av = .int .i64 (a : Int) ∧ Hid (halfA (szN1 3) (fitN1 3 P) 3 (pcs l) P = (rLoop (szN1 3) (fitN1 3 P) 3 (pcs l) (n - 1 - k) k (b, a)).2) ∧ Below w.heap.size w wr) (fun _ _ kv _ => n + 2 - (intOf kv).toNat)
  case atStart => exact ⟨2, 0, 0, by omega, by omega, by omega, by omega, rfl, rfl, rfl, HL0, Below.refl _ _⟩
  case round =>
    clear HL0
    obtain ⟨k, b, a, hk2, hkn, hbP, han, rfl, rfl, rfl, HL, hB⟩ := hrel
    have ekw : IntKind.i64.wrap ((k : Int) + 2) = (k : Int) + 2 := by rw [IntKind.wrap_i64]; omega
    by_cases hlt : k + 2 ≤ n
    · have ik : (k : Int) + 2 ≤ (n : Int) := by omega
      have hkl : k ≤ l.length := by rw [HNN.out]; omega
      have hl1 := HLL.out.below hB
      have hR := Right_3 (.slice A n c) l k hkl wr hl1 (by rw [HNN.out]; exact hn)
      rw [show (rightC 3 l k).length = n - k by rw [rightC_length, HNN.out]] at hR
      go_upto_region 12 with (first
        | (go_at_call 59; (with_reducible refine hR.mono ?_); rintro e w1 ⟨R, rc, rfl, hS1⟩)
        | fail)
      have hb1 : Below wr.heap.size wr w1 := hS1.belowOld (_v := wr) (by simp)
      have hl2 := hl1.below hb1
      have hor : Own w1 0 43 5 (.slice R (n - k) rc) (rightC 3 l k).length (flatC (rightC 3 l k)) := by rw [rightC_length, HNN.out]; exact hS1.head
      have hrr := rightC_rd hor hl2
      obtain ⟨A2, c2, hs2, hr2⟩ := hl2.run_h k hkl
      have hbt : bigK (pcs (l.take k)) ≤ 100000000000000 := by rw [pcs_take]; have := bigK_take (pcs l) k; have := HB.out; omega
      have hbr : bigK (pcs (rightC 3 l k)) ≤ 100000000000000 := by rw [pcs_rightC]; have := bigK_right 3 (pcs l) k; have := HB.out; omega
      have hsl := fun W (hW : Below w1.heap.size w1 W) => RNSiz_1 3 (.slice A2 k c2) (l.take k) W (hr2.below hW) (by rw [List.length_take, HNN.out]; omega) hbt
      have hsr := fun W (hW : Below w1.heap.size w1 W) => RNSiz_1 3 (.slice R (n - k) rc) (rightC 3 l k) W (hrr.below hW) (by rw [rightC_length, HNN.out]; omega) hbr
      have hzl := szN1_le 3 (show bigK (pcs (l.take k)) ≤ 1000000000000000000 by omega)
      have hzr := szN1_le 3 (show bigK (pcs (rightC 3 l k)) ≤ 1000000000000000000 by omega)
      have hft := fun W (hW : Below w1.heap.size w1 W) => RNFit_1 3 (.slice A2 k c2) (l.take k) (P : Int) W (hr2.below hW) (by rw [List.length_take, HNN.out]; omega)
      have hfr := fun W (hW : Below w1.heap.size w1 W) => RNFit_1 3 (.slice R (n - k) rc) (rightC 3 l k) (P : Int) W (hrr.below hW) (by rw [rightC_length, HNN.out]; omega)
      have hmo : hMost (szN1 3) 3 (pcs l) k = max (szN1 3 (pcs (l.take k))) (szN1 3 (pcs (rightC 3 l k))) := by unfold hMost; rw [pcs_take, pcs_rightC]
      have hfl1 : fitN1 3 P ((pcs l).take k) = (encZ 3 (pcs (l.take k)) (P : Int) == 0) := by rw [pcs_take]; rfl
      have hfr1 : fitN1 3 P (rightF 3 (pcs l) k) = (encZ 3 (pcs (rightC 3 l k)) (P : Int) == 0) := by rw [pcs_rightC]; rfl
      rw [← hfl1] at hft
      rw [← hfr1] at hfr
      have hst : rStep (szN1 3) (fitN1 3 P) 3 (pcs l) k (b, a) = if fitN1 3 P ((pcs l).take k) = true ∧ fitN1 3 P (rightF 3 (pcs l) k) = true ∧ (a = 0 ∨ max (szN1 3 (pcs (l.take k))) (szN1 3 (pcs (rightC 3 l k))) < b) then (max (szN1 3 (pcs (l.take k))) (szN1 3 (pcs (rightC 3 l k))), k) else (b, a) := by unfold rStep; rw [hmo]
      have hnx : rLoop (szN1 3) (fitN1 3 P) 3 (pcs l) (n - 1 - k) k (b, a) = rLoop (szN1 3) (fitN1 3 P) 3 (pcs l) (n - 1 - (k + 1)) (k + 1) (rStep (szN1 3) (fitN1 3 P) 3 (pcs l) k (b, a)) := by rw [show n - 1 - k = (n - 1 - (k + 1)) + 1 by omega]; rfl
      rw [hst] at hnx
      have HNX := Lib.hid (HL.out.trans (congrArg Prod.snd hnx))
      have HSL := Lib.hid hsl
      have HSR := Lib.hid hsr
      have HFT := Lib.hid hft
      have HFR := Lib.hid hfr
      have HB1 := Lib.hid (hB.trans (hb1.mono hB.size))
      have hq1 := Below.refl w1.heap.size w1
      clear hl1 hR hl2 hr2 hor hrr hbt hbr hsl hsr hft hfr hmo hfl1 hfr1 hst hnx HL hS1 hb1 hB
      generalize szN1 3 (pcs (l.take k)) = zl at *
      generalize szN1 3 (pcs (rightC 3 l k)) = zr at *
      generalize fitN1 3 P ((pcs l).take k) = fl at *
      generalize fitN1 3 P (rightF 3 (pcs l) k) = fr at *
      go_upto_region 14 with (first
        | (go_at_call 67; (with_reducible refine (HFT.out _ hq1).mono ?_); rintro e w2 ⟨rfl, hw2⟩; have hq2 := hq1.trans (hw2.mono hq1.size))
        | (go_at_call 67; (with_reducible refine (HFR.out _ hq2).mono ?_); rintro e w3 ⟨rfl, hw3⟩; have hq3 := hq2.trans (hw3.mono hq2.size))
        | fail)
      clear hw2 hw3 hq1 hq2 HFT HFR
      go_cut [17] (fun mv wx => mv = .int .i64 ((max zl zr : Nat) : Int) ∧ Below w1.heap.size w1 wx)
      case first =>
        go_wp2_with (first
          | (go_at_call 66; (with_reducible refine (HSL.out _ hq3).mono ?_); rintro e w5 ⟨rfl, hw5⟩; have hb5 := hq3.trans (hw5.mono hq3.size))
          | (go_at_call 66; (with_reducible refine (HSR.out _ hb5).mono ?_); rintro e w6 ⟨rfl, hw6⟩; have hb6 := hb5.trans (hw6.mono hb5.size))
          | fail)
        all_goals go_meet
        all_goals first
          | exact ⟨by rw [show max zl zr = zr by omega], hb6⟩
          | exact ⟨by rw [show max zl zr = zl by omega], hb6⟩
      case rest =>
        obtain ⟨rfl, hwx⟩ := hcut
        have hwx2 := HB1.out.trans (hwx.mono HB1.out.size)
        have HWX := Lib.hid hwx2
        clear hwx hwx2 HSL HSR hq3 hs2
        have hmx : max zl zr ≤ 4000000000000000000 := by omega
        have hml : max zl zr < b ∨ b ≤ max zl zr := Nat.lt_or_ge _ _
        generalize max zl zr = mx at *
        have hE : ∀ (s' : Nat × Nat), (if fl = true ∧ fr = true ∧ (a = 0 ∨ mx < b) then (mx, k) else (b, a)) = s' → halfA (szN1 3) (fitN1 3 P) 3 (pcs l) P = (rLoop (szN1 3) (fitN1 3 P) 3 (pcs l) (n - 1 - (k + 1)) (k + 1) s').2 := fun s' h => h ▸ HNX.out
        have HE := Lib.hid hE
        clear HNX hE
        cases fl
        case false =>
          have HN2 := Lib.hid (HE.out (b, a) (if_neg (by simp)))
          clear HE
          go_wp2_with (fail)
          go_roundw
          case rel => exact ⟨k + 1, b, a, by omega, by omega, hbP, han, by go_num, rfl, rfl, HN2, HWX.out⟩
          case measure => simp [intOf]; omega
        case true =>
          cases fr
          case false =>
            have HN2 := Lib.hid (HE.out (b, a) (if_neg (by simp)))
            clear HE
            go_wp2_with (fail)
            go_roundw
            case rel => exact ⟨k + 1, b, a, by omega, by omega, hbP, han, by go_num, rfl, rfl, HN2, HWX.out⟩
            case measure => simp [intOf]; omega
          case true =>
            rcases Nat.eq_zero_or_pos a with h | h
            · subst h
              have HN2 := Lib.hid (HE.out (mx, k) (if_pos ⟨rfl, rfl, .inl rfl⟩))
              clear HE hml
              go_wp2_with (fail)
              go_roundw
              case rel => exact ⟨k + 1, mx, k, by omega, by omega, hmx, by omega, by go_num, rfl, rfl, HN2, HWX.out⟩
              case measure => simp [intOf]; omega
            · have ia : ((a : Int) == 0) = false := beq_eq_false_iff_ne.2 (by omega)
              rcases hml with hlb | hlb
              · have ilb : (mx : Int) < (b : Int) := by omega
                have HN2 := Lib.hid (HE.out (mx, k) (if_pos ⟨rfl, rfl, .inr hlb⟩))
                clear HE
                go_wp2_with (fail)
                go_roundw
                case rel => exact ⟨k + 1, mx, k, by omega, by omega, hmx, by omega, by go_num, rfl, rfl, HN2, HWX.out⟩
                case measure => simp [intOf]; omega
              · have ilb : (b : Int) ≤ (mx : Int) := by omega
                have HN2 := Lib.hid (HE.out (b, a) (if_neg (by omega)))
                clear HE
                go_wp2_with (fail)
                go_roundw
                case rel => exact ⟨k + 1, b, a, by omega, by omega, hbP, han, by go_num, rfl, rfl, HN2, HWX.out⟩
                case measure => simp [intOf]; omega
    · have hfin : halfA (szN1 3) (fitN1 3 P) 3 (pcs l) P = a := by rw [HL.out, show n - 1 - k = 0 by omega]; rfl
      have HFIN := Lib.hid hfin
      have HBO := Lib.hid hB
      clear hB HL hfin
      have ik : (n : Int) < (k : Int) + 2 := by omega
      rcases Nat.eq_zero_or_pos a with h | h
      · subst h
        go_wp2_with (fail)
        go_ret2
        exact ⟨by unfold halfZ; rw [HFIN.out]; rfl, HBO.out⟩
      · have ia : ((a : Int) == 0) = false := beq_eq_false_iff_ne.2 (by omega)
        go_wp2_with (fail)
        go_ret2
        exact ⟨by unfold halfZ; rw [HFIN.out, if_neg (by omega)]; rfl, HBO.out⟩
set_option maxRecDepth 100000 in
set_option maxHeartbeats 4000000 in
theorem RNHalf_bad_1 (kind P : Int) (A : Option Addr) (m c : Nat) (hbad : (kind ≠ 2 ∧ kind ≠ 3) ∨ isPowB P = false) (w : World) :
    Calls Tryz.prog 32 #[.int .i64 1, .int .i64 kind, .slice A m c, .int .i64 P] w fun e w' => e = .returned (.tuple #[.int .i64 0, .int .i64 1]) ∧ Below w.heap.size w w' := by
  have hi := fun W => RNIsPage_any P W
  by_cases hk : kind ≠ 2 ∧ kind ≠ 3
  · obtain ⟨h2, h3⟩ := hk
    have k2 : (kind != 2) = true := bne_iff_ne.2 h2
    have k3 : (kind != 3) = true := bne_iff_ne.2 h3
    clear hbad h2 h3
    generalize isPowB P = bp at *
    go_enter Tryz.func32, Tryz.ntmps32
    go_wp2_with (first
      | (go_at_call 65; (with_reducible refine (hi _).mono ?_); rintro e w3 ⟨rfl, rfl⟩)
      | fail)
    go_ret2
    exact ⟨rfl, Below.refl _ _⟩
  · have hP : isPowB P = false := by rcases hbad with h | h; exact absurd h hk; exact h
    rw [hP] at hi
    have hk2 : kind = 2 ∨ kind = 3 := by omega
    clear hbad hk hP
    rcases hk2 with rfl | rfl
    all_goals
      go_enter Tryz.func32, Tryz.ntmps32
      go_wp2_with (first
        | (go_at_call 65; (with_reducible refine (hi _).mono ?_); rintro e w3 ⟨rfl, rfl⟩)
        | fail)
      go_ret2
      exact ⟨rfl, Below.refl _ _⟩
theorem fitN2_le (kind : Int) {P : Nat} (_hP : isPowB (P : Int) = true) (x : List PC) (h : fitN2 kind P x = true) : szN2 kind x ≤ P := by
  have h : encKZ kind x (P : Int) = 0 := by unfold fitN2 at h; exact eq_of_beq h
  unfold encKZ at h
  split at h
  · exact (encK_zero.1 h).2
  · cases h
set_option maxRecDepth 20000 in
set_option maxHeartbeats 1000000 in
theorem RNSiz_2 (kind : Int) (v : Value) (l : List CV) (w : World) (hl : RdCs w v l) (hn : l.length ≤ 2000000000000) (hb : bigK (pcs l) ≤ 100000000000000) :
    Calls Tryz.prog 66 #[.int .i64 2, .int .i64 kind, v] w fun e w' => e = .returned (.int .i64 (szN2 kind (pcs l) : Nat)) ∧ Below w.heap.size w w' := by
  have hE := RKSize_any kind v l w hl hn (by omega) (fun x hx => by have := bigK_mem (show x.c ∈ pcs l from List.mem_map_of_mem hx); omega)
  obtain ⟨A, c, rfl, hm, hc⟩ := hl.slice
  show Calls _ _ _ _ fun e w' => e = .returned (.int .i64 (psizeF kind (pcs l) : Nat)) ∧ Below w.heap.size w w'
  generalize psizeF kind (pcs l) = z at *
  clear hl hc hb
  go_enter Tryz.func66, Tryz.ntmps66
  go_wp2_with (first
    | (go_at_call 122; (with_reducible refine hE.mono ?_); rintro e w1 ⟨rfl, hb⟩)
    | fail)
  go_ret
  exact ⟨rfl, hb⟩
set_option maxRecDepth 20000 in
set_option maxHeartbeats 2000000 in
theorem RNFil_2 (kind : Int) (v : Value) (l : List CV) (P : Nat) (hp : isPowB (P : Int) = true) (w : World) (hl : RdCs w v l) (hn : l.length ≤ 2000000000000) (hb : bigK (pcs l) ≤ 100000000000000) :
    Calls Tryz.prog 31 #[.int .i64 2, .int .i64 kind, v, .int .i64 (P : Int)] w fun e w' => e = .returned (.int .i64 ((szN2 kind (pcs l) * 256 / P : Nat) : Int)) ∧ Below w.heap.size w w' := by
  have hr := isPowB_range hp
  have hi := fun W => RNIsPage_any (P : Int) W
  rw [hp] at hi
  have hE := RNSiz_2 kind v l w hl hn hb
  obtain ⟨A, c, rfl, hm, hc⟩ := hl.slice
  have hz : szN2 kind (pcs l) ≤ 1000000000000000 := by have := psizeF_big kind (show bigK (pcs l) ≤ 1000000000000000000 by omega); unfold szN2; omega
  obtain ⟨z, hzz⟩ : ∃ z, szN2 kind (pcs l) = z := ⟨_, rfl⟩
  rw [hzz] at hE hz
  have HZ := Lib.hid hzz
  have e1 : IntKind.i64.wrap ((z : Int) * 256) = (z : Int) * 256 := by rw [IntKind.wrap_i64]; omega
  have e2 : IntKind.i64.wrap ((z : Int) * 256 / (P : Int)) = (z : Int) * 256 / (P : Int) := by
    have h1 : (z : Int) * 256 / (P : Int) = ((z * 256 / P : Nat) : Int) := by push_cast; rfl
    have h2 := Nat.div_le_self (z * 256) P
    have h3 : 0 ≤ (z : Int) * 256 / (P : Int) := by rw [h1]; exact Int.natCast_nonneg _
    have h4 : (z : Int) * 256 / (P : Int) ≤ 9223372036854775807 := by
      rw [h1]; exact Int.le_trans (Int.ofNat_le.2 h2) (by omega)
    rw [IntKind.wrap_i64]
    generalize (z : Int) * 256 / (P : Int) = q at *
    omega
  have e3 : ((P : Int) == 0) = false := beq_eq_false_iff_ne.2 (by omega)
  have e4 : ¬ (P : Int) = 0 := by omega
  clear hl hc hp hb hn hzz
  go_enter Tryz.func31, Tryz.ntmps31
  go_wp2_with (first
    | (go_at_call 65; (with_reducible refine (hi _).mono ?_); rintro e w3 ⟨rfl, rfl⟩)
    | (go_at_call 66; (with_reducible refine hE.mono ?_); rintro e w4 ⟨rfl, hw4⟩)
    | fail)
  go_ret
  have h9 : ((szN2 kind (pcs l) * 256 / P : Nat) : Int) = (z : Int) * 256 / (P : Int) := by rw [HZ.out]; push_cast; rfl
  rw [h9]
  exact ⟨rfl, hw4⟩
set_option maxRecDepth 20000 in
set_option maxHeartbeats 1000000 in
theorem RNFil_bad_2 (kind P : Int) (hp : isPowB P = false) (A : Option Addr) (m c : Nat) (w : World) :
    Calls Tryz.prog 31 #[.int .i64 2, .int .i64 kind, .slice A m c, .int .i64 P] w fun e w' => e = .returned (.int .i64 0) ∧ Below w.heap.size w w' := by
  have hi := fun W => RNIsPage_any P W
  rw [hp] at hi
  clear hp
  go_enter Tryz.func31, Tryz.ntmps31
  go_wp2_with (first
    | (go_at_call 65; (with_reducible refine (hi _).mono ?_); rintro e w3 ⟨rfl, rfl⟩)
    | fail)
  go_ret
  exact ⟨rfl, Below.refl _ _⟩
set_option maxRecDepth 20000 in
set_option maxHeartbeats 1000000 in
theorem NdFil_bad_2 (kind P : Int) (hPr : i64r P) (hp : isPowB P = false) (A : Option Addr) (m c : Nat) (w : World) :
    Calls Tryz.prog 27 #[.int .i64 2, .int .i64 kind, .slice A m c, .int .i64 P] w fun e w' => e = .returned (.int .i64 0) ∧ Below w.heap.size w w' := by
  have hsf := st_func
  have hi := fun W => NdIsPage_any P hPr W
  rw [hp] at hi
  clear hp
  go_enter Tryz.func27, Tryz.ntmps27
  go_wp2_with (first
    | (go_at_call 38; (with_reducible refine (of_2 _).mono ?_); rintro e w1 ⟨rfl, hw1⟩)
    | (go_at_call 62; (with_reducible refine (hi _).mono ?_); rintro e w3 ⟨rfl, rfl⟩)
    | fail)
  go_ret
  exact ⟨rfl, hw1.alloc hw1.size _⟩
set_option maxRecDepth 100000 in
set_option maxHeartbeats 16000000 in
theorem RNHalf_2_2 (v : Value) (l : List CV) (P : Nat) (hp : isPowB (P : Int) = true) (w : World) (hl : RdCs w v l) (hn : l.length * 72 ≤ 140737488355328) (hb : bigK (pcs l) ≤ 100000000000000) :
    Calls Tryz.prog 32 #[.int .i64 2, .int .i64 2, v, .int .i64 (P : Int)] w fun e w' => e = .returned (.tuple #[.int .i64 (halfA (szN2 2) (fitN2 2 P) 2 (pcs l) P : Nat), .int .i64 (halfZ (szN2 2) (fitN2 2 P) 2 (pcs l) P)]) ∧ Below w.heap.size w w' := by
  have hr := isPowB_range hp
  have hi := fun W => RNIsPage_any (P : Int) W
  rw [hp] at hi
  obtain ⟨n, hnn⟩ : ∃ n, l.length = n := ⟨_, rfl⟩
  have HNN := Lib.hid hnn
  have hhl : halfA (szN2 2) (fitN2 2 P) 2 (pcs l) P = (rLoop (szN2 2) (fitN2 2 P) 2 (pcs l) (n - 3) 2 (0, 0)).2 := by
    unfold halfA halfS
    rw [pcs_length, hnn]
    exact (rLoop_eq (szN2 2) (fitN2 2 P) 2 (pcs l) (P := P) (fitN2_le 2 hp) (n - 3) 2 (P + 1, 0) (0, 0) (Nat.le_refl _) rfl (fun _ => rfl) (fun h => absurd rfl h)).symm
  have HL0 := Lib.hid hhl
  have hl0 := hl
  obtain ⟨A, c, rfl, hm, hc⟩ := hl.slice
  rw [hnn] at hm hl0 hn ⊢
  have HB := Lib.hid hb
  have HLL := Lib.hid hl0
  clear hl hc hp hnn hb hhl hl0
  have e2 : (n : Int) ≤ 9223372036854775807 := by omega
  go_enter Tryz.func32, Tryz.ntmps32
  go_upto_region 9 with (first
    | (go_at_call 65; (with_reducible refine (hi _).mono ?_); rintro e w3 ⟨rfl, rfl⟩)
    | fail)
  clear hi
  go_loopw [11, 12, 13] (fun av bv kv wr => ∃ (k b a : Nat), 2 ≤ k ∧ k ≤ n + 2 ∧ b ≤ 4000000000000000000 ∧ a ≤ n ∧ kv = .int .i64 (k : Int) ∧ bv = .int .i64 (b : Int) ∧ av = .int .i64 (a : Int) ∧ Hid (halfA (szN2 2) (fitN2 2 P) 2 (pcs l) P = (rLoop (szN2 2) (fitN2 2 P) 2 (pcs l) (n - 1 - k) k (b, a)).2) ∧ Below w.heap.size w wr) (fun _ _ kv _ => n + 2 - (intOf kv).toNat)
  case atStart => exact ⟨2, 0, 0, by omega, by omega, by omega, by omega, rfl, rfl, rfl, HL0, Below.refl _ _⟩
  case round =>
    clear HL0
    obtain ⟨k, b, a, hk2, hkn, hbP, han, rfl, rfl, rfl, HL, hB⟩ := hrel
    have ekw : IntKind.i64.wrap ((k : Int) + 2) = (k : Int) + 2 := by rw [IntKind.wrap_i64]; omega
    by_cases hlt : k + 2 ≤ n
    · have ik : (k : Int) + 2 ≤ (n : Int) := by omega
      have hkl : k ≤ l.length := by rw [HNN.out]; omega
      have hl1 := HLL.out.below hB
      have hR := Right_2 (.slice A n c) l k hkl wr hl1 (by rw [HNN.out]; exact hn)
      rw [show (rightC 2 l k).length = n - k by rw [rightC_length, HNN.out]] at hR
      go_upto_region 12 with (first
        | (go_at_call 59; (with_reducible refine hR.mono ?_); rintro e w1 ⟨R, rc, rfl, hS1⟩)
        | fail)
      have hb1 : Below wr.heap.size wr w1 := hS1.belowOld (_v := wr) (by simp)
      have hl2 := hl1.below hb1
      have hor : Own w1 0 43 5 (.slice R (n - k) rc) (rightC 2 l k).length (flatC (rightC 2 l k)) := by rw [rightC_length, HNN.out]; exact hS1.head
      have hrr := rightC_rd hor hl2
      obtain ⟨A2, c2, hs2, hr2⟩ := hl2.run_h k hkl
      have hbt : bigK (pcs (l.take k)) ≤ 100000000000000 := by rw [pcs_take]; have := bigK_take (pcs l) k; have := HB.out; omega
      have hbr : bigK (pcs (rightC 2 l k)) ≤ 100000000000000 := by rw [pcs_rightC]; have := bigK_right 2 (pcs l) k; have := HB.out; omega
      have hsl := fun W (hW : Below w1.heap.size w1 W) => RNSiz_2 2 (.slice A2 k c2) (l.take k) W (hr2.below hW) (by rw [List.length_take, HNN.out]; omega) hbt
      have hsr := fun W (hW : Below w1.heap.size w1 W) => RNSiz_2 2 (.slice R (n - k) rc) (rightC 2 l k) W (hrr.below hW) (by rw [rightC_length, HNN.out]; omega) hbr
      have hzl := szN2_le 2 (show bigK (pcs (l.take k)) ≤ 1000000000000000000 by omega)
      have hzr := szN2_le 2 (show bigK (pcs (rightC 2 l k)) ≤ 1000000000000000000 by omega)
      have hft := fun W (hW : Below w1.heap.size w1 W) => RNFit_2 2 (.slice A2 k c2) (l.take k) (P : Int) W (hr2.below hW) (by rw [List.length_take, HNN.out]; omega)
      have hfr := fun W (hW : Below w1.heap.size w1 W) => RNFit_2 2 (.slice R (n - k) rc) (rightC 2 l k) (P : Int) W (hrr.below hW) (by rw [rightC_length, HNN.out]; omega)
      have hmo : hMost (szN2 2) 2 (pcs l) k = max (szN2 2 (pcs (l.take k))) (szN2 2 (pcs (rightC 2 l k))) := by unfold hMost; rw [pcs_take, pcs_rightC]
      have hfl1 : fitN2 2 P ((pcs l).take k) = (encKZ 2 (pcs (l.take k)) (P : Int) == 0) := by rw [pcs_take]; rfl
      have hfr1 : fitN2 2 P (rightF 2 (pcs l) k) = (encKZ 2 (pcs (rightC 2 l k)) (P : Int) == 0) := by rw [pcs_rightC]; rfl
      rw [← hfl1] at hft
      rw [← hfr1] at hfr
      have hst : rStep (szN2 2) (fitN2 2 P) 2 (pcs l) k (b, a) = if fitN2 2 P ((pcs l).take k) = true ∧ fitN2 2 P (rightF 2 (pcs l) k) = true ∧ (a = 0 ∨ max (szN2 2 (pcs (l.take k))) (szN2 2 (pcs (rightC 2 l k))) < b) then (max (szN2 2 (pcs (l.take k))) (szN2 2 (pcs (rightC 2 l k))), k) else (b, a) := by unfold rStep; rw [hmo]
      have hnx : rLoop (szN2 2) (fitN2 2 P) 2 (pcs l) (n - 1 - k) k (b, a) = rLoop (szN2 2) (fitN2 2 P) 2 (pcs l) (n - 1 - (k + 1)) (k + 1) (rStep (szN2 2) (fitN2 2 P) 2 (pcs l) k (b, a)) := by rw [show n - 1 - k = (n - 1 - (k + 1)) + 1 by omega]; rfl
      rw [hst] at hnx
      have HNX := Lib.hid (HL.out.trans (congrArg Prod.snd hnx))
      have HSL := Lib.hid hsl
      have HSR := Lib.hid hsr
      have HFT := Lib.hid hft
      have HFR := Lib.hid hfr
      have HB1 := Lib.hid (hB.trans (hb1.mono hB.size))
      have hq1 := Below.refl w1.heap.size w1
      clear hl1 hR hl2 hr2 hor hrr hbt hbr hsl hsr hft hfr hmo hfl1 hfr1 hst hnx HL hS1 hb1 hB
      generalize szN2 2 (pcs (l.take k)) = zl at *
      generalize szN2 2 (pcs (rightC 2 l k)) = zr at *
      generalize fitN2 2 P ((pcs l).take k) = fl at *
      generalize fitN2 2 P (rightF 2 (pcs l) k) = fr at *
      go_upto_region 14 with (first
        | (go_at_call 67; (with_reducible refine (HFT.out _ hq1).mono ?_); rintro e w2 ⟨rfl, hw2⟩; have hq2 := hq1.trans (hw2.mono hq1.size))
        | (go_at_call 67; (with_reducible refine (HFR.out _ hq2).mono ?_); rintro e w3 ⟨rfl, hw3⟩; have hq3 := hq2.trans (hw3.mono hq2.size))
        | fail)
      clear hw2 hw3 hq1 hq2 HFT HFR
      go_cut [17] (fun mv wx => mv = .int .i64 ((max zl zr : Nat) : Int) ∧ Below w1.heap.size w1 wx)
      case first =>
        go_wp2_with (first
          | (go_at_call 66; (with_reducible refine (HSL.out _ hq3).mono ?_); rintro e w5 ⟨rfl, hw5⟩; have hb5 := hq3.trans (hw5.mono hq3.size))
          | (go_at_call 66; (with_reducible refine (HSR.out _ hb5).mono ?_); rintro e w6 ⟨rfl, hw6⟩; have hb6 := hb5.trans (hw6.mono hb5.size))
          | fail)
        all_goals go_meet
        all_goals first
          | exact ⟨by rw [show max zl zr = zr by omega], hb6⟩
          | exact ⟨by rw [show max zl zr = zl by omega], hb6⟩
      case rest =>
        obtain ⟨rfl, hwx⟩ := hcut
        have hwx2 := HB1.out.trans (hwx.mono HB1.out.size)
        have HWX := Lib.hid hwx2
        clear hwx hwx2 HSL HSR hq3 hs2
        have hmx : max zl zr ≤ 4000000000000000000 := by omega
        have hml : max zl zr < b ∨ b ≤ max zl zr := Nat.lt_or_ge _ _
        generalize max zl zr = mx at *
        have hE : ∀ (s' : Nat × Nat), (if fl = true ∧ fr = true ∧ (a = 0 ∨ mx < b) then (mx, k) else (b, a)) = s' → halfA (szN2 2) (fitN2 2 P) 2 (pcs l) P = (rLoop (szN2 2) (fitN2 2 P) 2 (pcs l) (n - 1 - (k + 1)) (k + 1) s').2 := fun s' h => h ▸ HNX.out
        have HE := Lib.hid hE
        clear HNX hE
        cases fl
        case false =>
          have HN2 := Lib.hid (HE.out (b, a) (if_neg (by simp)))
          clear HE
          go_wp2_with (fail)
          go_roundw
          case rel => exact ⟨k + 1, b, a, by omega, by omega, hbP, han, by go_num, rfl, rfl, HN2, HWX.out⟩
          case measure => simp [intOf]; omega
        case true =>
          cases fr
          case false =>
            have HN2 := Lib.hid (HE.out (b, a) (if_neg (by simp)))
            clear HE
            go_wp2_with (fail)
            go_roundw
            case rel => exact ⟨k + 1, b, a, by omega, by omega, hbP, han, by go_num, rfl, rfl, HN2, HWX.out⟩
            case measure => simp [intOf]; omega
          case true =>
            rcases Nat.eq_zero_or_pos a with h | h
            · subst h
              have HN2 := Lib.hid (HE.out (mx, k) (if_pos ⟨rfl, rfl, .inl rfl⟩))
              clear HE hml
              go_wp2_with (fail)
              go_roundw
              case rel => exact ⟨k + 1, mx, k, by omega, by omega, hmx, by omega, by go_num, rfl, rfl, HN2, HWX.out⟩
              case measure => simp [intOf]; omega
            · have ia : ((a : Int) == 0) = false := beq_eq_false_iff_ne.2 (by omega)
              rcases hml with hlb | hlb
              · have ilb : (mx : Int) < (b : Int) := by omega
                have HN2 := Lib.hid (HE.out (mx, k) (if_pos ⟨rfl, rfl, .inr hlb⟩))
                clear HE
                go_wp2_with (fail)
                go_roundw
                case rel => exact ⟨k + 1, mx, k, by omega, by omega, hmx, by omega, by go_num, rfl, rfl, HN2, HWX.out⟩
                case measure => simp [intOf]; omega
              · have ilb : (b : Int) ≤ (mx : Int) := by omega
                have HN2 := Lib.hid (HE.out (b, a) (if_neg (by omega)))
                clear HE
                go_wp2_with (fail)
                go_roundw
                case rel => exact ⟨k + 1, b, a, by omega, by omega, hbP, han, by go_num, rfl, rfl, HN2, HWX.out⟩
                case measure => simp [intOf]; omega
    · have hfin : halfA (szN2 2) (fitN2 2 P) 2 (pcs l) P = a := by rw [HL.out, show n - 1 - k = 0 by omega]; rfl
      have HFIN := Lib.hid hfin
      have HBO := Lib.hid hB
      clear hB HL hfin
      have ik : (n : Int) < (k : Int) + 2 := by omega
      rcases Nat.eq_zero_or_pos a with h | h
      · subst h
        go_wp2_with (fail)
        go_ret2
        exact ⟨by unfold halfZ; rw [HFIN.out]; rfl, HBO.out⟩
      · have ia : ((a : Int) == 0) = false := beq_eq_false_iff_ne.2 (by omega)
        go_wp2_with (fail)
        go_ret2
        exact ⟨by unfold halfZ; rw [HFIN.out, if_neg (by omega)]; rfl, HBO.out⟩
set_option maxRecDepth 100000 in
set_option maxHeartbeats 16000000 in
theorem RNHalf_2_3 (v : Value) (l : List CV) (P : Nat) (hp : isPowB (P : Int) = true) (w : World) (hl : RdCs w v l) (hn : l.length * 72 ≤ 140737488355328) (hb : bigK (pcs l) ≤ 100000000000000) :
    Calls Tryz.prog 32 #[.int .i64 2, .int .i64 3, v, .int .i64 (P : Int)] w fun e w' => e = .returned (.tuple #[.int .i64 (halfA (szN2 3) (fitN2 3 P) 3 (pcs l) P : Nat), .int .i64 (halfZ (szN2 3) (fitN2 3 P) 3 (pcs l) P)]) ∧ Below w.heap.size w w' := by
  have hr := isPowB_range hp
  have hi := fun W => RNIsPage_any (P : Int) W
  rw [hp] at hi
  obtain ⟨n, hnn⟩ : ∃ n, l.length = n := ⟨_, rfl⟩
  have HNN := Lib.hid hnn
  have hhl : halfA (szN2 3) (fitN2 3 P) 3 (pcs l) P = (rLoop (szN2 3) (fitN2 3 P) 3 (pcs l) (n - 3) 2 (0, 0)).2 := by
    unfold halfA halfS
    rw [pcs_length, hnn]
    exact (rLoop_eq (szN2 3) (fitN2 3 P) 3 (pcs l) (P := P) (fitN2_le 3 hp) (n - 3) 2 (P + 1, 0) (0, 0) (Nat.le_refl _) rfl (fun _ => rfl) (fun h => absurd rfl h)).symm
  have HL0 := Lib.hid hhl
  have hl0 := hl
  obtain ⟨A, c, rfl, hm, hc⟩ := hl.slice
  rw [hnn] at hm hl0 hn ⊢
  have HB := Lib.hid hb
  have HLL := Lib.hid hl0
  clear hl hc hp hnn hb hhl hl0
  have e2 : (n : Int) ≤ 9223372036854775807 := by omega
  go_enter Tryz.func32, Tryz.ntmps32
  go_upto_region 9 with (first
    | (go_at_call 65; (with_reducible refine (hi _).mono ?_); rintro e w3 ⟨rfl, rfl⟩)
    | fail)
  clear hi
  go_loopw [11, 12, 13] (fun av bv kv wr => ∃ (k b a : Nat), 2 ≤ k ∧ k ≤ n + 2 ∧ b ≤ 4000000000000000000 ∧ a ≤ n ∧ kv = .int .i64 (k : Int) ∧ bv = .int .i64 (b : Int) ∧ av = .int .i64 (a : Int) ∧ Hid (halfA (szN2 3) (fitN2 3 P) 3 (pcs l) P = (rLoop (szN2 3) (fitN2 3 P) 3 (pcs l) (n - 1 - k) k (b, a)).2) ∧ Below w.heap.size w wr) (fun _ _ kv _ => n + 2 - (intOf kv).toNat)
  case atStart => exact ⟨2, 0, 0, by omega, by omega, by omega, by omega, rfl, rfl, rfl, HL0, Below.refl _ _⟩
  case round =>
    clear HL0
    obtain ⟨k, b, a, hk2, hkn, hbP, han, rfl, rfl, rfl, HL, hB⟩ := hrel
    have ekw : IntKind.i64.wrap ((k : Int) + 2) = (k : Int) + 2 := by rw [IntKind.wrap_i64]; omega
    by_cases hlt : k + 2 ≤ n
    · have ik : (k : Int) + 2 ≤ (n : Int) := by omega
      have hkl : k ≤ l.length := by rw [HNN.out]; omega
      have hl1 := HLL.out.below hB
      have hR := Right_3 (.slice A n c) l k hkl wr hl1 (by rw [HNN.out]; exact hn)
      rw [show (rightC 3 l k).length = n - k by rw [rightC_length, HNN.out]] at hR
      go_upto_region 12 with (first
        | (go_at_call 59; (with_reducible refine hR.mono ?_); rintro e w1 ⟨R, rc, rfl, hS1⟩)
        | fail)
      have hb1 : Below wr.heap.size wr w1 := hS1.belowOld (_v := wr) (by simp)
      have hl2 := hl1.below hb1
      have hor : Own w1 0 43 5 (.slice R (n - k) rc) (rightC 3 l k).length (flatC (rightC 3 l k)) := by rw [rightC_length, HNN.out]; exact hS1.head
      have hrr := rightC_rd hor hl2
      obtain ⟨A2, c2, hs2, hr2⟩ := hl2.run_h k hkl
      have hbt : bigK (pcs (l.take k)) ≤ 100000000000000 := by rw [pcs_take]; have := bigK_take (pcs l) k; have := HB.out; omega
      have hbr : bigK (pcs (rightC 3 l k)) ≤ 100000000000000 := by rw [pcs_rightC]; have := bigK_right 3 (pcs l) k; have := HB.out; omega
      have hsl := fun W (hW : Below w1.heap.size w1 W) => RNSiz_2 3 (.slice A2 k c2) (l.take k) W (hr2.below hW) (by rw [List.length_take, HNN.out]; omega) hbt
      have hsr := fun W (hW : Below w1.heap.size w1 W) => RNSiz_2 3 (.slice R (n - k) rc) (rightC 3 l k) W (hrr.below hW) (by rw [rightC_length, HNN.out]; omega) hbr
      have hzl := szN2_le 3 (show bigK (pcs (l.take k)) ≤ 1000000000000000000 by omega)
      have hzr := szN2_le 3 (show bigK (pcs (rightC 3 l k)) ≤ 1000000000000000000 by omega)
      have hft := fun W (hW : Below w1.heap.size w1 W) => RNFit_2 3 (.slice A2 k c2) (l.take k) (P : Int) W (hr2.below hW) (by rw [List.length_take, HNN.out]; omega)
      have hfr := fun W (hW : Below w1.heap.size w1 W) => RNFit_2 3 (.slice R (n - k) rc) (rightC 3 l k) (P : Int) W (hrr.below hW) (by rw [rightC_length, HNN.out]; omega)
      have hmo : hMost (szN2 3) 3 (pcs l) k = max (szN2 3 (pcs (l.take k))) (szN2 3 (pcs (rightC 3 l k))) := by unfold hMost; rw [pcs_take, pcs_rightC]
      have hfl1 : fitN2 3 P ((pcs l).take k) = (encKZ 3 (pcs (l.take k)) (P : Int) == 0) := by rw [pcs_take]; rfl
      have hfr1 : fitN2 3 P (rightF 3 (pcs l) k) = (encKZ 3 (pcs (rightC 3 l k)) (P : Int) == 0) := by rw [pcs_rightC]; rfl
      rw [← hfl1] at hft
      rw [← hfr1] at hfr
      have hst : rStep (szN2 3) (fitN2 3 P) 3 (pcs l) k (b, a) = if fitN2 3 P ((pcs l).take k) = true ∧ fitN2 3 P (rightF 3 (pcs l) k) = true ∧ (a = 0 ∨ max (szN2 3 (pcs (l.take k))) (szN2 3 (pcs (rightC 3 l k))) < b) then (max (szN2 3 (pcs (l.take k))) (szN2 3 (pcs (rightC 3 l k))), k) else (b, a) := by unfold rStep; rw [hmo]
      have hnx : rLoop (szN2 3) (fitN2 3 P) 3 (pcs l) (n - 1 - k) k (b, a) = rLoop (szN2 3) (fitN2 3 P) 3 (pcs l) (n - 1 - (k + 1)) (k + 1) (rStep (szN2 3) (fitN2 3 P) 3 (pcs l) k (b, a)) := by rw [show n - 1 - k = (n - 1 - (k + 1)) + 1 by omega]; rfl
      rw [hst] at hnx
      have HNX := Lib.hid (HL.out.trans (congrArg Prod.snd hnx))
      have HSL := Lib.hid hsl
      have HSR := Lib.hid hsr
      have HFT := Lib.hid hft
      have HFR := Lib.hid hfr
      have HB1 := Lib.hid (hB.trans (hb1.mono hB.size))
      have hq1 := Below.refl w1.heap.size w1
      clear hl1 hR hl2 hr2 hor hrr hbt hbr hsl hsr hft hfr hmo hfl1 hfr1 hst hnx HL hS1 hb1 hB
      generalize szN2 3 (pcs (l.take k)) = zl at *
      generalize szN2 3 (pcs (rightC 3 l k)) = zr at *
      generalize fitN2 3 P ((pcs l).take k) = fl at *
      generalize fitN2 3 P (rightF 3 (pcs l) k) = fr at *
      go_upto_region 14 with (first
        | (go_at_call 67; (with_reducible refine (HFT.out _ hq1).mono ?_); rintro e w2 ⟨rfl, hw2⟩; have hq2 := hq1.trans (hw2.mono hq1.size))
        | (go_at_call 67; (with_reducible refine (HFR.out _ hq2).mono ?_); rintro e w3 ⟨rfl, hw3⟩; have hq3 := hq2.trans (hw3.mono hq2.size))
        | fail)
      clear hw2 hw3 hq1 hq2 HFT HFR
      go_cut [17] (fun mv wx => mv = .int .i64 ((max zl zr : Nat) : Int) ∧ Below w1.heap.size w1 wx)
      case first =>
        go_wp2_with (first
          | (go_at_call 66; (with_reducible refine (HSL.out _ hq3).mono ?_); rintro e w5 ⟨rfl, hw5⟩; have hb5 := hq3.trans (hw5.mono hq3.size))
          | (go_at_call 66; (with_reducible refine (HSR.out _ hb5).mono ?_); rintro e w6 ⟨rfl, hw6⟩; have hb6 := hb5.trans (hw6.mono hb5.size))
          | fail)
        all_goals go_meet
        all_goals first
          | exact ⟨by rw [show max zl zr = zr by omega], hb6⟩
          | exact ⟨by rw [show max zl zr = zl by omega], hb6⟩
      case rest =>
        obtain ⟨rfl, hwx⟩ := hcut
        have hwx2 := HB1.out.trans (hwx.mono HB1.out.size)
        have HWX := Lib.hid hwx2
        clear hwx hwx2 HSL HSR hq3 hs2
        have hmx : max zl zr ≤ 4000000000000000000 := by omega
        have hml : max zl zr < b ∨ b ≤ max zl zr := Nat.lt_or_ge _ _
        generalize max zl zr = mx at *
        have hE : ∀ (s' : Nat × Nat), (if fl = true ∧ fr = true ∧ (a = 0 ∨ mx < b) then (mx, k) else (b, a)) = s' → halfA (szN2 3) (fitN2 3 P) 3 (pcs l) P = (rLoop (szN2 3) (fitN2 3 P) 3 (pcs l) (n - 1 - (k + 1)) (k + 1) s').2 := fun s' h => h ▸ HNX.out
        have HE := Lib.hid hE
        clear HNX hE
        cases fl
        case false =>
          have HN2 := Lib.hid (HE.out (b, a) (if_neg (by simp)))
          clear HE
          go_wp2_with (fail)
          go_roundw
          case rel => exact ⟨k + 1, b, a, by omega, by omega, hbP, han, by go_num, rfl, rfl, HN2, HWX.out⟩
          case measure => simp [intOf]; omega
        case true =>
          cases fr
          case false =>
            have HN2 := Lib.hid (HE.out (b, a) (if_neg (by simp)))
            clear HE
            go_wp2_with (fail)
            go_roundw
            case rel => exact ⟨k + 1, b, a, by omega, by omega, hbP, han, by go_num, rfl, rfl, HN2, HWX.out⟩
            case measure => simp [intOf]; omega
          case true =>
            rcases Nat.eq_zero_or_pos a with h | h
            · subst h
              have HN2 := Lib.hid (HE.out (mx, k) (if_pos ⟨rfl, rfl, .inl rfl⟩))
              clear HE hml
              go_wp2_with (fail)
              go_roundw
              case rel => exact ⟨k + 1, mx, k, by omega, by omega, hmx, by omega, by go_num, rfl, rfl, HN2, HWX.out⟩
              case measure => simp [intOf]; omega
            · have ia : ((a : Int) == 0) = false := beq_eq_false_iff_ne.2 (by omega)
              rcases hml with hlb | hlb
              · have ilb : (mx : Int) < (b : Int) := by omega
                have HN2 := Lib.hid (HE.out (mx, k) (if_pos ⟨rfl, rfl, .inr hlb⟩))
                clear HE
                go_wp2_with (fail)
                go_roundw
                case rel => exact ⟨k + 1, mx, k, by omega, by omega, hmx, by omega, by go_num, rfl, rfl, HN2, HWX.out⟩
                case measure => simp [intOf]; omega
              · have ilb : (b : Int) ≤ (mx : Int) := by omega
                have HN2 := Lib.hid (HE.out (b, a) (if_neg (by omega)))
                clear HE
                go_wp2_with (fail)
                go_roundw
                case rel => exact ⟨k + 1, b, a, by omega, by omega, hbP, han, by go_num, rfl, rfl, HN2, HWX.out⟩
                case measure => simp [intOf]; omega
    · have hfin : halfA (szN2 3) (fitN2 3 P) 3 (pcs l) P = a := by rw [HL.out, show n - 1 - k = 0 by omega]; rfl
      have HFIN := Lib.hid hfin
      have HBO := Lib.hid hB
      clear hB HL hfin
      have ik : (n : Int) < (k : Int) + 2 := by omega
      rcases Nat.eq_zero_or_pos a with h | h
      · subst h
        go_wp2_with (fail)
        go_ret2
        exact ⟨by unfold halfZ; rw [HFIN.out]; rfl, HBO.out⟩
      · have ia : ((a : Int) == 0) = false := beq_eq_false_iff_ne.2 (by omega)
        go_wp2_with (fail)
        go_ret2
        exact ⟨by unfold halfZ; rw [HFIN.out, if_neg (by omega)]; rfl, HBO.out⟩
set_option maxRecDepth 100000 in
set_option maxHeartbeats 4000000 in
theorem RNHalf_bad_2 (kind P : Int) (A : Option Addr) (m c : Nat) (hbad : (kind ≠ 2 ∧ kind ≠ 3) ∨ isPowB P = false) (w : World) :
    Calls Tryz.prog 32 #[.int .i64 2, .int .i64 kind, .slice A m c, .int .i64 P] w fun e w' => e = .returned (.tuple #[.int .i64 0, .int .i64 1]) ∧ Below w.heap.size w w' := by
  have hi := fun W => RNIsPage_any P W
  by_cases hk : kind ≠ 2 ∧ kind ≠ 3
  · obtain ⟨h2, h3⟩ := hk
    have k2 : (kind != 2) = true := bne_iff_ne.2 h2
    have k3 : (kind != 3) = true := bne_iff_ne.2 h3
    clear hbad h2 h3
    generalize isPowB P = bp at *
    go_enter Tryz.func32, Tryz.ntmps32
    go_wp2_with (first
      | (go_at_call 65; (with_reducible refine (hi _).mono ?_); rintro e w3 ⟨rfl, rfl⟩)
      | fail)
    go_ret2
    exact ⟨rfl, Below.refl _ _⟩
  · have hP : isPowB P = false := by rcases hbad with h | h; exact absurd h hk; exact h
    rw [hP] at hi
    have hk2 : kind = 2 ∨ kind = 3 := by omega
    clear hbad hk hP
    rcases hk2 with rfl | rfl
    all_goals
      go_enter Tryz.func32, Tryz.ntmps32
      go_wp2_with (first
        | (go_at_call 65; (with_reducible refine (hi _).mono ?_); rintro e w3 ⟨rfl, rfl⟩)
        | fail)
      go_ret2
      exact ⟨rfl, Below.refl _ _⟩
set_option maxRecDepth 20000 in
set_option maxHeartbeats 1000000 in
theorem RNEnc_no (n kind : Int) (h1 : n ≠ 1) (h2 : n ≠ 2) (A : Option Addr) (m c : Nat) (P : Int) (w : World) :
    Calls Tryz.prog 30 #[.int .i64 n, .int .i64 kind, .slice A m c, .int .i64 P] w fun e w' => e = .returned (.tuple #[.slice none 0 0, .int .i64 80]) ∧ Below w.heap.size w w' := by
  have i1 : (n == 1) = false := beq_eq_false_iff_ne.2 h1
  have i2 : (n == 2) = false := beq_eq_false_iff_ne.2 h2
  clear h1 h2
  go_enter Tryz.func30, Tryz.ntmps30
  go_wp2_with fail
  go_ret2
  exact ⟨rfl, Below.refl _ _⟩
set_option maxRecDepth 20000 in
set_option maxHeartbeats 1000000 in
theorem RNHalf_no (n kind : Int) (h1 : n ≠ 1) (h2 : n ≠ 2) (A : Option Addr) (m c : Nat) (P : Int) (w : World) :
    Calls Tryz.prog 32 #[.int .i64 n, .int .i64 kind, .slice A m c, .int .i64 P] w fun e w' => e = .returned (.tuple #[.int .i64 0, .int .i64 80]) ∧ Below w.heap.size w w' := by
  have hi := fun W => RNIsPage_any P W
  generalize isPowB P = bp at *
  have hn : n < 1 ∨ (¬ n < 1 ∧ 2 < n) := by omega
  clear h1 h2
  rcases hn with h | ⟨h, h'⟩
  all_goals
    go_enter Tryz.func32, Tryz.ntmps32
    go_wp2_with (first
      | (go_at_call 65; (with_reducible refine (hi _).mono ?_); rintro e w3 ⟨rfl, rfl⟩)
      | fail)
    go_ret2
    exact ⟨rfl, Below.refl _ _⟩
set_option maxRecDepth 20000 in
set_option maxHeartbeats 1000000 in
theorem RNFil_no (n kind : Int) (h1 : n ≠ 1) (h2 : n ≠ 2) (A : Option Addr) (m c : Nat) (P : Int) (w : World) :
    Calls Tryz.prog 31 #[.int .i64 n, .int .i64 kind, .slice A m c, .int .i64 P] w fun e w' => e = .returned (.int .i64 0) ∧ Below w.heap.size w w' := by
  have hi := fun W => RNIsPage_any P W
  generalize isPowB P = bp at *
  have hn : n < 1 ∨ (¬ n < 1 ∧ 2 < n) := by omega
  clear h1 h2
  rcases hn with h | ⟨h, h'⟩
  all_goals
    go_enter Tryz.func31, Tryz.ntmps31
    go_wp2_with (first
      | (go_at_call 65; (with_reducible refine (hi _).mono ?_); rintro e w3 ⟨rfl, rfl⟩)
      | fail)
    go_ret
    exact ⟨rfl, Below.refl _ _⟩
set_option maxRecDepth 20000 in
set_option maxHeartbeats 1000000 in
theorem NdFil_no (n kind : Int) (h1 : n ≠ 1) (h2 : n ≠ 2) (A : Option Addr) (m c : Nat) (P : Int) (w : World) :
    Calls Tryz.prog 27 #[.int .i64 n, .int .i64 kind, .slice A m c, .int .i64 P] w fun e w' => e = .returned (.int .i64 0) ∧ Below w.heap.size w w' := by
  have hf := of_no n h1 h2 w
  have hsn := st_nilFunc
  clear h1 h2
  go_enter Tryz.func27, Tryz.ntmps27
  go_wp2_with (first
    | (go_at_call 38; (with_reducible refine hf.mono ?_); rintro e w1 ⟨rfl, hw1⟩)
    | fail)
  go_ret
  exact ⟨rfl, hw1.alloc hw1.size _⟩
end Go.Proofs.YtfcnkpofcekmgaaGreat
