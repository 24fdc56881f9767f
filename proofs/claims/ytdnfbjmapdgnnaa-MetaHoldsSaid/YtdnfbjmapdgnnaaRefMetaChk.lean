/- espalierref05.Check: the walk. -/
import Derived.Test.YtdnfbjmapdgnnaaRefMetaCheck
import Derived.Test.YtdnfbjmapdgnnaaRefMetaOk
namespace Go.Proofs.Ytdnfbjmapdgnnaa
open Go.RowKit
theorem okB_x {eg pg tx rt ct fr ls hi : Int} : okB eg pg tx rt ct fr ls hi = (engB eg && isPowB pg && txnB tx && highB hi && (insideB rt hi && insideB fr hi && !decide (rt = fr ∧ rt ≠ 0)) && countB ct rt && listB ls hi fr) := rfl
set_option maxRecDepth 100000 in
set_option maxHeartbeats 4000000 in
theorem RCheck_high (eg pg tx rt ct fr ls hi : Int) (hH : highB hi = true) (w : World) :
    Calls Try.prog 10 #[.agg #[.int .i64 eg, .int .i64 pg, .int .i64 tx, .int .i64 rt, .int .i64 ct, .int .i64 fr, .int .i64 ls, .int .i64 hi]] w fun e w' =>
      e = .returned (.int .i64 (bif okB eg pg tx rt ct fr ls hi then 0 else 1)) ∧ Below w.heap.size w w' := by
  have hH1 : 2 ≤ hi ∧ hi ≤ 65536 := of_decide_eq_true hH
  obtain ⟨hH1, hH2⟩ := hH1
  have HH := Lib.hid hH
  clear hH
  go_enter Try.func10, Try.ntmps10
  go_upto_region 2 with (go_at_call 30; refine (risPage_any _ _).mono ?_; rintro e w' ⟨rfl, rfl⟩)
  go_cut [4] from 13 to 20 (fun s wx => s = .bool (engB eg) ∧ wx = w.alloc (.cells #[.int .i64 eg, .int .i64 pg, .int .i64 tx, .int .i64 rt, .int .i64 ct, .int .i64 fr, .int .i64 ls, .int .i64 hi] 24))
  case first =>
    rcases tf (eg == 1) with h | h
    all_goals (go_wp2_with fail; all_goals (go_meet; refine ⟨bool_v ?_, rfl⟩; first | exact re_1 eg h | exact re_2 eg h))
  case rest =>
    obtain ⟨rfl, rfl⟩ := hcut
    go_upto_region 3 with (fail)
    go_cut [5] from 21 to 28 (fun s wx => s = .bool (highB hi) ∧ wx = w.alloc (.cells #[.int .i64 eg, .int .i64 pg, .int .i64 tx, .int .i64 rt, .int .i64 ct, .int .i64 fr, .int .i64 ls, .int .i64 hi] 24))
    case first =>
      skip
      all_goals (go_wp2_with fail; all_goals (go_meet; refine ⟨bool_v ?_, rfl⟩; first | exact rh_1 hi | exact rh_3 hi (by omega) | exact rh_2 hi (by omega) | exact HH.out.symm))
    case rest =>
      obtain ⟨rfl, rfl⟩ := hcut
      go_upto_region 4 with (fail)
      go_cut [6] from 29 to 43 (fun s wx => s = .bool (insideB rt hi) ∧ wx = w.alloc (.cells #[.int .i64 eg, .int .i64 pg, .int .i64 tx, .int .i64 rt, .int .i64 ct, .int .i64 fr, .int .i64 ls, .int .i64 hi] 24))
      case first =>
        rcases tf (rt == 0) with h | h
        all_goals (go_wp2_with fail; all_goals (go_meet; refine ⟨bool_v ?_, rfl⟩; first | exact ri_1 rt hi h | exact ri_2 rt hi h | exact ri_4 rt hi h (by omega) | exact ri_3 rt hi h (by omega)))
      case rest =>
        obtain ⟨rfl, rfl⟩ := hcut
        go_upto_region 5 with (fail)
        go_cut [7] from 44 to 58 (fun s wx => s = .bool (insideB fr hi) ∧ wx = w.alloc (.cells #[.int .i64 eg, .int .i64 pg, .int .i64 tx, .int .i64 rt, .int .i64 ct, .int .i64 fr, .int .i64 ls, .int .i64 hi] 24))
        case first =>
          rcases tf (fr == 0) with h | h
          all_goals (go_wp2_with fail; all_goals (go_meet; refine ⟨bool_v ?_, rfl⟩; first | exact ri_1 fr hi h | exact ri_2 fr hi h | exact ri_4 fr hi h (by omega) | exact ri_3 fr hi h (by omega)))
        case rest =>
          obtain ⟨rfl, rfl⟩ := hcut
          go_upto_region 6 with (fail)
          go_cut [8] from 59 to 75 (fun s wx => s = .bool (countB ct rt) ∧ wx = w.alloc (.cells #[.int .i64 eg, .int .i64 pg, .int .i64 tx, .int .i64 rt, .int .i64 ct, .int .i64 fr, .int .i64 ls, .int .i64 hi] 24))
          case first =>
            skip
            all_goals (go_wp2_with fail; all_goals (go_meet; refine ⟨bool_v ?_, rfl⟩; first | exact rc_1 ct rt (by omega) (by omega) | exact rc_2 ct rt (by omega) | exact rc_3 ct rt (by omega)))
          case rest =>
            obtain ⟨rfl, rfl⟩ := hcut
            go_upto_region 7 with (fail)
            go_cut [9] from 76 to 96 (fun s wx => s = .bool (listB ls hi fr) ∧ wx = w.alloc (.cells #[.int .i64 eg, .int .i64 pg, .int .i64 tx, .int .i64 rt, .int .i64 ct, .int .i64 fr, .int .i64 ls, .int .i64 hi] 24))
            case first =>
              rcases tf (ls == 0) with h | h
              all_goals (go_wp2_with fail; all_goals (go_meet; refine ⟨bool_v ?_, rfl⟩; first | exact rl_1 ls hi fr (by omega) (by omega) h | exact rl_2 ls hi fr (by omega) (by omega) h | exact rl_3 ls hi fr (by omega) | exact rl_4 ls hi fr (by omega)))
            case rest =>
              obtain ⟨rfl, rfl⟩ := hcut
              rcases tf (isPowB pg) with hP | hP
              case inr =>
                have hH := HH.out
                go_wp2_with fail
                all_goals (go_ret; exact ⟨by rw [okB_x, hP]; simp, (Below.refl _ _).alloc (Nat.le_refl _) _⟩)
              rcases tf (engB eg) with hE | hE
              case inr =>
                have hH := HH.out
                go_wp2_with fail
                all_goals (go_ret; exact ⟨by rw [okB_x, hE]; simp, (Below.refl _ _).alloc (Nat.le_refl _) _⟩)
              rcases tf (insideB rt hi) with hR | hR
              case inr =>
                have hH := HH.out
                go_wp2_with fail
                all_goals (go_ret; exact ⟨by rw [okB_x, hR]; simp, (Below.refl _ _).alloc (Nat.le_refl _) _⟩)
              rcases tf (insideB fr hi) with hF | hF
              case inr =>
                have hH := HH.out
                go_wp2_with fail
                all_goals (go_ret; exact ⟨by rw [okB_x, hF]; simp, (Below.refl _ _).alloc (Nat.le_refl _) _⟩)
              rcases tf (countB ct rt) with hC | hC
              case inr =>
                have hH := HH.out
                go_wp2_with fail
                all_goals (go_ret; exact ⟨by rw [okB_x, hC]; simp, (Below.refl _ _).alloc (Nat.le_refl _) _⟩)
              rcases tf (listB ls hi fr) with hI | hI
              case inr =>
                have hH := HH.out
                go_wp2_with fail
                all_goals (go_ret; exact ⟨by rw [okB_x, hI]; simp, (Below.refl _ _).alloc (Nat.le_refl _) _⟩)
              have hH := HH.out
              by_cases hT1 : tx < 0
              case pos =>
                go_wp2_with fail
                all_goals (go_ret; exact ⟨by rw [okB_x, show txnB tx = false from decide_eq_false (by omega)]; simp, (Below.refl _ _).alloc (Nat.le_refl _) _⟩)
              by_cases hT2 : 1099511627776 < tx
              case pos =>
                go_wp2_with fail
                all_goals (go_ret; exact ⟨by rw [okB_x, show txnB tx = false from decide_eq_false (by omega)]; simp, (Below.refl _ _).alloc (Nat.le_refl _) _⟩)
              have hT : txnB tx = true := decide_eq_true (by omega)
              rcases tf (rt == fr) with hq | hq <;> rcases tf (rt != 0) with h0 | h0
              all_goals (go_wp2_with fail; go_ret; refine ⟨?_, (Below.refl _ _).alloc (Nat.le_refl _) _⟩; rw [okB_x, hP, hE, hR, hF, hC, hI, hH, hT, link_x, hq, h0]; rfl)
set_option maxRecDepth 100000 in
set_option maxHeartbeats 4000000 in
theorem RCheck_nohigh (eg pg tx rt ct fr ls hi : Int) (hH : highB hi = false) (w : World) :
    Calls Try.prog 10 #[.agg #[.int .i64 eg, .int .i64 pg, .int .i64 tx, .int .i64 rt, .int .i64 ct, .int .i64 fr, .int .i64 ls, .int .i64 hi]] w fun e w' =>
      e = .returned (.int .i64 (bif okB eg pg tx rt ct fr ls hi then 0 else 1)) ∧ Below w.heap.size w w' := by
  have HH := Lib.hid hH
  clear hH
  go_enter Try.func10, Try.ntmps10
  go_upto_region 2 with (go_at_call 30; refine (risPage_any _ _).mono ?_; rintro e w' ⟨rfl, rfl⟩)
  go_cut [4] from 13 to 20 (fun s wx => s = .bool (engB eg) ∧ wx = w.alloc (.cells #[.int .i64 eg, .int .i64 pg, .int .i64 tx, .int .i64 rt, .int .i64 ct, .int .i64 fr, .int .i64 ls, .int .i64 hi] 24))
  case first =>
    rcases tf (eg == 1) with h | h
    all_goals (go_wp2_with fail; all_goals (go_meet; refine ⟨bool_v ?_, rfl⟩; first | exact re_1 eg h | exact re_2 eg h))
  case rest =>
    obtain ⟨rfl, rfl⟩ := hcut
    go_upto_region 3 with (fail)
    go_cut [5] from 21 to 28 (fun s wx => s = .bool (highB hi) ∧ wx = w.alloc (.cells #[.int .i64 eg, .int .i64 pg, .int .i64 tx, .int .i64 rt, .int .i64 ct, .int .i64 fr, .int .i64 ls, .int .i64 hi] 24))
    case first =>
      skip
      all_goals (go_wp2_with fail; all_goals (go_meet; refine ⟨bool_v ?_, rfl⟩; first | exact rh_1 hi | exact rh_3 hi (by omega) | exact rh_2 hi (by omega) | exact HH.out.symm))
    case rest =>
      obtain ⟨rfl, rfl⟩ := hcut
      go_upto_region 4 with (fail)
      go_cut [6] from 29 to 43 (fun s wx => s = .bool (insideB rt hi) ∧ wx = w.alloc (.cells #[.int .i64 eg, .int .i64 pg, .int .i64 tx, .int .i64 rt, .int .i64 ct, .int .i64 fr, .int .i64 ls, .int .i64 hi] 24))
      case first =>
        rcases tf (rt == 0) with h | h
        all_goals (go_wp2_with fail; all_goals (go_meet; refine ⟨bool_v ?_, rfl⟩; first | exact ri_1 rt hi h | exact ri_2 rt hi h | exact ri_4 rt hi h (by omega) | exact ri_3 rt hi h (by omega)))
      case rest =>
        obtain ⟨rfl, rfl⟩ := hcut
        go_upto_region 5 with (fail)
        go_cut [7] from 44 to 58 (fun s wx => s = .bool (insideB fr hi) ∧ wx = w.alloc (.cells #[.int .i64 eg, .int .i64 pg, .int .i64 tx, .int .i64 rt, .int .i64 ct, .int .i64 fr, .int .i64 ls, .int .i64 hi] 24))
        case first =>
          rcases tf (fr == 0) with h | h
          all_goals (go_wp2_with fail; all_goals (go_meet; refine ⟨bool_v ?_, rfl⟩; first | exact ri_1 fr hi h | exact ri_2 fr hi h | exact ri_4 fr hi h (by omega) | exact ri_3 fr hi h (by omega)))
        case rest =>
          obtain ⟨rfl, rfl⟩ := hcut
          go_upto_region 6 with (fail)
          go_cut [8] from 59 to 75 (fun s wx => s = .bool (countB ct rt) ∧ wx = w.alloc (.cells #[.int .i64 eg, .int .i64 pg, .int .i64 tx, .int .i64 rt, .int .i64 ct, .int .i64 fr, .int .i64 ls, .int .i64 hi] 24))
          case first =>
            skip
            all_goals (go_wp2_with fail; all_goals (go_meet; refine ⟨bool_v ?_, rfl⟩; first | exact rc_1 ct rt (by omega) (by omega) | exact rc_2 ct rt (by omega) | exact rc_3 ct rt (by omega)))
          case rest =>
            obtain ⟨rfl, rfl⟩ := hcut
            go_upto_region 7 with (fail)
            go_cut [9] from 76 to 96 (fun s wx => (∃ b : Bool, s = .bool b) ∧ wx = w.alloc (.cells #[.int .i64 eg, .int .i64 pg, .int .i64 tx, .int .i64 rt, .int .i64 ct, .int .i64 fr, .int .i64 ls, .int .i64 hi] 24))
            case first =>
              rcases tf (ls == 0) with h | h
              all_goals (go_wp2_with fail; all_goals (go_meet; exact ⟨⟨_, rfl⟩, rfl⟩))
            case rest =>
              obtain ⟨⟨bL, rfl⟩, rfl⟩ := hcut
              have hH := HH.out
              rcases tf (isPowB pg) with hP | hP <;> rcases tf (engB eg) with hE | hE
              all_goals (go_wp2_with fail; go_ret; exact ⟨by rw [okB_x, hH]; simp, (Below.refl _ _).alloc (Nat.le_refl _) _⟩)
theorem RCheck_any (eg pg tx rt ct fr ls hi : Int) (w : World) :
    Calls Try.prog 10 #[.agg #[.int .i64 eg, .int .i64 pg, .int .i64 tx, .int .i64 rt, .int .i64 ct, .int .i64 fr, .int .i64 ls, .int .i64 hi]] w fun e w' =>
      e = .returned (.int .i64 (bif okB eg pg tx rt ct fr ls hi then 0 else 1)) ∧ Below w.heap.size w w' := by
  rcases tf (highB hi) with h | h
  · exact RCheck_high eg pg tx rt ct fr ls hi h w
  · exact RCheck_nohigh eg pg tx rt ct fr ls hi h w
end Go.Proofs.Ytdnfbjmapdgnnaa
