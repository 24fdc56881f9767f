/- meta.Check: the walk. -/
import Derived.Test.YtdnfbjmapdgnnaaMetaOk
namespace Go.Proofs.Ytdnfbjmapdgnnaa
open Go.RowKit
set_option maxRecDepth 100000 in
set_option maxHeartbeats 4000000 in
theorem Check_any (eg pg tx rt ct fr ls hi : Int) (w : World) :
    Calls Try.prog 8 #[.agg #[.int .i64 eg, .int .i64 pg, .int .i64 tx, .int .i64 rt, .int .i64 ct, .int .i64 fr, .int .i64 ls, .int .i64 hi]] w fun e w' =>
      e = .returned (.int .i64 (bif okB eg pg tx rt ct fr ls hi then 0 else 1)) ∧ Below w.heap.size w w' := by
  have hmf := mfun
  have hR := Lib.hid (fun (w : World) (b : Nat) (hc : w.cell? ⟨b, 7, none⟩ = some (.int .i64 hi)) => inside_any rt hi b 0 w hc)
  have hF := Lib.hid (fun (w : World) (b : Nat) (hc : w.cell? ⟨b, 7, none⟩ = some (.int .i64 hi)) => inside_any fr hi b 0 w hc)
  go_enter Try.func8, Try.ntmps8
  go_upto_region 2 with (fail)
  go_cut [5] from 6 to 13 (fun s wx => s = .bool (!engB eg) ∧ wx = w.alloc (.cells #[.int .i64 eg, .int .i64 pg, .int .i64 tx, .int .i64 rt, .int .i64 ct, .int .i64 fr, .int .i64 ls, .int .i64 hi] 24))
  case first =>
    rcases tf (eg != 1) with h | h
    all_goals (go_wp2_with fail; all_goals (go_meet; refine ⟨bool_v ?_, rfl⟩; first | exact eng_2' eg (by simpa using h) | (unfold engB; simp at h; simp [h])))
  case rest =>
    rcases tf (engB eg) with hE | hE
    all_goals (rw [hE] at hcut; simp only [Bool.not_true, Bool.not_false] at hcut; obtain ⟨rfl, rfl⟩ := hcut)
    case inr =>
      go_wp2_with fail
      go_ret
      exact ⟨by simp [okB, hE], (Below.refl _ _).alloc (Nat.le_refl _) _⟩
    go_upto_region 3 with (fail)
    go_cut [5] from 14 to 30 (fun s wx => s = .bool (!isPowB pg) ∧ wx = w.alloc (.cells #[.int .i64 eg, .int .i64 pg, .int .i64 tx, .int .i64 rt, .int .i64 ct, .int .i64 fr, .int .i64 ls, .int .i64 hi] 24))
    case first =>
      skip
      all_goals (go_wp2_with fail; all_goals (go_meet; refine ⟨bool_v ?_, rfl⟩; first | exact pow_1 pg ‹_› ‹_› | exact pow_2 pg ‹_› | exact pow_3 pg ‹_›))
    case rest =>
      rcases tf (isPowB pg) with hP | hP
      all_goals (rw [hP] at hcut; simp only [Bool.not_true, Bool.not_false] at hcut; obtain ⟨rfl, rfl⟩ := hcut)
      case inr =>
        go_wp2_with fail
        go_ret
        exact ⟨by simp [okB, hP], (Below.refl _ _).alloc (Nat.le_refl _) _⟩
      go_upto_region 4 with (fail)
      go_cut [5] from 31 to 38 (fun s wx => s = .bool (!txnB tx) ∧ wx = w.alloc (.cells #[.int .i64 eg, .int .i64 pg, .int .i64 tx, .int .i64 rt, .int .i64 ct, .int .i64 fr, .int .i64 ls, .int .i64 hi] 24))
      case first =>
        skip
        all_goals (go_wp2_with fail; all_goals (go_meet; refine ⟨bool_v ?_, rfl⟩; first | exact t_1 tx | exact t_2 tx ‹_›))
      case rest =>
        rcases tf (txnB tx) with hT | hT
        all_goals (rw [hT] at hcut; simp only [Bool.not_true, Bool.not_false] at hcut; obtain ⟨rfl, rfl⟩ := hcut)
        case inr =>
          go_wp2_with fail
          go_ret
          exact ⟨by simp [okB, hT], (Below.refl _ _).alloc (Nat.le_refl _) _⟩
        go_upto_region 5 with (fail)
        go_cut [5] from 39 to 46 (fun s wx => s = .bool (!highB hi) ∧ wx = w.alloc (.cells #[.int .i64 eg, .int .i64 pg, .int .i64 tx, .int .i64 rt, .int .i64 ct, .int .i64 fr, .int .i64 ls, .int .i64 hi] 24))
        case first =>
          skip
          all_goals (go_wp2_with fail; all_goals (go_meet; refine ⟨bool_v ?_, rfl⟩; first | exact h_1 hi | exact h_2 hi ‹_›))
        case rest =>
          rcases tf (highB hi) with hH | hH
          all_goals (rw [hH] at hcut; simp only [Bool.not_true, Bool.not_false] at hcut; obtain ⟨rfl, rfl⟩ := hcut)
          case inr =>
            go_wp2_with fail
            go_ret
            exact ⟨by simp [okB, hH], (Below.refl _ _).alloc (Nat.le_refl _) _⟩
          have hH1 : 2 ≤ hi ∧ hi ≤ 65536 := of_decide_eq_true hH
          obtain ⟨hH1, hH2⟩ := hH1
          go_upto_region 6 with (fail)
          go_cut [5] from 47 to 70 (fun s wx => s = .bool (!linkB rt fr hi) ∧ wx = w.alloc (.cells #[.int .i64 eg, .int .i64 pg, .int .i64 tx, .int .i64 rt, .int .i64 ct, .int .i64 fr, .int .i64 ls, .int .i64 hi] 24))
          case first =>
            (rcases tf (insideB rt hi) with hr | hr) <;> (rcases tf (insideB fr hi) with hf | hf) <;> (rcases tf (rt == fr) with hq | hq)
            all_goals (go_wp2_with (first | (go_at_call_of 25 (Value.int IntKind.i64 rt); refine (hR.out _ _ (by simp [go_sem, World.cell?_alloc_new])).mono ?_; rintro e w' ⟨rfl, rfl⟩) | (go_at_call_of 25 (Value.int IntKind.i64 fr); refine (hF.out _ _ (by simp [go_sem, World.cell?_alloc_new])).mono ?_; rintro e w' ⟨rfl, rfl⟩)); all_goals (go_meet; refine ⟨bool_v ?_, rfl⟩; first | exact l_1 rt fr hi hr | exact l_2 rt fr hi hf | exact l_3 rt fr hi hr hf hq | exact l_4 rt fr hi hr hf hq))
          case rest =>
            rcases tf (linkB rt fr hi) with hL | hL
            all_goals (rw [hL] at hcut; simp only [Bool.not_true, Bool.not_false] at hcut; obtain ⟨rfl, rfl⟩ := hcut)
            case inr =>
              go_wp2_with fail
              go_ret
              exact ⟨by simp [okB, hL], (Below.refl _ _).alloc (Nat.le_refl _) _⟩
            go_upto_region 7 with (fail)
            go_cut [5] from 71 to 87 (fun s wx => s = .bool (!countB ct rt) ∧ wx = w.alloc (.cells #[.int .i64 eg, .int .i64 pg, .int .i64 tx, .int .i64 rt, .int .i64 ct, .int .i64 fr, .int .i64 ls, .int .i64 hi] 24))
            case first =>
              skip
              all_goals (go_wp2_with fail; all_goals (go_meet; refine ⟨bool_v ?_, rfl⟩; first | exact c_1 ct rt | exact c_2 ct rt ‹_› | exact c_3 ct rt ‹_›))
            case rest =>
              rcases tf (countB ct rt) with hC | hC
              all_goals (rw [hC] at hcut; simp only [Bool.not_true, Bool.not_false] at hcut; obtain ⟨rfl, rfl⟩ := hcut)
              case inr =>
                go_wp2_with fail
                go_ret
                exact ⟨by simp [okB, hC], (Below.refl _ _).alloc (Nat.le_refl _) _⟩
              go_upto_region 8 with (fail)
              go_cut [5] from 88 to 108 (fun s wx => s = .bool (!listB ls hi fr) ∧ wx = w.alloc (.cells #[.int .i64 eg, .int .i64 pg, .int .i64 tx, .int .i64 rt, .int .i64 ct, .int .i64 fr, .int .i64 ls, .int .i64 hi] 24))
              case first =>
                skip
                all_goals (go_wp2_with fail; all_goals (go_meet; refine ⟨bool_v ?_, rfl⟩; first | exact i_1 ls hi fr ‹_› | exact i_2 ls hi fr ‹_› | exact i_3 ls hi fr ‹_› | exact i_4 ls hi fr ‹_›))
              case rest =>
                rcases tf (listB ls hi fr) with hI | hI
                all_goals (rw [hI] at hcut; simp only [Bool.not_true, Bool.not_false] at hcut; obtain ⟨rfl, rfl⟩ := hcut)
                case inr =>
                  go_wp2_with fail
                  go_ret
                  exact ⟨by simp [okB, hI], (Below.refl _ _).alloc (Nat.le_refl _) _⟩
                go_wp2_with fail
                go_ret
                exact ⟨by simp [okB, hE, hP, hT, hH, hL, hC, hI], (Below.refl _ _).alloc (Nat.le_refl _) _⟩
end Go.Proofs.Ytdnfbjmapdgnnaa
