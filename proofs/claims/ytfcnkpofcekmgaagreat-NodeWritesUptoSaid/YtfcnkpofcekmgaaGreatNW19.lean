/- Texts joined: espalierref08.IsPage, MostKey, MostValue; espalierref08.Right; espalierref08.Half beside node.Half -/
import Derived.Test.YtfcnkpofcekmgaaGreatNW3
import Derived.Test.YtfcnkpofcekmgaaGreatNW4
import Derived.Test.YtfcnkpofcekmgaaGreatNW8
import Derived.Test.YtfcnkpofcekmgaaGreatNW16
import Derived.Test.YtfcnkpofcekmgaaGreatNW18
-- espalierref08.IsPage, MostKey, MostValue: the walks.
namespace Go.Proofs.YtfcnkpofcekmgaaGreat
open Go.RowKit
set_option maxRecDepth 20000 in
set_option maxHeartbeats 2000000 in
theorem RNIsPage_any (p : Int) (w : World) : Calls Tryz.prog 65 #[.int .i64 p] w fun e w' => e = .returned (.bool (isPowB p)) ∧ w = w' := by
  go_enter Tryz.func65, Tryz.ntmps65
  go_wp2_with fail
  go_loopw [3] (fun i wr => ∃ j : Nat, j ≤ 8 ∧ i = .int .i64 (pw j) ∧ Hid (∀ k, k < j → p ≠ pw k) ∧ w = wr) (fun i _ => (131072 - intOf i).toNat)
  case atStart => exact ⟨0, by omega, rfl, Lib.hid (by omega), rfl⟩
  case round =>
    obtain ⟨j, hj, rfl, HN, rfl⟩ := hrel
    rcases (by omega : j = 8 ∨ j < 8) with rfl | hlt
    · have HV := Lib.hid (show isPowB p = false from decide_eq_false fun h => by
        obtain ⟨k, hk, e⟩ := (isPow_pw p).1 h
        exact HN.out k hk e)
      have e8 : pw 8 = 131072 := by decide
      rw [e8]
      go_wp2_with fail
      go_ret
      rw [HV.out]
      exact ⟨rfl, rfl⟩
    · have hb : 512 ≤ pw j ∧ pw j ≤ 65536 ∧ pw (j + 1) = 2 * pw j := by
        rcases (by omega : j = 0 ∨ j = 1 ∨ j = 2 ∨ j = 3 ∨ j = 4 ∨ j = 5 ∨ j = 6 ∨ j = 7) with rfl | rfl | rfl | rfl | rfl | rfl | rfl | rfl <;> decide
      obtain ⟨h1, h2, h3⟩ := hb
      by_cases hp : p = pw j
      · have HV := Lib.hid (show isPowB p = true from decide_eq_true ((isPow_pw p).2 ⟨j, hlt, hp⟩))
        have hb : (pw j == p) = true := by simp [hp]
        clear hp h3
        generalize pw j = x at *
        go_wp2_with fail
        go_ret
        rw [HV.out]
        exact ⟨rfl, rfl⟩
      · have HN2 := Lib.hid (show ∀ k, k < j + 1 → p ≠ pw k from fun k hk => by
          rcases (by omega : k < j ∨ k = j) with h | rfl
          · exact HN.out k h
          · exact hp)
        have hb : (pw j == p) = false := by
          rw [Bool.eq_false_iff]
          simp only [ne_eq, beq_iff_eq]
          exact fun e => hp e.symm
        have H3 := Lib.hid h3
        clear hp h3
        generalize hx : pw j = x at *
        clear hx
        go_wp2_with fail
        go_roundw
        case rel => exact ⟨j + 1, by omega, by rw [H3.out], HN2, trivial⟩
        case measure => simp [intOf]; omega
set_option maxRecDepth 20000 in
set_option maxHeartbeats 1000000 in
theorem RNMostKey_ok (P : Nat) (hp : isPowB (P : Int) = true) (w : World) : Calls Tryz.prog 34 #[.int .i64 (P : Int)] w fun e w' => e = .returned (.int .i64 ((P / 8 : Nat) : Int)) ∧ w = w' := by
  have hr := isPowB_range hp
  have hi := RNIsPage_any (P : Int) w
  rw [hp] at hi
  have e1 : IntKind.i64.wrap ((P : Int) / 8) = (P : Int) / 8 := by rw [IntKind.wrap_i64]; omega
  have e2 : IntKind.i64.wrap ((P : Int) / 16) = (P : Int) / 16 := by rw [IntKind.wrap_i64]; omega
  have e3 : IntKind.i64.wrap ((P : Int) / 16 * 3) = (P : Int) / 16 * 3 := by rw [IntKind.wrap_i64]; omega
  clear hp
  go_enter Tryz.func34, Tryz.ntmps34
  go_wp2_with (first
    | (go_at_call 65; (with_reducible refine hi.mono ?_); rintro e w1 ⟨rfl, rfl⟩)
    | fail)
  go_ret
  exact ⟨rfl, rfl⟩
set_option maxRecDepth 20000 in
set_option maxHeartbeats 1000000 in
theorem RNMostKey_no (p : Int) (_hr : -9223372036854775808 ≤ p ∧ p ≤ 9223372036854775807) (hp : isPowB p = false) (w : World) : Calls Tryz.prog 34 #[.int .i64 p] w fun e w' => e = .returned (.int .i64 0) ∧ w = w' := by
  have hi := RNIsPage_any p w
  rw [hp] at hi
  clear hp
  go_enter Tryz.func34, Tryz.ntmps34
  go_wp2_with (first
    | (go_at_call 65; (with_reducible refine hi.mono ?_); rintro e w1 ⟨rfl, rfl⟩)
    | fail)
  go_ret
  exact ⟨rfl, rfl⟩
set_option maxRecDepth 20000 in
set_option maxHeartbeats 1000000 in
theorem RNMostValue_ok (P : Nat) (hp : isPowB (P : Int) = true) (w : World) : Calls Tryz.prog 36 #[.int .i64 (P : Int)] w fun e w' => e = .returned (.int .i64 ((P / 16 * 3 : Nat) : Int)) ∧ w = w' := by
  have hr := isPowB_range hp
  have hi := RNIsPage_any (P : Int) w
  rw [hp] at hi
  have e1 : IntKind.i64.wrap ((P : Int) / 8) = (P : Int) / 8 := by rw [IntKind.wrap_i64]; omega
  have e2 : IntKind.i64.wrap ((P : Int) / 16) = (P : Int) / 16 := by rw [IntKind.wrap_i64]; omega
  have e3 : IntKind.i64.wrap ((P : Int) / 16 * 3) = (P : Int) / 16 * 3 := by rw [IntKind.wrap_i64]; omega
  clear hp
  go_enter Tryz.func36, Tryz.ntmps36
  go_wp2_with (first
    | (go_at_call 65; (with_reducible refine hi.mono ?_); rintro e w1 ⟨rfl, rfl⟩)
    | fail)
  go_ret
  exact ⟨rfl, rfl⟩
set_option maxRecDepth 20000 in
set_option maxHeartbeats 1000000 in
theorem RNMostValue_no (p : Int) (_hr : -9223372036854775808 ≤ p ∧ p ≤ 9223372036854775807) (hp : isPowB p = false) (w : World) : Calls Tryz.prog 36 #[.int .i64 p] w fun e w' => e = .returned (.int .i64 0) ∧ w = w' := by
  have hi := RNIsPage_any p w
  rw [hp] at hi
  clear hp
  go_enter Tryz.func36, Tryz.ntmps36
  go_wp2_with (first
    | (go_at_call 65; (with_reducible refine hi.mono ?_); rintro e w1 ⟨rfl, rfl⟩)
    | fail)
  go_ret
  exact ⟨rfl, rfl⟩
end Go.Proofs.YtfcnkpofcekmgaaGreat

-- espalierref08.Right: the walk.
namespace Go.Proofs.YtfcnkpofcekmgaaGreat
open Go.RowKit
theorem rightC_at (kind : Int) (l : List CV) {k i : Nat} (hk : k ≤ i) (hi : i < l.length) (h : i - k < (rightC kind l k).length) : (rightC kind l k)[i - k] = if kind = 3 ∧ i = k then ⟨.slice none 0 0, l[i].vv, noKey l[i].c⟩ else l[i] := by
  obtain ⟨d, rfl⟩ : ∃ d, i = k + d := ⟨i - k, by omega⟩
  have e : (rightC kind l k)[k + d - k]? = some (if kind = 3 ∧ k + d = k then ⟨.slice none 0 0, l[k + d].vv, noKey l[k + d].c⟩ else l[k + d]) := by
    rw [Nat.add_sub_cancel_left]
    have hd : (l.drop k)[d]? = some l[k + d] := by rw [List.getElem?_drop, List.getElem?_eq_getElem hi]
    unfold rightC
    by_cases h3 : kind = 3
    · rw [if_pos h3]
      cases hl : l.drop k with
      | nil => rw [hl] at hd; cases hd
      | cons x r =>
        rw [hl] at hd
        cases d with
        | zero =>
          rw [if_pos ⟨h3, rfl⟩]
          have hx : x = l[k + 0] := Option.some.inj hd
          rw [← hx]; rfl
        | succ d =>
          rw [if_neg (by omega)]
          exact hd
    · rw [if_neg h3, if_neg (fun e => h3 e.1)]
      exact hd
  exact Option.some.inj ((List.getElem?_eq_getElem h).symm.trans e)
theorem rightC_ok {w : World} {u : Value} {l : List CV} (hl : RdCs w u l) (kind : Int) (k : Nat) : ∀ x ∈ rightC kind l k, x.ok w := by
  intro x hx
  unfold rightC at hx
  split at hx
  · have hd : ∀ y ∈ l.drop k, y.ok w := fun y hy => hl.ok y (List.mem_of_mem_drop hy)
    split at hx
    · cases hx
    · rename_i y r hyr
      rcases List.mem_cons.1 hx with rfl | hx
      · have hy := hd y (by rw [hyr]; simp)
        exact ⟨RdB.nil, hy.v, hy.r1, hy.r2, hy.r3⟩
      · exact hd x (by rw [hyr]; simp [hx])
  · exact hl.ok x (List.mem_of_mem_drop hx)
set_option maxRecDepth 100000 in
set_option maxHeartbeats 16000000 in
theorem Right_2 (v : Value) (l : List CV) (k : Nat) (hkl : k ≤ l.length) (w : World) (hl : RdCs w v l) (hn : l.length * 72 ≤ 140737488355328) :
    Calls Tryz.prog 59 #[.int .i64 2, v, .int .i64 (k : Int)] w fun e w' => ∃ A c, e = .returned (.slice A (rightC 2 l k).length c) ∧ Sep w w' [ownE 43 5 (.slice A (rightC 2 l k).length c) (rightC 2 l k).length (flatC (rightC 2 l k)), oldE w] := by
  obtain ⟨n, hnn⟩ : ∃ n, l.length = n := ⟨_, rfl⟩
  have HNN := Lib.hid hnn
  have hl0 := hl
  have hrl := rightC_length 2 l k
  have hro := rightC_ok hl 2 k
  have hra := fun i (h1 : k ≤ i) (h2 : i < l.length) (h3 : i - k < (rightC 2 l k).length) => rightC_at 2 l h1 h2 h3
  have HRO := Lib.hid hro
  have HRA := Lib.hid hra
  obtain ⟨A, c, rfl, hm, hc⟩ := hl.slice
  rw [hnn] at hm hl0 hn hkl hrl ⊢
  have HL0 := Lib.hid hl0
  have HRL := Lib.hid hrl
  have hS : Sep w w (ownE 43 5 (.slice none 0 0) 0 [] :: [oldE w]) := (Sep.start w).nilC
  clear hl hc hnn hrl hro hra hl0
  generalize rightC 2 l k = R at *
  go_enter Tryz.func59, Tryz.ntmps59
  go_upto_region 3 with (fail)
  go_loopw [7, 8] (fun cv iv wr => ∃ (i : Nat) (m : List CV), k ≤ i ∧ i ≤ n ∧ iv = .int .i64 (i : Int) ∧ Hid (m = R.take (i - k)) ∧ Hid (m.length = i - k) ∧ Sep w wr (ownE 43 5 cv m.length (flatC m) :: [oldE w])) (fun _ iv _ => n - (intOf iv).toNat)
  case atStart => exact ⟨k, [], Nat.le_refl _, hkl, rfl, Lib.hid (by simp), Lib.hid (by simp), hS⟩
  case round =>
    clear hS
    obtain ⟨i, m, hki, hin, rfl, HM, HK, hS⟩ := hrel
    obtain ⟨B, cc, rfl⟩ := Own.slice (show Own wr 0 43 5 _ m.length (flatC m) from hS.head)
    rw [HK.out]
    by_cases hlt : i < n
    · have ik : (i : Int) < (n : Int) := by omega
      have i0 : (0 : Int) ≤ (i : Int) := by omega
      have hil : i < l.length := by rw [HNN.out]; exact hlt
      have hiR : i - k < R.length := by rw [HRL.out]; omega
      obtain ⟨ad, rfl, c0, c1, c2, c3, c4⟩ := (hS.rdC8 (v := w) (by simp) HL0.out).at_ hil
      have hxo := HL0.out.ok _ (List.getElem_mem hil)
      have hra := HRA.out i hki hil hiR
      have hro := HRO.out _ (List.getElem_mem hiR)
      have htk : R.take (i + 1 - k) = R.take (i - k) ++ [R[i - k]] := by rw [show i + 1 - k = i - k + 1 by omega]; exact List.take_succ_eq_append_getElem hiR
      generalize R[i - k] = y at *
      generalize l[i] = x at *
      obtain ⟨xA, xa, xB, xb, key, ck, val, pg, ct, rfl, _, _⟩ := CV.form hxo
      simp only at c0 c1 c2 c3 c4
      have HTK := Lib.hid htk
      have HRo := Lib.hid hro
      have HRa := Lib.hid hra
      have hS4 := hS.alloc 43 [.slice xA key.length xa, .int .i64 ck, .slice xB val.length xb, .int .i64 pg, .int .i64 ct]
      clear hS htk hxo hro hra
      rcases Nat.decEq i k with hik | hik
      case' isFalse =>
        have hy := HRa.out
        rw [if_neg (fun e => hik e.2)] at hy
        have HY := Lib.hid hy
        have ine : ((i : Int) == (k : Int)) = false := beq_eq_false_iff_ne.2 (by omega)
        clear hik hy
        go_upto_region 8 with (fail)
        generalize hW4 : wr.alloc (.cells #[.slice xA key.length xa, .int .i64 ck, .slice xB val.length xb, .int .i64 pg, .int .i64 ct] 43) = w4 at *
        generalize wr.heap.size = cb at *
        clear hW4 c0 c1 c2 c3 c4 ine
        have hS4 : Sep w w4 (blkE cb 43 [y.kv, .int .i64 y.c.kind, y.vv, .int .i64 y.c.page, .int .i64 y.c.count] :: ownE 43 5 (.slice B (i - k) cc) (i - k) (flatC m) :: [oldE w]) := by rw [HY.out]; rw [HK.out] at hS4; exact hS4
      case' isTrue =>
        have hy := HRa.out
        rw [if_neg (fun e => absurd e.1 (by decide))] at hy
        have HY := Lib.hid hy
        have ine : ((i : Int) == (k : Int)) = true := beq_iff_eq.2 (by omega)
        clear hik hy
        go_upto_region 8 with (fail)
        generalize hW4 : wr.alloc (.cells #[.slice xA key.length xa, .int .i64 ck, .slice xB val.length xb, .int .i64 pg, .int .i64 ct] 43) = w4 at *
        generalize wr.heap.size = cb at *
        clear hW4 c0 c1 c2 c3 c4 ine
        have hS4 : Sep w w4 (blkE cb 43 [y.kv, .int .i64 y.c.kind, y.vv, .int .i64 y.c.page, .int .i64 y.c.count] :: ownE 43 5 (.slice B (i - k) cc) (i - k) (flatC m) :: [oldE w]) := by rw [HY.out]; rw [HK.out] at hS4; exact hS4
      all_goals
        obtain ⟨yA, ya, yB, yb, ykey, yck, yval, ypg, yct, rfl, _, _⟩ := CV.form HRo.out
        simp only at hS4
        obtain ⟨y0, y1, y2, y3, y4⟩ := cells5 hS4.blk
        have hS5 := hS4.alloc 43 [.slice yA ykey.length ya, .int .i64 yck, .slice yB yval.length yb, .int .i64 ypg, .int .i64 yct]
        have hown2 := (show Own _ 0 43 5 (.slice B (i - k) cc) (i - k) (flatC m) from hS5.tail.tail.head)
        have hfive := Rd.five w4 (.slice yA ykey.length ya) (.int .i64 yck) (.slice yB yval.length yb) (.int .i64 ypg) (.int .i64 yct) 43
        have hone := flatC_one (l := [⟨.slice yA ykey.length ya, .slice yB yval.length yb, ⟨ykey, yck, yval, ypg, yct⟩⟩]) (fun x hx => by obtain rfl := List.mem_singleton.1 hx; exact HRo.out)
        have hl9 : (i - k + 1) * 72 ≤ 140737488355328 := by omega
        have HL9 := Lib.hid hl9
        clear hS4 hl9
        go_upto_region 4 with (first
          | (at_builtin; refine wp_append_C rfl (.tmp 29) (.tmp 31) rfl 0 (.slice B (i - k) cc) m rfl (by rw [HK.out]; exact hown2) (.slice (some ⟨w4.heap.size, 0, none⟩) 1 1) [⟨.slice yA ykey.length ya, .slice yB yval.length yb, ⟨ykey, yck, yval, ypg, yct⟩⟩] rfl hfive hone (by have := HL9.out; rw [HK.out]; simpa using this) (Nat.zero_le _) ?_; intro v5 w5 ho5 hg5 hk5)
          | fail)
        have hS6 := (Sep.pick (L := [_, _, _, _]) [2, 3] (by decide) rfl hS5).appC ho5 hg5 (by rcases hk5 with e | e; exact .inl e; exact .inr ⟨_, e, Nat.le_refl _⟩)
        have HM2 := Lib.hid (HTK.out.trans (by rw [← HM.out])).symm
        have HS6 := Lib.hid hS6
        clear hS5 hS6 hown2 hfive hone ho5 hg5 hk5 y0 y1 y2 y3 y4
        go_wp2_with fail
        go_roundw
        case rel => exact ⟨i + 1, _, by omega, by omega, by go_num, HM2, Lib.hid (by rw [List.length_append, HK.out]; simp only [List.length_singleton]; omega), HS6.out⟩
        case measure => simp [intOf]; omega
    · have hmR : m = R := by rw [HM.out, List.take_of_length_le (by rw [HRL.out]; omega)]
      subst hmR
      have HS9 := Lib.hid hS
      have ik : (n : Int) ≤ (i : Int) := by omega
      clear hS HM
      go_wp2_with fail
      go_ret
      exact ⟨B, cc, by rw [HK.out]; rfl, HS9.out⟩
set_option maxRecDepth 100000 in
set_option maxHeartbeats 16000000 in
theorem Right_3 (v : Value) (l : List CV) (k : Nat) (hkl : k ≤ l.length) (w : World) (hl : RdCs w v l) (hn : l.length * 72 ≤ 140737488355328) :
    Calls Tryz.prog 59 #[.int .i64 3, v, .int .i64 (k : Int)] w fun e w' => ∃ A c, e = .returned (.slice A (rightC 3 l k).length c) ∧ Sep w w' [ownE 43 5 (.slice A (rightC 3 l k).length c) (rightC 3 l k).length (flatC (rightC 3 l k)), oldE w] := by
  obtain ⟨n, hnn⟩ : ∃ n, l.length = n := ⟨_, rfl⟩
  have HNN := Lib.hid hnn
  have hl0 := hl
  have hrl := rightC_length 3 l k
  have hro := rightC_ok hl 3 k
  have hra := fun i (h1 : k ≤ i) (h2 : i < l.length) (h3 : i - k < (rightC 3 l k).length) => rightC_at 3 l h1 h2 h3
  have HRO := Lib.hid hro
  have HRA := Lib.hid hra
  obtain ⟨A, c, rfl, hm, hc⟩ := hl.slice
  rw [hnn] at hm hl0 hn hkl hrl ⊢
  have HL0 := Lib.hid hl0
  have HRL := Lib.hid hrl
  have hS : Sep w w (ownE 43 5 (.slice none 0 0) 0 [] :: [oldE w]) := (Sep.start w).nilC
  clear hl hc hnn hrl hro hra hl0
  generalize rightC 3 l k = R at *
  go_enter Tryz.func59, Tryz.ntmps59
  go_upto_region 3 with (fail)
  go_loopw [7, 8] (fun cv iv wr => ∃ (i : Nat) (m : List CV), k ≤ i ∧ i ≤ n ∧ iv = .int .i64 (i : Int) ∧ Hid (m = R.take (i - k)) ∧ Hid (m.length = i - k) ∧ Sep w wr (ownE 43 5 cv m.length (flatC m) :: [oldE w])) (fun _ iv _ => n - (intOf iv).toNat)
  case atStart => exact ⟨k, [], Nat.le_refl _, hkl, rfl, Lib.hid (by simp), Lib.hid (by simp), hS⟩
  case round =>
    clear hS
    obtain ⟨i, m, hki, hin, rfl, HM, HK, hS⟩ := hrel
    obtain ⟨B, cc, rfl⟩ := Own.slice (show Own wr 0 43 5 _ m.length (flatC m) from hS.head)
    rw [HK.out]
    by_cases hlt : i < n
    · have ik : (i : Int) < (n : Int) := by omega
      have i0 : (0 : Int) ≤ (i : Int) := by omega
      have hil : i < l.length := by rw [HNN.out]; exact hlt
      have hiR : i - k < R.length := by rw [HRL.out]; omega
      obtain ⟨ad, rfl, c0, c1, c2, c3, c4⟩ := (hS.rdC8 (v := w) (by simp) HL0.out).at_ hil
      have hxo := HL0.out.ok _ (List.getElem_mem hil)
      have hra := HRA.out i hki hil hiR
      have hro := HRO.out _ (List.getElem_mem hiR)
      have htk : R.take (i + 1 - k) = R.take (i - k) ++ [R[i - k]] := by rw [show i + 1 - k = i - k + 1 by omega]; exact List.take_succ_eq_append_getElem hiR
      generalize R[i - k] = y at *
      generalize l[i] = x at *
      obtain ⟨xA, xa, xB, xb, key, ck, val, pg, ct, rfl, _, _⟩ := CV.form hxo
      simp only at c0 c1 c2 c3 c4
      have HTK := Lib.hid htk
      have HRo := Lib.hid hro
      have HRa := Lib.hid hra
      have hS4 := hS.alloc 43 [.slice xA key.length xa, .int .i64 ck, .slice xB val.length xb, .int .i64 pg, .int .i64 ct]
      have hS5 := hS.alloc 43 [.slice none 0 0, .int .i64 ck, .slice xB val.length xb, .int .i64 pg, .int .i64 ct]
      clear hS htk hxo hro hra
      rcases Nat.decEq i k with hik | hik
      case' isFalse =>
        have hy := HRa.out
        rw [if_neg (fun e => hik e.2)] at hy
        have HY := Lib.hid hy
        have ine : ((i : Int) == (k : Int)) = false := beq_eq_false_iff_ne.2 (by omega)
        clear hik hy
        go_upto_region 8 with (fail)
        generalize hW4 : wr.alloc (.cells #[.slice xA key.length xa, .int .i64 ck, .slice xB val.length xb, .int .i64 pg, .int .i64 ct] 43) = w4 at *
        generalize wr.heap.size = cb at *
        clear hW4 c0 c1 c2 c3 c4 ine
        have hS4 : Sep w w4 (blkE cb 43 [y.kv, .int .i64 y.c.kind, y.vv, .int .i64 y.c.page, .int .i64 y.c.count] :: ownE 43 5 (.slice B (i - k) cc) (i - k) (flatC m) :: [oldE w]) := by rw [HY.out]; rw [HK.out] at hS4; exact hS4
      case' isTrue =>
        have hy := HRa.out
        rw [if_pos (by simpa using hik)] at hy
        have HY := Lib.hid hy
        have ine : ((i : Int) == (k : Int)) = true := beq_iff_eq.2 (by omega)
        have hS4 := hS5
        clear hik hy
        go_upto_region 8 with (fail)
        generalize hW4 : wr.alloc (.cells #[.slice none 0 0, .int .i64 ck, .slice xB val.length xb, .int .i64 pg, .int .i64 ct] 43) = w4 at *
        generalize wr.heap.size = cb at *
        clear hW4 c0 c1 c2 c3 c4 ine
        have hS4 : Sep w w4 (blkE cb 43 [y.kv, .int .i64 y.c.kind, y.vv, .int .i64 y.c.page, .int .i64 y.c.count] :: ownE 43 5 (.slice B (i - k) cc) (i - k) (flatC m) :: [oldE w]) := by rw [HY.out]; rw [HK.out] at hS4; exact hS4
      all_goals
        obtain ⟨yA, ya, yB, yb, ykey, yck, yval, ypg, yct, rfl, _, _⟩ := CV.form HRo.out
        simp only at hS4
        obtain ⟨y0, y1, y2, y3, y4⟩ := cells5 hS4.blk
        have hS5 := hS4.alloc 43 [.slice yA ykey.length ya, .int .i64 yck, .slice yB yval.length yb, .int .i64 ypg, .int .i64 yct]
        have hown2 := (show Own _ 0 43 5 (.slice B (i - k) cc) (i - k) (flatC m) from hS5.tail.tail.head)
        have hfive := Rd.five w4 (.slice yA ykey.length ya) (.int .i64 yck) (.slice yB yval.length yb) (.int .i64 ypg) (.int .i64 yct) 43
        have hone := flatC_one (l := [⟨.slice yA ykey.length ya, .slice yB yval.length yb, ⟨ykey, yck, yval, ypg, yct⟩⟩]) (fun x hx => by obtain rfl := List.mem_singleton.1 hx; exact HRo.out)
        have hl9 : (i - k + 1) * 72 ≤ 140737488355328 := by omega
        have HL9 := Lib.hid hl9
        clear hS4 hl9
        go_upto_region 4 with (first
          | (at_builtin; refine wp_append_C rfl (.tmp 29) (.tmp 31) rfl 0 (.slice B (i - k) cc) m rfl (by rw [HK.out]; exact hown2) (.slice (some ⟨w4.heap.size, 0, none⟩) 1 1) [⟨.slice yA ykey.length ya, .slice yB yval.length yb, ⟨ykey, yck, yval, ypg, yct⟩⟩] rfl hfive hone (by have := HL9.out; rw [HK.out]; simpa using this) (Nat.zero_le _) ?_; intro v5 w5 ho5 hg5 hk5)
          | fail)
        have hS6 := (Sep.pick (L := [_, _, _, _]) [2, 3] (by decide) rfl hS5).appC ho5 hg5 (by rcases hk5 with e | e; exact .inl e; exact .inr ⟨_, e, Nat.le_refl _⟩)
        have HM2 := Lib.hid (HTK.out.trans (by rw [← HM.out])).symm
        have HS6 := Lib.hid hS6
        clear hS5 hS6 hown2 hfive hone ho5 hg5 hk5 y0 y1 y2 y3 y4
        go_wp2_with fail
        go_roundw
        case rel => exact ⟨i + 1, _, by omega, by omega, by go_num, HM2, Lib.hid (by rw [List.length_append, HK.out]; simp only [List.length_singleton]; omega), HS6.out⟩
        case measure => simp [intOf]; omega
    · have hmR : m = R := by rw [HM.out, List.take_of_length_le (by rw [HRL.out]; omega)]
      subst hmR
      have HS9 := Lib.hid hS
      have ik : (n : Int) ≤ (i : Int) := by omega
      clear hS HM
      go_wp2_with fail
      go_ret
      exact ⟨B, cc, by rw [HK.out]; rfl, HS9.out⟩
end Go.Proofs.YtfcnkpofcekmgaaGreat

-- espalierref08.Half beside node.Half: plain laws.
namespace Go.Proofs.YtfcnkpofcekmgaaGreat
section
variable (sz : List PC → Nat) (fit : List PC → Bool) (kind : Int) (l : List PC)
/-- The document's step: (least, at). -/
def rStep (k : Nat) (s : Nat × Nat) : Nat × Nat := if fit (l.take k) = true ∧ fit (rightF kind l k) = true ∧ (s.2 = 0 ∨ hMost sz kind l k < s.1) then (hMost sz kind l k, k) else s
def rLoop : Nat → Nat → Nat × Nat → Nat × Nat
  | 0, _, s => s
  | m + 1, k, s => rLoop m (k + 1) (rStep sz fit kind l k s)
theorem rLoop_eq {P : Nat} (hf : ∀ x, fit x = true → sz x ≤ P) : ∀ (m k : Nat) (s r : Nat × Nat), 2 ≤ k → s.2 = r.2 → (s.2 = 0 → s.1 = P + 1) → (s.2 ≠ 0 → s.1 = r.1) → (rLoop sz fit kind l m k r).2 = (hLoop sz fit kind l m k s).2
  | 0, _, _, _, _, h, _, _ => h.symm
  | m + 1, k, s, r, hk, h, h0, h1 => by
    unfold rLoop
    rw [hLoop_le]
    have hle : fit (l.take k) = true → fit (rightF kind l k) = true → hMost sz kind l k ≤ P := fun a b => Nat.max_le.2 ⟨hf _ a, hf _ b⟩
    have e : (fit (l.take k) = true ∧ fit (rightF kind l k) = true ∧ (r.2 = 0 ∨ hMost sz kind l k < r.1)) ↔ (hMost sz kind l k < s.1 ∧ fit (l.take k) = true ∧ fit (rightF kind l k) = true) := by
      by_cases hz : s.2 = 0
      · rw [h0 hz]
        exact ⟨fun ⟨a, b, _⟩ => ⟨by have := hle a b; omega, a, b⟩, fun ⟨_, a, b⟩ => ⟨a, b, .inl (h ▸ hz)⟩⟩
      · rw [h1 hz]
        exact ⟨fun ⟨a, b, c⟩ => ⟨by rcases c with c | c; exact absurd (h.trans c) hz; exact c, a, b⟩, fun ⟨c, a, b⟩ => ⟨a, b, .inr c⟩⟩
    by_cases hc : hMost sz kind l k < s.1 ∧ fit (l.take k) = true ∧ fit (rightF kind l k) = true
    · have e1 : rStep sz fit kind l k r = (hMost sz kind l k, k) := if_pos (e.2 hc)
      have e2 : hStep sz fit kind l k s = (hMost sz kind l k, k) := if_pos hc
      rw [e1, e2]
      exact rLoop_eq hf m (k + 1) _ _ (by omega) rfl (fun hz => by have hz' : k = 0 := hz; omega) (fun _ => rfl)
    · have e1 : rStep sz fit kind l k r = r := if_neg (fun x => hc (e.1 x))
      have e2 : hStep sz fit kind l k s = s := if_neg hc
      rw [e1, e2]
      exact rLoop_eq hf m (k + 1) s r (by omega) h h0 h1
end
end Go.Proofs.YtfcnkpofcekmgaaGreat
