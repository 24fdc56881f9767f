/- ink.Ordered, espalierref01.Ordered: walks. -/
import Derived.Test.YtijlebjldnhnaaaInkUint
namespace Go.Proofs.Ytijlebjldnhnaaa
open Go.RowKit
theorem escF_snoc_zero (l : List UInt8) : escF (l ++ [0]) = escF l ++ [0] ++ [255] := by rw [escF_append]; simp [escF]
theorem escF_snoc_one (l : List UInt8) {x : UInt8} (h : x ≠ 0) : escF (l ++ [x]) = escF l ++ [x] := by rw [escF_append]; simp [escF, h]
theorem escF_len2 (l : List UInt8) (j : Nat) : (escF (l.take j)).length ≤ 2 * l.length := by
  have := (escF_len (l.take j)).2
  have : (l.take j).length ≤ l.length := by simp; omega
  omega
theorem RdB.two (w : World) (x y : UInt8) (T : TypeId) : RdB (w.alloc (.cells #[.int .u8 (x.toNat : Int), .int .u8 (y.toNat : Int)] T)) (.slice (some ⟨w.heap.size, 0, none⟩) 2 2) [x, y] :=
  RdB.of_rd (n := 2) (by simpa [bvs, bv] using Rd.lit w [.int .u8 (x.toNat : Int), .int .u8 (y.toNat : Int)] T (by simp [maxLen]))
set_option maxRecDepth 20000 in
set_option maxHeartbeats 2000000 in
theorem Ordered_any (v : Value) (l : List UInt8) (w : World) (hv : RdB w v l) (hl : l.length ≤ 70000000000000) :
    Calls Try.prog 28 #[v] w fun e w' => ∃ v', e = .returned v' ∧ OwB w' w.heap.size v' (ordF l) ∧ Below w.heap.size w w' := by
  obtain ⟨A, c, rfl, hm⟩ := hv.form
  have hcnt : l.count 0 ≤ l.length := List.count_le_length
  go_enter Try.func28, Try.ntmps28
  go_wp2_with (first
    | (go_at_call 42; refine (Count_any _ l w.heap.size 1 0 _ (hv.alloc _) (by first | rfl | simp)).mono ?_; rintro e w1 ⟨rfl, rfl⟩; rw [show (0 : Int).toNat.toUInt8 = (0 : UInt8) from rfl])
    | (at_make; refine wp_make_B0 rfl _ _ rfl _ (l.length + l.count 0 + 2) rfl rfl (by go_num) (by omega) w.heap.size (by simp) ?_; intro w2 ho2 hw2 hs2)
    | fail)
  have b2 := ((Below.refl w.heap.size w).alloc (Nat.le_refl _) (.cells #[.int .u8 0] 5)).trans (hw2.mono (by simp))
  go_loopw [3, 16] (fun v i wr => ∃ j : Nat, i = .int .i64 (j : Int) ∧ j ≤ l.length ∧ OwB wr w.heap.size v (escF (l.take j)) ∧ Below w.heap.size w wr)
    (fun _ i _ => l.length - (intOf i).toNat)
  case atStart => exact ⟨0, rfl, Nat.zero_le _, by rw [World.size_alloc] at ho2; exact ho2, b2⟩
  case round =>
    clear ho2 b2 hw2 hs2
    obtain ⟨j, rfl, hj, ho, hb⟩ := hrel
    have hbs := hb.size
    have hlen := escF_len2 l j
    by_cases hlt : j < l.length
    · obtain ⟨ad, rfl, hc⟩ := (hv.below hb (Nat.le_refl _)).at_ hlt
      have HAT := Lib.hid fun (w' : World) (hb' : Below w.heap.size w w') => (hv.below hb' (Nat.le_refl _)).at_ hlt
      have htk : l.take (j + 1) = l.take j ++ [l[j]] := (List.take_append_getElem hlt).symm
      have HT := Lib.hid htk
      clear htk
      generalize l[j] = x at hc HT HAT
      by_cases hx : x = 0
      · subst hx
        have hlen3 : (escF (l.take j) ++ [0]).length + 1 ≤ 140737488355328 := by rw [List.length_append]; simp; omega
        have hc : wr.cell? (ad.add j) = some (.int .u8 0) := hc
        go_wp2_with (first
          | (at_builtin; refine wp_append_B1 rfl (.tmp 20) (.tmp 22) rfl w.heap.size _ _ rfl ho 0 _ rfl 5 rfl (by omega) hbs ?_; intro v3 w3 ho3 hg3 _; have hb3 := hb.grown hg3 hbs (fun g hg => (ho.lt g hg).1); have hbs3 := hb3.size; obtain ⟨ad', had, hc3⟩ := HAT.out _ hb3; obtain rfl := Option.some.inj had; replace hc3 : w3.cell? (ad.add j) = some (.int .u8 0) := hc3)
          | (at_builtin; refine wp_append_B1 rfl (.tmp 26) (.tmp 27) rfl w.heap.size _ _ rfl ho3 255 _ rfl 5 rfl hlen3 hbs3 ?_; intro v4 w4 ho4 hg4 _; have hb4 := hb3.grown hg4 hbs3 (fun g hg => (ho3.lt g hg).1))
          | fail)
        go_roundw
        case rel => exact ⟨j + 1, by go_num, by omega, by rw [HT.out, escF_snoc_zero]; exact ho4, hb4⟩
        case measure => simp [intOf]; omega
      · have hx0 : ((x.toNat : Int) == 0) = false := by
          have : x.toNat ≠ 0 := fun e => hx (UInt8.toNat_inj.mp e)
          simp; omega
        have HX := Lib.hid hx
        clear hx
        go_wp2_with (first
          | (at_builtin; refine wp_append_B1 rfl (.tmp 20) (.tmp 22) rfl w.heap.size _ _ rfl ho x _ rfl 5 rfl (by omega) hbs ?_; intro v3 w3 ho3 hg3 _; have hb3 := hb.grown hg3 hbs (fun g hg => (ho.lt g hg).1); obtain ⟨ad', had, hc3⟩ := HAT.out _ hb3; obtain rfl := Option.some.inj had)
          | fail)
        go_roundw
        case rel => exact ⟨j + 1, by go_num, by omega, by rw [HT.out, escF_snoc_one _ HX.out]; exact ho3, hb3⟩
        case measure => simp [intOf]; omega
    · obtain rfl : j = l.length := by omega
      rw [List.take_length] at ho
      rw [List.take_length] at hlen
      go_wp2_with (first
        | (at_builtin; refine wp_append_B rfl (.tmp 30) (.tmp 31) rfl w.heap.size _ _ rfl (ho.alloc _) _ [0, 1] rfl (RdB.two _ _ _ _) (by simp; omega) (by simp; omega) ?_; intro v5 w5 ho5 hg5 _)
        | fail)
      go_ret
      refine ⟨v5, rfl, ho5, ?_⟩
      have hb5 := hb.alloc hb.size (.cells #[.int .u8 0, .int .u8 1] 5)
      exact hb5.grown hg5 (by simp; omega) (fun g hg => (ho.lt g hg).1)
set_option maxRecDepth 20000 in
set_option maxHeartbeats 2000000 in
theorem ROrdered_any (v : Value) (l : List UInt8) (w : World) (hv : RdB w v l) (hl : l.length ≤ 70000000000000) :
    Calls Try.prog 38 #[v] w fun e w' => ∃ v', e = .returned v' ∧ OwB w' w.heap.size v' (ordF l) ∧ Below w.heap.size w w' := by
  obtain ⟨A, c, rfl, hm⟩ := hv.form
  go_enter Try.func38, Try.ntmps38
  go_wp2_with fail
  go_loopw [3, 4] (fun v i wr => ∃ j : Nat, i = .int .i64 (j : Int) ∧ j ≤ l.length ∧ OwB wr w.heap.size v (escF (l.take j)) ∧ Below w.heap.size w wr)
    (fun _ i _ => l.length - (intOf i).toNat)
  case atStart => exact ⟨0, rfl, Nat.zero_le _, OwB.nil _ _, Below.refl _ _⟩
  case round =>
    obtain ⟨j, rfl, hj, ho, hb⟩ := hrel
    have hbs := hb.size
    have hlen := escF_len2 l j
    by_cases hlt : j < l.length
    · obtain ⟨ad, rfl, hc⟩ := (hv.below hb (Nat.le_refl _)).at_ hlt
      have HAT := Lib.hid fun (w' : World) (hb' : Below w.heap.size w w') => (hv.below hb' (Nat.le_refl _)).at_ hlt
      have htk : l.take (j + 1) = l.take j ++ [l[j]] := (List.take_append_getElem hlt).symm
      have HT := Lib.hid htk
      clear htk
      generalize l[j] = x at hc HT HAT
      by_cases hx : x = 0
      · subst hx
        have hlen3 : (escF (l.take j) ++ [0]).length + 1 ≤ 140737488355328 := by rw [List.length_append]; simp; omega
        have hc : wr.cell? (ad.add j) = some (.int .u8 0) := hc
        go_wp2_with (first
          | (at_builtin; refine wp_append_B1 rfl (.tmp 11) (.tmp 16) rfl w.heap.size _ _ rfl ho 0 _ rfl 5 rfl (by omega) hbs ?_; intro v3 w3 ho3 hg3 _; have hb3 := hb.grown hg3 hbs (fun g hg => (ho.lt g hg).1); have hbs3 := hb3.size; obtain ⟨ad', had, hc3⟩ := HAT.out _ hb3; obtain rfl := Option.some.inj had; replace hc3 : w3.cell? (ad.add j) = some (.int .u8 0) := hc3)
          | (at_builtin; refine wp_append_B1 rfl (.tmp 23) (.tmp 24) rfl w.heap.size _ _ rfl ho3 255 _ rfl 5 rfl hlen3 hbs3 ?_; intro v4 w4 ho4 hg4 _; have hb4 := hb3.grown hg4 hbs3 (fun g hg => (ho3.lt g hg).1))
          | fail)
        go_roundw
        case rel => exact ⟨j + 1, by go_num, by omega, by rw [HT.out, escF_snoc_zero]; exact ho4, hb4⟩
        case measure => simp [intOf]; omega
      · have hx0 : ((x.toNat : Int) == 0) = false := by
          have : x.toNat ≠ 0 := fun e => hx (UInt8.toNat_inj.mp e)
          simp; omega
        have HX := Lib.hid hx
        clear hx
        go_wp2_with (first
          | (at_builtin; refine wp_append_B1 rfl (.tmp 11) (.tmp 16) rfl w.heap.size _ _ rfl ho x _ rfl 5 rfl (by omega) hbs ?_; intro v3 w3 ho3 hg3 _; have hb3 := hb.grown hg3 hbs (fun g hg => (ho.lt g hg).1); obtain ⟨ad', had, hc3⟩ := HAT.out _ hb3; obtain rfl := Option.some.inj had)
          | fail)
        go_roundw
        case rel => exact ⟨j + 1, by go_num, by omega, by rw [HT.out, escF_snoc_one _ HX.out]; exact ho3, hb3⟩
        case measure => simp [intOf]; omega
    · obtain rfl : j = l.length := by omega
      rw [List.take_length] at ho
      rw [List.take_length] at hlen
      have hlen3 : (escF l ++ [0]).length + 1 ≤ 140737488355328 := by rw [List.length_append]; simp; omega
      go_wp2_with (first
        | (at_builtin; refine wp_append_B1 rfl (.tmp 26) (.tmp 27) rfl w.heap.size _ _ rfl ho 0 _ rfl 5 rfl (by omega) hbs ?_; intro v3 w3 ho3 hg3 _; have hb3 := hb.grown hg3 hbs (fun g hg => (ho.lt g hg).1); have hbs3 := hb3.size)
        | (at_builtin; refine wp_append_B1 rfl (.tmp 29) (.tmp 30) rfl w.heap.size _ _ rfl ho3 1 _ rfl 5 rfl hlen3 hbs3 ?_; intro v4 w4 ho4 hg4 _; have hb4 := hb3.grown hg4 hbs3 (fun g hg => (ho3.lt g hg).1))
        | fail)
      go_ret
      refine ⟨v4, rfl, ?_, hb4⟩
      rw [List.append_assoc] at ho4
      exact ho4
end Go.Proofs.Ytijlebjldnhnaaa
