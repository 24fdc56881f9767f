/- espalierref01.ReadOrdered: the walk. -/
import Derived.Test.YtijlebjldnhnaaaInkReadOrd
namespace Go.Proofs.Ytijlebjldnhnaaa
open Go.RowKit
theorem add_succ (ad : Addr) (b : Nat) : ad.add (b + 1) = ⟨ad.block, ad.off + (b + 1), none⟩ := by simp [Addr.add]
set_option maxRecDepth 20000 in
set_option maxHeartbeats 4000000 in
theorem RReadOrdered_any (v : Value) (l : List UInt8) (at_ : Int) (w : World) (hv : RdB w v l) (hl : l.length ≤ 140737488355327) : Calls Try.prog 26 #[v, .int .i64 at_] w (RoPost l at_ w) := by
  obtain ⟨A, c, rfl, hm⟩ := hv.form
  by_cases h1 : at_ < 0
  · have hV : Hid (roV l at_ = ([], 0, 1)) := by show _ = _; unfold roV; rw [if_pos (.inl h1)]
    go_enter Try.func26, Try.ntmps26
    go_wp2_with fail
    go_ret3
    unfold RoPost; rw [hV.out]; exact ⟨_, rfl, OwB.nil _ _, Below.refl _ _⟩
  by_cases h2 : (l.length : Int) < at_
  · have hV : Hid (roV l at_ = ([], 0, 1)) := by show _ = _; unfold roV; rw [if_pos (.inr h2)]
    go_enter Try.func26, Try.ntmps26
    go_wp2_with fail
    go_ret3
    unfold RoPost; rw [hV.out]; exact ⟨_, rfl, OwB.nil _ _, Below.refl _ _⟩
  obtain ⟨a, rfl⟩ := Int.eq_ofNat_of_zero_le (show 0 ≤ at_ by omega)
  have hV : Hid (∀ N K C, roA [] 0 (l.drop a) = (N, K, C) → roV l a = (N, bif C == 0 then (a : Int) + K else 0, C)) := Lib.hid fun N K C h => by
    unfold roV; rw [if_neg (by omega), Int.toNat_natCast, h]
  have hal : a ≤ l.length := by omega
  go_enter Try.func26, Try.ntmps26
  go_wp2_with fail
  go_loopw [7, 8] (fun v i wr => ∃ (b : Nat) (acc : List UInt8), i = .int .i64 (b : Int) ∧ a ≤ b ∧ b ≤ l.length ∧ acc.length ≤ b ∧ OwB wr w.heap.size v acc ∧ Hid (roA [] 0 (l.drop a) = roA acc (b - a) (l.drop b)) ∧ Below w.heap.size w wr)
    (fun _ i _ => l.length - (intOf i).toNat)
  case atStart => exact ⟨a, [], rfl, Nat.le_refl _, hal, by simp, OwB.nil _ _, Lib.hid (by simp), Below.refl _ _⟩
  case round =>
    obtain ⟨b, acc, rfl, hab, hbl, hacc, ho, HE, hb⟩ := hrel
    have hbs := hb.size
    by_cases hlt : b < l.length
    · obtain ⟨ad, rfl, hc⟩ := (hv.below hb (Nat.le_refl _)).at_ hlt
      have hd := List.drop_eq_getElem_cons hlt
      by_cases hx : l[b] = 0
      · rw [hx] at hc hd
        have hc : wr.cell? (ad.add b) = some (.int .u8 0) := hc
        clear hx
        by_cases hlast : l.length ≤ b + 1
        · have HE3 := Lib.hid (hV.out _ _ _ (HE.out.trans (by rw [hd, List.drop_of_length_le hlast, roA_last])))
          clear hd
          go_wp2_with fail
          go_ret3
          unfold RoPost; rw [HE3.out]; exact ⟨_, rfl, OwB.nil _ _, hb⟩
        · have hnl : b + 1 < l.length := by omega
          obtain ⟨ad', had, hc2⟩ := (hv.below hb (Nat.le_refl _)).at_ hnl
          obtain rfl := Option.some.inj had
          rw [add_succ] at hc2
          have hd2 := List.drop_eq_getElem_cons hnl
          have HE2 := Lib.hid (HE.out.trans (by rw [hd, hd2]))
          generalize l[b + 1] = y at hc2 HE2 hd2
          have i1 : (b : Int) + 1 < (l.length : Int) := by omega
          clear hd hd2 had
          by_cases y1 : y = 1
          · subst y1
            replace hc2 : wr.cell? ⟨ad.block, ad.off + (b + 1), none⟩ = some (.int .u8 1) := hc2
            have HE3 := Lib.hid (hV.out _ _ _ (HE2.out.trans (roA_one _ _ _)))
            go_wp2_with fail
            go_ret3
            unfold RoPost; rw [HE3.out]
            exact ⟨_, ret3 rfl (congrArg (Value.int .i64) (by show (b : Int) + 2 = (a : Int) + ((b - a + 2 : Nat) : Int); omega)) rfl, ho, hb⟩
          by_cases y2 : y = 255
          · subst y2
            replace hc2 : wr.cell? ⟨ad.block, ad.off + (b + 1), none⟩ = some (.int .u8 255) := hc2
            have HE3 := Lib.hid (HE2.out.trans (roA_255 _ _ _))
            clear y1
            go_wp2_with (first
              | (at_builtin; refine wp_append_B1 rfl (.tmp 56) (.tmp 57) rfl w.heap.size _ _ rfl ho 0 _ rfl 5 rfl (by omega) hbs ?_; intro v4 w4 ho4 hg4 _; have hb4 := hb.grown hg4 hbs (fun g hg => (ho.lt g hg).1))
              | fail)
            go_roundw
            case rel => exact ⟨b + 2, acc ++ [0], by go_num, by omega, by omega, by rw [List.length_append]; simp; omega, ho4, Lib.hid (by rw [HE3.out]; congr 1; omega), hb4⟩
            case measure => simp [intOf]; omega
          · have HE3 := Lib.hid (hV.out _ _ _ (HE2.out.trans (roA_bad _ _ y _ y1 y2)))
            have e1 : ((y.toNat : Int) == 1) = false := u8_ne (z := 1) y1
            have e2 : ((y.toNat : Int) == 255) = false := u8_ne (z := 255) y2
            clear y1 y2
            go_wp2_with fail
            go_ret3
            unfold RoPost; rw [HE3.out]; exact ⟨_, rfl, OwB.nil _ _, hb⟩
      · have HE3 := Lib.hid (HE.out.trans (by rw [hd, roA_x _ _ _ _ hx]))
        have e0 : ((l[b].toNat : Int) == 0) = false := u8_ne (z := 0) hx
        clear hx hd
        generalize l[b] = x at hc HE3 e0
        go_wp2_with (first
          | (at_builtin; refine wp_append_B1 rfl (.tmp 27) (.tmp 32) rfl w.heap.size _ _ rfl ho x _ rfl 5 rfl (by omega) hbs ?_; intro v4 w4 ho4 hg4 _; have hb4 := hb.grown hg4 hbs (fun g hg => (ho.lt g hg).1))
          | fail)
        go_roundw
        case rel => exact ⟨b + 1, acc ++ [x], by go_num, by omega, by omega, by rw [List.length_append]; simp; omega, ho4, Lib.hid (by rw [HE3.out]; congr 1; omega), hb4⟩
        case measure => simp [intOf]; omega
    · obtain rfl : b = l.length := by omega
      have HE3 := Lib.hid (hV.out _ _ _ (HE.out.trans (by rw [List.drop_of_length_le (by omega)])))
      go_wp2_with fail
      go_ret3
      unfold RoPost; rw [HE3.out]; exact ⟨_, rfl, OwB.nil _ _, hb⟩
end Go.Proofs.Ytijlebjldnhnaaa
