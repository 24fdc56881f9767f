/- espalierref01.Behind, Common: walks. -/
import Derived.Test.YtijlebjldnhnaaaInkRefTxt2
namespace Go.Proofs.Ytijlebjldnhnaaa
open Go.RowKit
theorem behL_eq {l : List UInt8} {k : Nat} (hk : k < l.length) (hs : stripN l = k + 1) : l.take k ++ [l[k] + 1] = behL l := by
  unfold behL
  rw [hs, Nat.add_sub_cancel]
  simp [List.getD, hk]
set_option maxRecDepth 20000 in
set_option maxHeartbeats 4000000 in
theorem RBehind_any (v : Value) (l : List UInt8) (w : World) (hv : RdB w v l) (hl : l.length ≤ 140737488355328) : Calls Try.prog 37 #[v] w (BhPost l w) := by
  obtain ⟨A, c, rfl, hm⟩ := hv.form
  go_enter Try.func37, Try.ntmps37
  go_wp2_with fail
  go_loopw [4] (fun u wr => ∃ k : Nat, u = .int .i64 (k : Int) ∧ k ≤ l.length ∧ Hid (stripN l = stripA l k) ∧ w = wr)
    (fun u _ => (intOf u).toNat)
  case atStart => exact ⟨l.length, rfl, Nat.le_refl _, Lib.hid rfl, rfl⟩
  case round =>
    obtain ⟨k, rfl, hk, HS, rfl⟩ := hrel
    cases k with
    | zero =>
      have hn : Hid (stripN l = 0) := HS
      rw [show ((0 : Nat) : Int) = 0 from rfl]
      go_wp2_with fail
      go_ret2
      unfold BhPost bhV
      rw [hn.out]
      exact ⟨_, rfl, OwB.nil _ _, Below.refl _ _⟩
    | succ k =>
      have hkl : k < l.length := by omega
      obtain ⟨ad, rfl, hc⟩ := hv.at_ (j := k) hkl
      have hgd : l.getD k 0 = l[k] := by simp [List.getD, hkl]
      have e1 : ((k + 1 : Nat) : Int) = (k : Int) + 1 := by omega
      have i1 : (k : Int) < (l.length : Int) := by omega
      rw [e1]
      clear e1
      by_cases hx : l[k] = 255
      · have HS2 : Hid (stripN l = stripA l k) := Lib.hid (by rw [HS.out, stripA_succ, if_pos (hgd.trans hx)])
        rw [hx] at hc
        have hc : w.cell? (ad.add k) = some (.int .u8 255) := hc
        clear hx hgd
        go_wp2_with fail
        go_roundw
        case rel => exact ⟨k, by go_num, by omega, HS2, trivial⟩
        case measure => simp [intOf]
      · have HS2 : Hid (stripN l = k + 1) := Lib.hid (by rw [HS.out, stripA_succ, if_neg (by rw [hgd]; exact hx)])
        have e255 : ((l[k].toNat : Int) == 255) = false := u8_ne (z := 255) hx
        have hbeh := behL_eq hkl HS2.out
        have HB := Lib.hid hbeh
        have xlt : l[k].toNat + 1 < 256 := by
          have h1 := l[k].toNat_lt
          have h2 : l[k].toNat ≠ 255 := fun e => hx (UInt8.toNat_inj.mp e)
          omega
        have hsu := u8_succ hx
        have HSU := Lib.hid hsu
        clear hx hgd hbeh hsu
        have ek : (((k : Int) + 1) == 0) = false := by simp; omega
        generalize l[k] = x at *
        go_wp2_with fail
        go_loopw [5, 6] (fun u i wr => ∃ j : Nat, i = .int .i64 (j : Int) ∧ j ≤ k ∧ OwB wr w.heap.size u (l.take j) ∧ Below w.heap.size w wr)
          (fun _ i _ => k - (intOf i).toNat)
        case atStart => exact ⟨0, rfl, Nat.zero_le _, OwB.nil _ _, Below.refl _ _⟩
        case round =>
          obtain ⟨j, rfl, hj, ho, hbl⟩ := hrel
          have hbs := hbl.size
          have hln : (l.take j).length + 1 ≤ 140737488355328 := by simp; omega
          by_cases hlt : j < k
          · have hjl : j < l.length := by omega
            obtain ⟨ad', had, hcj⟩ := (hv.below hbl (Nat.le_refl _)).at_ hjl
            obtain rfl := Option.some.inj had
            have htk := (List.take_append_getElem hjl)
            have ij : (j : Int) < (l.length : Int) := by omega
            have ij2 : (j : Int) < (k : Int) := by omega
            generalize l[j] = y at hcj htk
            have HT := Lib.hid htk
            clear htk had
            go_wp2_with (first
              | (at_builtin; refine wp_append_B1 rfl (.tmp 29) (.tmp 34) rfl w.heap.size _ _ rfl ho y _ rfl 5 rfl hln hbs ?_; intro v3 w3 ho3 hg3 _; have hb3 := hbl.grown hg3 hbs (fun g hg => (ho.lt g hg).1))
              | fail)
            go_roundw
            case rel => exact ⟨j + 1, by go_num, by omega, by rw [← HT.out]; exact ho3, hb3⟩
            case measure => simp [intOf]; omega
          · obtain rfl : j = k := by omega
            have hlt' : (ad.add j).block < w.heap.size := block_lt_of_cell hc
            have hcw : wr.cell? (ad.add j) = some (.int .u8 (x.toNat : Int)) := by rw [hbl.cell hlt']; exact hc
            go_wp2_with (first
              | (at_builtin; refine wp_append_B1 rfl (.tmp 36) (.tmp 43) rfl w.heap.size _ _ rfl ho (x + 1) _ (by rw [HSU.out]) 5 rfl hln hbs ?_; intro v3 w3 ho3 hg3 _; have hb3 := hbl.grown hg3 hbs (fun g hg => (ho.lt g hg).1))
              | fail)
            go_ret2
            unfold BhPost bhV
            rw [HS2.out]
            rw [HB.out] at ho3
            exact ⟨_, rfl, ho3, hb3⟩
end Go.Proofs.Ytijlebjldnhnaaa
