/- espalierref01.begins, Common, Between, Behind: walks. -/
import Derived.Test.YtijlebjldnhnaaaInkRefText
import Derived.Test.YtijlebjldnhnaaaInkComm2
namespace Go.Proofs.Ytijlebjldnhnaaa
open Go.RowKit
theorem begins_iff (x t : List UInt8) (m : Nat) : (m ≤ x.length ∧ m ≤ t.length ∧ x.take m = t.take m) ↔ m ≤ comF t x := by
  have hle := comF_le t x
  constructor
  · rintro ⟨h1, h2, h3⟩
    rcases Nat.lt_or_ge (comF t x) m with h | h
    · have hs := comF_stop t x (by omega) (by omega)
      have e := congrArg (fun l : List UInt8 => l[comF t x]?) h3
      simp only [List.getElem?_take_of_lt h] at e
      rw [List.getElem?_eq_getElem (by omega), List.getElem?_eq_getElem (by omega)] at e
      exact absurd (Option.some.inj e).symm hs
    · exact h
  · intro h
    refine ⟨by omega, by omega, ?_⟩
    have e := comF_take t x
    have e2 := congrArg (List.take m) e
    rw [List.take_take, List.take_take, Nat.min_eq_left h] at e2
    exact e2.symm
def bgB (a b : List UInt8) (n : Nat) : Bool := decide (n ≤ comF b a)
set_option maxRecDepth 20000 in
set_option maxHeartbeats 4000000 in
theorem begins_any (va vb : Value) (a b : List UInt8) (n : Nat) (w : World) (ha : RdB w va a) (hb : RdB w vb b) (hn : n ≤ b.length) :
    Calls Try.prog 44 #[va, vb, .int .i64 (n : Int)] w fun e w' => e = .returned (.bool (bgB a b n)) ∧ Below w.heap.size w w' := by
  obtain ⟨A, ca, rfl, hma⟩ := ha.form
  obtain ⟨B, cb, rfl, hmb⟩ := hb.form
  have hle := comF_le b a
  by_cases h1 : a.length < n
  · have HV : Hid (bgB a b n = false) := by show _ = _; unfold bgB; exact decide_eq_false (by omega)
    have j1 : (a.length : Int) < (n : Int) := by omega
    go_enter Try.func44, Try.ntmps44
    go_wp2_with fail
    go_ret
    rw [HV.out]
    exact ⟨rfl, Below.refl _ _⟩
  have j1 : ¬ (a.length : Int) < (n : Int) := by omega
  have j2 : ¬ (b.length : Int) < (n : Int) := by omega
  go_enter Try.func44, Try.ntmps44
  go_wp2_with fail
  go_loopw [7] (fun i wr => ∃ j : Nat, i = .int .i64 (j : Int) ∧ j ≤ n ∧ Hid (j ≤ comF b a) ∧ Below w.heap.size w wr)
    (fun i _ => n - (intOf i).toNat)
  case atStart => exact ⟨0, rfl, Nat.zero_le _, Lib.hid (Nat.zero_le _), Below.refl _ _⟩
  case round =>
    obtain ⟨j, rfl, hj, HJ, hbl⟩ := hrel
    by_cases hlt : j < n
    · have ja : j < a.length := by omega
      have jb : j < b.length := by omega
      obtain ⟨ad, rfl, hca⟩ := (ha.below hbl (Nat.le_refl _)).at_ ja
      obtain ⟨bd, rfl, hcb⟩ := (hb.below hbl (Nat.le_refl _)).at_ jb
      have i1 : (j : Int) < (a.length : Int) := by omega
      have i2 : (j : Int) < (b.length : Int) := by omega
      by_cases hxy : a[j] = b[j]
      · have HJ2 : Hid (j + 1 ≤ comF b a) := Lib.hid (by
          rcases Nat.lt_or_ge j (comF b a) with h | h
          · exact h
          · have he : comF b a = j := by have := HJ.out; omega
            have hs := comF_stop b a (by omega) (by omega)
            simp only [he] at hs
            exact absurd hxy.symm hs)
        rw [hxy] at hca
        clear hxy
        generalize b[j] = x at hca hcb
        go_upto_region 6 with (fail)
        go_region
        go_wp2_with fail
        go_roundw
        case rel => exact ⟨j + 1, by go_num, by omega, HJ2, hbl.drew⟩
        case measure => simp [intOf]; omega
      · have HV : Hid (bgB a b n = false) := by
          show _ = _
          unfold bgB
          refine decide_eq_false fun hc => ?_
          have := comF_eq (a := b) (b := a) (j := j) (by omega)
          rw [List.getElem?_eq_getElem jb, List.getElem?_eq_getElem ja] at this
          exact hxy (Option.some.inj this).symm
        have e1 := u8_ne hxy
        clear hxy
        generalize a[j] = x at hca e1
        generalize b[j] = y at hcb e1
        go_upto_region 6 with (fail)
        go_region
        go_wp2_with fail
        go_ret
        rw [HV.out]
        exact ⟨rfl, hbl.drew⟩
    · obtain rfl : j = n := by omega
      have HV : Hid (bgB a b j = true) := by show _ = _; unfold bgB; exact decide_eq_true HJ.out
      go_wp2_with fail
      go_ret
      rw [HV.out]
      exact ⟨rfl, hbl⟩
set_option maxRecDepth 20000 in
set_option maxHeartbeats 4000000 in
theorem RBetween_any (va vb : Value) (a b : List UInt8) (w : World) (ha : RdB w va a) (hb : RdB w vb b) (hl : b.length ≤ 140737488355328) : Calls Try.prog 35 #[va, vb] w (BtPost a b w) := by
  obtain ⟨A, ca, rfl, hma⟩ := ha.form
  obtain ⟨B, cb, rfl, hmb⟩ := hb.form
  by_cases h : ordC a b < 0
  · obtain ⟨hV, hC⟩ := bt_yes h
    have HV := Lib.hid hV
    have HC := Lib.hid hC
    have hk := between_lt h
    have HB := Lib.hid fun n (hn : n ≤ b.length) => between_take a b n h hn
    have h' := h
    clear hV hC
    go_enter Try.func35, Try.ntmps35
    go_wp2_with fail
    refine (Order_any _ _ a b _ ha hb).mono ?_
    rintro e w1 ⟨rfl, hw1⟩
    go_wp2_with fail
    clear h h'
    generalize ordC a b = o at *
    go_loopw [7] (fun i wr => ∃ n : Nat, i = .int .i64 (n : Int) ∧ n ≤ comF a b + 1 ∧ Below w.heap.size w wr)
      (fun i _ => comF a b + 1 - (intOf i).toNat)
    case atStart => exact ⟨0, rfl, Nat.zero_le _, hw1⟩
    case round =>
      clear hw1
      obtain ⟨n, rfl, hn, hbl⟩ := hrel
      have hnb : n ≤ b.length := by omega
      obtain ⟨A1, c1, q1, hr1⟩ := (hb.below hbl (Nat.le_refl _)).run_h n hnb
      by_cases hlt : comF a b < n
      · have hneg : ordC a (b.take n) < 0 := (HB.out n hnb).mpr hlt
        obtain rfl : n = comF a b + 1 := by omega
        have hk1 : ((comF a b + 1 : Nat) : Int) = (comF a b : Int) + 1 := by omega
        rw [hk1]
        have q1 : ∀ w', (Instr.slice 24 (.slice B b.length cb) none (some (.int .i64 ((comF a b : Int) + 1))) none).run Try.prog w' = .ok (.slice A1 (comF a b + 1) c1) w' := fun w' => by
          have := q1 w'
          rw [hk1] at this
          exact this
        clear hk1
        go_wp2_with fail
        refine (Order_any _ _ a _ _ (ha.below hbl (Nat.le_refl _)) hr1).mono ?_
        rintro e w2 ⟨rfl, hw2⟩
        have hb2 := hbl.trans (hw2.mono hbl.size)
        clear hw2 hbl q1 hr1
        generalize ordC a (b.take (comF a b + 1)) = o2 at *
        go_wp2_with fail
        go_loopw [9, 10] (fun v i wr => ∃ j : Nat, i = .int .i64 (j : Int) ∧ j ≤ comF a b + 1 ∧ OwB wr w.heap.size v (b.take j) ∧ Below w.heap.size w wr)
          (fun _ i _ => comF a b + 1 - (intOf i).toNat)
        case atStart => exact ⟨0, rfl, Nat.zero_le _, OwB.nil _ _, hb2⟩
        case round =>
          clear hb2
          obtain ⟨j, rfl, hj, ho, hbl⟩ := hrel
          have hbs := hbl.size
          by_cases hlt2 : j < comF a b + 1
          · have jb : j < b.length := by omega
            obtain ⟨ad, rfl, hc⟩ := (hb.below hbl (Nat.le_refl _)).at_ jb
            have htk := (List.take_append_getElem jb)
            have hln : (b.take j).length + 1 ≤ 140737488355328 := by simp; omega
            have ij : (j : Int) < (b.length : Int) := by omega
            generalize b[j] = x at hc htk
            have HT := Lib.hid htk
            clear htk
            go_wp2_with (first
              | (at_builtin; refine wp_append_B1 rfl (.tmp 34) (.tmp 39) rfl w.heap.size _ _ rfl ho x _ rfl 5 rfl hln hbs ?_; intro v3 w3 ho3 hg3 _; have hb3 := hbl.grown hg3 hbs (fun g hg => (ho.lt g hg).1))
              | fail)
            go_roundw
            case rel => exact ⟨j + 1, by go_num, by omega, by rw [← HT.out]; exact ho3, hb3⟩
            case measure => simp [intOf]; omega
          · obtain rfl : j = comF a b + 1 := by omega
            rw [← HV.out] at ho
            go_wp2_with fail
            go_ret2
            unfold BtPost
            rw [HC.out]
            exact ⟨_, rfl, ho, hbl⟩
      · have hpos : ¬ ordC a (b.take n) < 0 := fun h => hlt ((HB.out n hnb).mp h)
        go_wp2_with fail
        refine (Order_any _ _ a _ _ (ha.below hbl (Nat.le_refl _)) hr1).mono ?_
        rintro e w2 ⟨rfl, hw2⟩
        have hb2 := hbl.trans (hw2.mono hbl.size)
        clear hw2 hbl q1 hr1
        generalize ordC a (b.take n) = o2 at *
        go_wp2_with fail
        go_roundw
        case rel => exact ⟨n + 1, by go_num, by omega, hb2⟩
        case measure => simp [intOf]; omega
  · obtain ⟨hV, hC⟩ := bt_no h
    have HV := Lib.hid hV
    have HC := Lib.hid hC
    have h' : 0 ≤ ordC a b := by omega
    clear hV hC h
    go_enter Try.func35, Try.ntmps35
    go_wp2_with fail
    refine (Order_any _ _ a b _ ha hb).mono ?_
    rintro e w1 ⟨rfl, hw1⟩
    go_wp2_with fail
    go_ret2
    unfold BtPost
    rw [HV.out, HC.out]
    exact ⟨_, rfl, OwB.nil _ _, hw1⟩
end Go.Proofs.Ytijlebjldnhnaaa
