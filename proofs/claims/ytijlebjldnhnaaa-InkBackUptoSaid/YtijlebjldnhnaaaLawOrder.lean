/- espalierlaw01.InkOrder: the walk. -/
import Derived.Test.YtijlebjldnhnaaaLawLive
import Derived.Test.YtijlebjldnhnaaaInkBoth
import Derived.Deep.QuietTactic
import Derived.BigQuiet
import Derived.Deep.DeepCutAuto
namespace Go.Proofs.Ytijlebjldnhnaaa
open Go.RowKit
theorem Ordered_sl (v : Value) (l : List UInt8) (w : World) (hv : RdB w v l) (hl : l.length ≤ 70000000000000) : Calls Try.prog 28 #[v] w fun e w' => ∃ A c, e = .returned (.slice A (ordF l).length c) ∧ OwB w' w.heap.size (.slice A (ordF l).length c) (ordF l) ∧ Below w.heap.size w w' :=
  (Ordered_any v _ w hv hl).mono fun e w' ⟨v, he, ho, hb⟩ => by
    obtain ⟨A, c, rfl⟩ := ho.sl
    exact ⟨A, c, he, ho, hb⟩
theorem ordF_len (l : List UInt8) : (ordF l).length ≤ 2 * l.length + 2 := by
  have := (escF_len l).2
  simp [ordF]; omega
theorem str_drawn {w : World} {v : Value} {l : List UInt8} (h : RdB w v l) (n : Nat) : (convert 24 9 v).run Try.prog (w.drewN n) = .ok (.string ⟨l.toArray⟩) (w.drewN n) :=
  run_B_string (w := w.drewN n) h
theorem dec_ne {a b : List UInt8} (h : a ≠ b) : (a == b) = false := by simp [h]
theorem below_drewN {B : Nat} {w w' : World} (h : Below B w w') : ∀ n, Below B w (w'.drewN n)
  | 0 => h
  | n + 1 => (below_drewN h n).drew
set_option maxRecDepth 100000 in
set_option maxHeartbeats 8000000 in
theorem order_any (va vb vc vd : Value) (a b c d : List UInt8) (w : World) (ra : RdB w va a) (rb : RdB w vb b) (rc : RdB w vc c) (rd : RdB w vd d) (la : a.length ≤ 1048576) (lb : b.length ≤ 1048576) (lc : c.length ≤ 1048576) (ld : d.length ≤ 1048576) :
    Calls Try.prog 8 #[va, vb, vc, vd] w fun e w' => e = .returned (.bool true) ∧ Below w.heap.size w w' := by
  go_enter Try.func8, Try.ntmps8
  go_wp2_with fail
  refine (live_any _).mono ?_
  rintro e w0 ⟨rfl, hb⟩
  go_wp2_with fail
  refine (Ordered_sl _ a _ (ra.below hb (Nat.le_refl _)) (by omega)).mono ?_
  rintro e w1 ⟨A1, c1, rfl, o1, hw⟩
  replace o1 := o1.low hb.size
  replace hb := hb.trans (hw.mono hb.size)
  clear hw
  go_wp2_with fail
  refine (Ordered_sl _ b _ (rb.below hb (Nat.le_refl _)) (by omega)).mono ?_
  rintro e w2 ⟨A2, c2, rfl, o2, hw⟩
  replace o1 := o1.below' hw (Nat.le_refl _)
  replace o2 := o2.low hb.size
  replace hb := hb.trans (hw.mono hb.size)
  clear hw
  go_wp2_with fail
  refine (Order_any _ _ a b _ (ra.below hb (Nat.le_refl _)) (rb.below hb (Nat.le_refl _))).mono ?_
  rintro e w3 ⟨rfl, hw⟩
  replace o1 := o1.below' hw (Nat.le_refl _)
  replace o2 := o2.below' hw (Nat.le_refl _)
  replace hb := hb.trans (hw.mono hb.size)
  clear hw
  go_wp2_with fail
  refine (Order_any _ _ _ _ _ o1.rd o2.rd).mono ?_
  rintro e w4 ⟨rfl, hw⟩
  replace o1 := o1.below' hw (Nat.le_refl _)
  replace o2 := o2.below' hw (Nat.le_refl _)
  replace hb := hb.trans (hw.mono hb.size)
  clear hw
  rw [ordC_ordF']
  have l1 := ordF_len a
  have l2 := ordF_len b
  go_wp2_with fail
  refine (both_any _ _ _ c _ o1.rd (rc.below hb (Nat.le_refl _)) (by omega)).mono ?_
  rintro e w5 ⟨v5, rfl, o5, hw⟩
  replace o1 := o1.below' hw (Nat.le_refl _)
  replace o2 := o2.below' hw (Nat.le_refl _)
  replace o5 := o5.low hb.size
  replace hb := hb.trans (hw.mono hb.size)
  clear hw
  go_wp2_with fail
  refine (both_any _ _ _ d _ o2.rd (rd.below hb (Nat.le_refl _)) (by omega)).mono ?_
  rintro e w6 ⟨v6, rfl, o6, hw⟩
  replace o1 := o1.below' hw (Nat.le_refl _)
  replace o2 := o2.below' hw (Nat.le_refl _)
  replace o5 := o5.below' hw (Nat.le_refl _)
  replace o6 := o6.low hb.size
  replace hb := hb.trans (hw.mono hb.size)
  clear hw
  go_wp2_with fail
  refine (Order_any _ _ _ _ _ o5.rd o6.rd).mono ?_
  rintro e w7 ⟨rfl, hw⟩
  replace o1 := o1.below' hw (Nat.le_refl _)
  replace o2 := o2.below' hw (Nat.le_refl _)
  replace hb := hb.trans (hw.mono hb.size)
  clear hw o5 o6 ra rb rc rd
  have r1 := o1.rd
  have r2 := o2.rd
  clear o1 o2 la lb lc ld
  by_cases hab : a = b
  · subst hab
    have HO := Lib.hid (ordC_self a)
    rw [HO.out]
    clear l2
    obtain ⟨m, hm⟩ : ∃ m, m = (ordF a).length := ⟨_, rfl⟩
    obtain ⟨A3, c3, q3, r3⟩ := r2.run_h (ordF a).length (Nat.le_refl _)
    rw [List.take_length] at r3
    generalize ordC (ordF a ++ c) (ordF a ++ d) = o at *
    generalize ordF a = X at *
    have s1 := fun n => str_drawn r1 n
    have s3 := fun n => str_drawn r3 n
    clear r1 r2 r3
    have hm' := Lib.hid hm
    rw [← hm] at *
    clear hm l1
    go_upto_region 9 with (fail)
    go_quiet (fail)
    go_wp2_with fail
    go_ret
    exact ⟨rfl, below_drewN hb _⟩
  · have HO := Lib.hid (ordC_ordF a b c d hab)
    have hn0 : ordC a b ≠ 0 := fun e => hab (ordC_eq a b e)
    rw [HO.out]
    have hp1 : ordF a ≠ (ordF b).take (ordF a).length := fun e => ordF_not_prefix hab ((ordF b).drop (ordF a).length) (by
      conv => lhs; rw [← List.take_append_drop (ordF a).length (ordF b), ← e])
    have hp2 : ordF b ≠ (ordF a).take (ordF b).length := fun e => ordF_not_prefix (Ne.symm hab) ((ordF a).drop (ordF b).length) (by
      conv => lhs; rw [← List.take_append_drop (ordF b).length (ordF a), ← e])
    have hn1 : (ordC a b == 0) = false := by simp [hn0]
    generalize ordC a b = o at *
    generalize ordF a = X at *
    generalize ordF b = Y at *
    clear hn0 HO hab
    have s1 := fun n => str_drawn r1 n
    have s2 := fun n => str_drawn r2 n
    rcases (by omega : X.length < Y.length ∨ X.length = Y.length ∨ Y.length < X.length) with hlt | heq | hgt
    · obtain ⟨A3, c3, q3, r3⟩ := r2.run_h X.length (by omega)
      have s3 := fun n => str_drawn r3 n
      have i1 : (X.length : Int) ≤ (Y.length : Int) := by omega
      have i2 : decide (Y.length ≤ X.length) = false := decide_eq_false (by omega)
      have d1 := dec_ne hp1
      clear hp1 hp2 r1 r2 r3
      go_upto_region 9 with (fail)
      go_quiet (fail)
      go_wp2_with fail
      go_ret
      exact ⟨rfl, below_drewN hb _⟩
    · obtain ⟨A3, c3, q3, r3⟩ := r2.run_h X.length (by omega)
      have s3 := fun n => str_drawn r3 n
      obtain ⟨A4, c4, q4, r4⟩ := r1.run_h Y.length (by omega)
      have s4 := fun n => str_drawn r4 n
      have i1 : (X.length : Int) ≤ (Y.length : Int) := by omega
      have i2 : (Y.length : Int) ≤ (X.length : Int) := by omega
      have d1 := dec_ne hp1
      have d2 := dec_ne hp2
      clear hp1 hp2 r1 r2 r3 r4 heq
      go_upto_region 9 with (fail)
      go_quiet (fail)
      go_wp2_with fail
      go_ret
      exact ⟨rfl, below_drewN hb _⟩
    · obtain ⟨A4, c4, q4, r4⟩ := r1.run_h Y.length (by omega)
      have s4 := fun n => str_drawn r4 n
      have i1 : decide (X.length ≤ Y.length) = false := decide_eq_false (by omega)
      have i2 : (Y.length : Int) ≤ (X.length : Int) := by omega
      have d2 := dec_ne hp2
      clear hp1 hp2 r1 r2 r4
      go_upto_region 9 with (fail)
      go_quiet (fail)
      go_wp2_with fail
      go_ret
      exact ⟨rfl, below_drewN hb _⟩
end Go.Proofs.Ytijlebjldnhnaaa
