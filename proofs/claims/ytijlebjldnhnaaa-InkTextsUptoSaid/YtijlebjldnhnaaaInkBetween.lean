/- ink.Between, ink.Behind: walks. -/
import Derived.Test.YtijlebjldnhnaaaInkCommon
namespace Go.Proofs.Ytijlebjldnhnaaa
open Go.RowKit
def btV (a b : List UInt8) : List UInt8 := bif decide (ordC a b < 0) then b.take (comF a b + 1) else []
def btC (a b : List UInt8) : Int := bif decide (ordC a b < 0) then 0 else 1
def BtPost (a b : List UInt8) (w : World) (e : Ending) (w' : World) : Prop :=
  ∃ v, e = .returned (.tuple #[v, .int .i64 (btC a b)]) ∧ OwB w' w.heap.size v (btV a b) ∧ Below w.heap.size w w'
theorem bt_yes {a b : List UInt8} (h : ordC a b < 0) : btV a b = b.take (comF a b + 1) ∧ btC a b = 0 := by
  unfold btV btC; rw [decide_eq_true h]; exact ⟨rfl, rfl⟩
theorem bt_no {a b : List UInt8} (h : ¬ ordC a b < 0) : btV a b = [] ∧ btC a b = 1 := by
  unfold btV btC; rw [decide_eq_false h]; exact ⟨rfl, rfl⟩
set_option maxRecDepth 20000 in
set_option maxHeartbeats 2000000 in
theorem Between_any (va vb : Value) (a b : List UInt8) (w : World) (ha : RdB w va a) (hb : RdB w vb b) (hl : b.length ≤ 140737488355328) : Calls Try.prog 34 #[va, vb] w (BtPost a b w) := by
  obtain ⟨A, ca, rfl, hma⟩ := ha.form
  obtain ⟨B, cb, rfl, hmb⟩ := hb.form
  by_cases h : ordC a b < 0
  · obtain ⟨hV, hC⟩ := bt_yes h
    have HV := Lib.hid hV
    have HC := Lib.hid hC
    clear hV hC
    have hk := between_lt h
    have ho : ordC a b = -1 := by rcases ordC_range a b with e | e | e <;> omega
    have HO := Lib.hid ho
    clear ho h
    obtain ⟨A1, c1, q1, hr1⟩ := hb.run_h (comF a b + 1) (by omega)
    have q1 : ∀ w', (Instr.slice 24 (.slice B b.length cb) none (some (.int .i64 ((comF a b : Int) + 1))) none).run Try.prog w' = .ok (.slice A1 (comF a b + 1) c1) w' := fun w' => by
      have := q1 w'
      rw [show ((comF a b + 1 : Nat) : Int) = (comF a b : Int) + 1 by omega] at this
      exact this
    have htl : (b.take (comF a b + 1)).length = comF a b + 1 := by simp; omega
    have h0 : 0 < (b.take (comF a b + 1)).length := by omega
    have h1 : (b.take (comF a b + 1)).length ≤ 140737488355328 := by omega
    have H0 := Lib.hid h0
    have H1 := Lib.hid h1
    clear htl h0 h1
    go_enter Try.func34, Try.ntmps34
    go_wp2_with (first
      | (go_at_call 45; refine (Compare_any _ _ a b _ ha hb).mono ?_; rintro e w1 ⟨rfl, rfl⟩; rw [HO.out])
      | fail)
    refine (common_any _ _ a b _ ha hb).mono ?_
    rintro e w2 ⟨rfl, hw2⟩
    go_wp2_with fail
    refine (Clone_any _ _ _ (hr1.below hw2 (Nat.le_refl _)) H0.out H1.out).mono ?_
    rintro e w3 ⟨v3, rfl, ho3, hw3⟩
    go_wp2_with fail
    go_ret2
    unfold BtPost
    rw [HV.out, HC.out]
    exact ⟨_, rfl, ho3.low hw2.size, hw2.trans (hw3.mono hw2.size)⟩
  · obtain ⟨hV, hC⟩ := bt_no h
    have HV := Lib.hid hV
    have HC := Lib.hid hC
    clear hV hC
    have h' : 0 ≤ ordC a b := by omega
    go_enter Try.func34, Try.ntmps34
    go_wp2_with (first
      | (go_at_call 45; refine (Compare_any _ _ a b _ ha hb).mono ?_; rintro e w1 ⟨rfl, rfl⟩)
      | fail)
    go_ret2
    unfold BtPost
    rw [HV.out, HC.out]
    exact ⟨_, rfl, OwB.nil _ _, Below.refl _ _⟩
def bhV (l : List UInt8) : List UInt8 := bif decide (0 < stripN l) then behL l else []
def BhPost (l : List UInt8) (w : World) (e : Ending) (w' : World) : Prop :=
  ∃ v, e = .returned (.tuple #[v, .bool (decide (0 < stripN l))]) ∧ OwB w' w.heap.size v (bhV l) ∧ Below w.heap.size w w'
theorem stripA_succ (l : List UInt8) (k : Nat) : stripA l (k + 1) = if l.getD k 0 = 255 then stripA l k else k + 1 := rfl
theorem behL_set {l : List UInt8} {k : Nat} (hk : k < l.length) (hs : stripN l = k + 1) : (l.take (k + 1)).set k (l[k] + 1) = behL l := by
  unfold behL
  rw [hs, Nat.add_sub_cancel, ← List.take_append_getElem hk, List.set_append_right _ _ (by simp; omega)]
  have : k - (l.take k).length = 0 := by simp; omega
  rw [this]
  simp [List.getD, hk]
theorem u8_succ {x : UInt8} (h : x ≠ 255) : ((x + 1).toNat : Int) = (x.toNat : Int) + 1 := by
  have hx := x.toNat_lt
  have hn : x.toNat ≠ 255 := fun e => h (UInt8.toNat_inj.mp e)
  have h1 : (x + 1).toNat = x.toNat + 1 := by rw [UInt8.toNat_add]; simp; omega
  omega
set_option maxRecDepth 20000 in
set_option maxHeartbeats 2000000 in
theorem Behind_any (v : Value) (l : List UInt8) (w : World) (hv : RdB w v l) (hl : l.length ≤ 140737488355328) : Calls Try.prog 36 #[v] w (BhPost l w) := by
  obtain ⟨A, c, rfl, hm⟩ := hv.form
  go_enter Try.func36, Try.ntmps36
  go_wp2_with fail
  go_loopw [0] (fun u wr => ∃ (k c' : Nat) (A' : Option Addr), u = .slice A' k c' ∧ k ≤ l.length ∧ RdB w (.slice A' k c') (l.take k) ∧ Hid (stripN l = stripA l k) ∧ w = wr)
    (fun u _ => slen u)
  case atStart => exact ⟨l.length, c, A, rfl, Nat.le_refl _, by rw [List.take_length]; exact hv, Lib.hid rfl, rfl⟩
  case round =>
    obtain ⟨k, c', A', rfl, hk, hr, HS, rfl⟩ := hrel
    cases k with
    | zero =>
      have hn : Hid (stripN l = 0) := HS
      go_wp2_with fail
      go_ret2
      unfold BhPost bhV
      rw [hn.out]
      exact ⟨_, rfl, OwB.nil _ _, Below.refl _ _⟩
    | succ k =>
      have hkl : k < l.length := by omega
      have htl : (l.take (k + 1)).length = k + 1 := by simp; omega
      obtain ⟨ad, rfl, hc⟩ := hr.at_ (j := k) (by omega)
      have hg : (l.take (k + 1))[k]'(by omega) = l[k] := by simp
      rw [hg] at hc
      have hgd : l.getD k 0 = l[k] := by simp [List.getD, hkl]
      by_cases hx : l[k] = 255
      · have HS2 : Hid (stripN l = stripA l k) := Lib.hid (by rw [HS.out, stripA_succ, if_pos (hgd.trans hx)])
        rw [hx] at hc
        have hc : w.cell? (ad.add k) = some (.int .u8 255) := hc
        obtain ⟨A2, c2, q2, hr2⟩ := hr.run_h k (by omega)
        rw [List.take_take, Nat.min_eq_left (by omega)] at hr2
        clear hx hgd hg htl
        go_wp2_with fail
        go_roundw
        case rel => exact ⟨k, c2, A2, rfl, by omega, hr2, HS2, trivial⟩
        case measure => simp [slen]
      · have HS2 : Hid (stripN l = k + 1) := Lib.hid (by rw [HS.out, stripA_succ, if_neg (by rw [hgd]; exact hx)])
        have e255 : ((l[k].toNat : Int) == 255) = false := u8_ne (z := 255) hx
        have HX := Lib.hid hx
        have HTL := Lib.hid htl
        have xlt : l[k].toNat + 1 < 256 := by
          have h1 := l[k].toNat_lt
          have h2 : l[k].toNat ≠ 255 := fun e => HX.out (UInt8.toNat_inj.mp e)
          omega
        clear hx hgd hg htl
        go_wp2_with fail
        refine (Clone_any _ _ _ hr (by rw [HTL.out]; omega) (by rw [HTL.out]; omega)).mono ?_
        rintro e w3 ⟨v3, rfl, ho3, hw3⟩
        obtain ⟨g, cg, rfl⟩ := ho3.some' (n := k + 1) HTL.out (by omega)
        have hc3 := ho3.cell (j := k) (by rw [HTL.out]; omega)
        have hf3 := ho3.frozen (j := k) (by rw [HTL.out]; omega)
        have hg3 := (ho3.lt g rfl).1
        have hgl : (l.take (k + 1))[k]'(by rw [HTL.out]; omega) = l[k] := by simp
        rw [hgl] at hc3
        clear hgl
        have hset := ho3.set k (l[k] + 1)
        rw [behL_set hkl HS2.out, u8_succ HX.out] at hset
        have HSET := Lib.hid hset
        clear hset
        generalize l[k].toNat = x at *
        go_wp2_with fail
        go_ret2
        unfold BhPost bhV
        rw [HS2.out]
        exact ⟨_, rfl, HSET.out, hw3.setCell (by show w.heap.size ≤ g; exact hg3) _⟩
end Go.Proofs.Ytijlebjldnhnaaa
