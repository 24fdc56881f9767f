/- espalierlaw01.InkWrites: the walk. -/
import Derived.Test.YtijlebjldnhnaaaLawLive
import Derived.Test.YtijlebjldnhnaaaRefInk
namespace Go.Proofs.Ytijlebjldnhnaaa
open Go.RowKit
def fxV (n : Nat) (wd : Int) : List UInt8 := if 1 ≤ wd ∧ wd ≤ 8 then fixedF n wd.toNat else []
theorem fxV_len (n : Nat) (wd : Int) : (fxV n wd).length ≤ 8 := by
  unfold fxV
  split
  · rw [fixedF_length]; omega
  · simp
theorem FixedV (n : Nat) (hn : n < 18446744073709551616) (wd : Int) (w : World) : Calls Try.prog 14 #[.int .u64 n, .int .i64 wd] w fun e w' => ∃ v, e = .returned v ∧ OwB w' w.heap.size v (fxV n wd) ∧ Below w.heap.size w w' := by
  by_cases h : 1 ≤ wd ∧ wd ≤ 8
  · obtain ⟨k, rfl⟩ := Int.eq_ofNat_of_zero_le (show 0 ≤ wd by omega)
    refine (Fixed_any n hn k (by omega) (by omega) w).mono ?_
    rintro e w' ⟨rfl, ho, hb, _⟩
    have hl := fixedF_length n k
    have := ho.owB' (base := w.heap.size) (Nat.le_refl _) (by rw [hl]; simp only [maxLen]; omega)
    rw [hl] at this
    refine ⟨_, rfl, ?_, hb⟩
    unfold fxV; rw [if_pos h, Int.toNat_natCast]; exact this
  · refine (Fixed_bad n wd (by omega) w).mono ?_
    rintro e w' ⟨rfl, rfl⟩
    refine ⟨_, rfl, ?_, Below.refl _ _⟩
    unfold fxV; rw [if_neg h]; exact OwB.nil _ _
set_option maxHeartbeats 400000 in
theorem RFixedV (n : Nat) (hn : n < 18446744073709551616) (wd : Int) (w : World) : Calls Try.prog 16 #[.int .u64 n, .int .i64 wd] w fun e w' => ∃ v, e = .returned v ∧ OwB w' w.heap.size v (fxV n wd) ∧ Below w.heap.size w w' := by
  by_cases h : 1 ≤ wd ∧ wd ≤ 8
  · obtain ⟨k, rfl⟩ := Int.eq_ofNat_of_zero_le (show 0 ≤ wd by omega)
    refine (RFixed_any n hn k (by omega) (by omega) w).mono ?_
    rintro e w' ⟨v, rfl, ho, hb⟩
    refine ⟨_, rfl, ?_, hb⟩
    unfold fxV; rw [if_pos h, Int.toNat_natCast]; exact ho
  · have hV : Hid (fxV n wd = []) := by show _ = _; unfold fxV; rw [if_neg h]
    rcases (by omega : wd < 1 ∨ 8 < wd) with h1 | h1
    · clear h
      go_enter Try.func16, Try.ntmps16
      go_wp2_with fail
      go_ret
      exact ⟨_, rfl, by rw [hV.out]; exact OwB.nil _ _, Below.refl _ _⟩
    · have h2 : ¬ wd < 1 := by omega
      clear h
      go_enter Try.func16, Try.ntmps16
      go_wp2_with fail
      go_ret
      exact ⟨_, rfl, by rw [hV.out]; exact OwB.nil _ _, Below.refl _ _⟩
/-- What one call owns, and where: from base on, below top. -/
def At (w : World) (base top : Nat) (v : Value) (l : List UInt8) : Prop := OwB w base v l ∧ ∀ g, v.ownBlock = some g → g < top
theorem OwB.at' {w : World} {base : Nat} {v : Value} {l : List UInt8} (h : OwB w base v l) : At w base w.heap.size v l := ⟨h, fun g hg => (h.lt g hg).2⟩
theorem At.below {w w' : World} {base top : Nat} {v : Value} {l : List UInt8} (h : At w base top v l) (hb : Below w.heap.size w w') : At w' base top v l := ⟨h.1.below' hb (Nat.le_refl _), h.2⟩
/-- One that lies further is grown. -/
theorem At.up {w w' : World} {base top b2 t2 : Nat} {v u : Value} {l m : List UInt8} (h : At w base top v l) (hu : At w b2 t2 u m) (hle : t2 ≤ base) (hg : w.grownBy w' u.ownBlock) : At w' base top v l :=
  ⟨h.1.grown hg (fun g hg' he => by have h1 := (h.1.lt g hg').1; have h2 := hu.2 g he.symm; omega), h.2⟩
theorem At.down {w w' : World} {base top b2 t2 : Nat} {v u : Value} {l m : List UInt8} (h : At w base top v l) (hu : At w b2 t2 u m) (hle : top ≤ b2) (hg : w.grownBy w' u.ownBlock) : At w' base top v l :=
  ⟨h.1.grown hg (fun g hg' he => by have h1 := h.2 g hg'; have h2 := (hu.1.lt g he.symm).1; omega), h.2⟩
theorem At.rd {w : World} {base top : Nat} {v : Value} {l : List UInt8} (h : At w base top v l) : RdB w v l := h.1.rd
theorem Below.by_own {w0 w w' : World} {base top : Nat} {u : Value} {m : List UInt8} (hb : Below w0.heap.size w0 w) (hu : At w base top u m) (h0 : w0.heap.size ≤ base) (hg : w.grownBy w' u.ownBlock) : Below w0.heap.size w0 w' :=
  hb.grown hg hb.size (fun k hk => Nat.le_trans h0 (hu.1.lt k hk).1)
set_option maxRecDepth 100000 in
set_option maxHeartbeats 4000000 in
theorem writes_any (n : Nat) (hn : n < 18446744073709551616) (wd : Int) (m : Nat) (hm : m < 18446744073709551616) (w : World) :
    Calls Try.prog 4 #[.int .u64 n, .int .i64 wd, .int .u64 m] w fun e w' => e = .returned (.bool true) ∧ Below w.heap.size w w' := by
  go_enter Try.func4, Try.ntmps4
  go_wp2_with fail
  refine (live_any _).mono ?_
  rintro e w0 ⟨rfl, hb⟩
  go_wp2_with fail
  refine (FixedV n hn wd _).mono ?_
  rintro e w1 ⟨a, rfl, oa, hw⟩
  have ta := oa.at'
  have sa := hb.size
  replace hb := hb.trans (hw.mono hb.size)
  have za := hw.size
  clear hw oa
  go_wp2_with fail
  refine (Uint_any n hn _).mono ?_
  rintro e w2 ⟨u, rfl, ou, hw⟩
  have tu := ou.at'
  have su := hb.size
  replace hb := hb.trans (hw.mono hb.size)
  replace ta := ta.below hw
  have zu := hw.size
  clear hw ou
  go_wp2_with fail
  refine (FixedV m hm wd _).mono ?_
  rintro e w3 ⟨b, rfl, ob, hw⟩
  have tb := ob.at'
  have sb := hb.size
  replace hb := hb.trans (hw.mono hb.size)
  replace ta := ta.below hw
  replace tu := tu.below hw
  have zb := hw.size
  clear hw ob
  go_wp2_with fail
  refine (Uint_any m hm _).mono ?_
  rintro e w4 ⟨v, rfl, ov, hw⟩
  have tv := ov.at'
  have sv := hb.size
  replace hb := hb.trans (hw.mono hb.size)
  replace ta := ta.below hw
  replace tu := tu.below hw
  replace tb := tb.below hw
  have zv := hw.size
  clear hw ov
  go_wp2_with fail
  refine (RFixedV n hn wd _).mono ?_
  rintro e w5 ⟨x, rfl, ox, hw⟩
  have tx := ox.at'
  have sx := hb.size
  replace hb := hb.trans (hw.mono hb.size)
  replace ta := ta.below hw
  replace tu := tu.below hw
  replace tb := tb.below hw
  replace tv := tv.below hw
  have zx := hw.size
  clear hw ox
  go_wp2_with fail
  refine (RUint_any n hn _).mono ?_
  rintro e w6 ⟨y, rfl, oy, hw⟩
  have ty := oy.at'
  have sy := hb.size
  replace hb := hb.trans (hw.mono hb.size)
  replace ta := ta.below hw
  replace tu := tu.below hw
  replace tb := tb.below hw
  replace tv := tv.below hw
  replace tx := tx.below hw
  have zy := hw.size
  clear hw oy
  go_wp2_with fail
  refine (Same_any _ _ _ _ _ ta.rd tx.rd).mono ?_
  rintro e w' ⟨rfl, rfl⟩
  rw [beq_self_eq_true]
  go_wp2_with fail
  refine (Same_any _ _ _ _ _ tu.rd ty.rd).mono ?_
  rintro e w' ⟨rfl, rfl⟩
  rw [beq_self_eq_true]
  go_wp2_with fail
  refine (Own_any _ _ _ _ ta.1 (by omega) (Nat.le_trans (fxV_len _ _) (by omega))).mono ?_
  rintro e w7 ⟨⟨r7, rfl⟩, hg⟩
  replace tu := tu.up ta (by omega) hg
  replace tb := tb.up ta (by omega) hg
  replace tv := tv.up ta (by omega) hg
  replace hb := Below.by_own hb ta (by omega) hg
  have zoa := hg.size
  clear ta
  clear tx
  clear ty
  clear hg
  go_wp2_with fail
  refine (Own_any _ _ _ _ tu.1 (by omega) (Nat.le_trans (uintF_le10 hn) (by omega))).mono ?_
  rintro e w8 ⟨⟨r8, rfl⟩, hg⟩
  replace tb := tb.up tu (by omega) hg
  replace tv := tv.up tu (by omega) hg
  replace hb := Below.by_own hb tu (by omega) hg
  have zou := hg.size
  clear tu
  clear hg
  go_wp2_with fail
  refine (RFixedV m hm wd _).mono ?_
  rintro e w9 ⟨x2, rfl, ox2, hw⟩
  have tx2 := ox2.at'
  have sx2 := hb.size
  replace hb := hb.trans (hw.mono hb.size)
  replace tb := tb.below hw
  replace tv := tv.below hw
  have zx2 := hw.size
  clear hw ox2
  go_wp2_with fail
  refine (RUint_any m hm _).mono ?_
  rintro e w10 ⟨y2, rfl, oy2, hw⟩
  have ty2 := oy2.at'
  have sy2 := hb.size
  replace hb := hb.trans (hw.mono hb.size)
  replace tb := tb.below hw
  replace tv := tv.below hw
  replace tx2 := tx2.below hw
  have zy2 := hw.size
  clear hw oy2
  go_wp2_with fail
  refine (Same_any _ _ _ _ _ tb.rd tx2.rd).mono ?_
  rintro e w' ⟨rfl, rfl⟩
  rw [beq_self_eq_true]
  go_wp2_with fail
  refine (Same_any _ _ _ _ _ tv.rd ty2.rd).mono ?_
  rintro e w' ⟨rfl, rfl⟩
  rw [beq_self_eq_true]
  go_wp2_with fail
  refine (Uint_any m hm _).mono ?_
  rintro e w11 ⟨v2, rfl, ov2, hw⟩
  have tv2 := ov2.at'
  have sv2 := hb.size
  replace hb := hb.trans (hw.mono hb.size)
  replace tb := tb.below hw
  replace tv := tv.below hw
  replace tx2 := tx2.below hw
  replace ty2 := ty2.below hw
  have zv2 := hw.size
  clear hw ov2
  go_wp2_with fail
  refine (Same_any _ _ _ _ _ tv2.rd ty2.rd).mono ?_
  rintro e w' ⟨rfl, rfl⟩
  rw [beq_self_eq_true]
  go_wp2_with fail
  go_ret
  exact ⟨rfl, hb⟩
end Go.Proofs.Ytijlebjldnhnaaa
