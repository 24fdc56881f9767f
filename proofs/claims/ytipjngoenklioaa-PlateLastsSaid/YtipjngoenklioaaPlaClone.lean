/- slices.Clone of bytes and of numbers, slices.Contains: walks. -/
import Derived.Test.YtipjngoenklioaaPlaPg
import Derived.Lib.SlBytesConst
namespace Go.Proofs.Ytipjngoenklioaa
open Go.RowKit
set_option maxRecDepth 20000 in
set_option maxHeartbeats 1000000 in
theorem CloneB_any (v : Value) (l : List UInt8) (w : World) (hv : RdB w v l) (hl : l.length ≤ 140737488355328) :
    Calls Try.prog 36 #[v] w fun e w' => ∃ v', e = .returned v' ∧ OwB w' w.heap.size v' l ∧ Below w.heap.size w w' := by
  obtain ⟨A, c, rfl, hm⟩ := hv.form
  have q22 : ∀ (w : World) (a : Option Addr) (n c n' c' : Nat), (binOp .eql 28 (.slice a n c) (.slice none n' c')).run Try.prog w = .ok (.bool a.isNone) w := fun w a n c n' c' => Lib.run_eql_slice_nil w _ _ a n c n' c' Try.underlying28
  cases A with
  | none =>
    have : l = [] := by
      cases l with
      | nil => rfl
      | cons x r => obtain ⟨ad, h, _⟩ := hv.at_ (j := 0) (by simp); cases h
    subst this
    go_enter Try.func36, Try.ntmps36
    go_wp2_with fail
    go_ret
    exact ⟨_, rfl, OwB.nil _ _, Below.refl _ _⟩
  | some ad =>
    go_enter Try.func36, Try.ntmps36
    have hbase : OwB (w.alloc (.cells #[] 5)) w.heap.size (.slice (some ⟨w.heap.size, 0, none⟩) 0 0) [] := by
      have := (OBlk.new' w 5 []).owB' (base := w.heap.size) (m := []) (Nat.le_refl _) (by simp)
      exact this
    go_wp2_with (first
      | (at_builtin; refine wp_append_B rfl (.tmp 5) (.tmp 6) rfl w.heap.size _ [] rfl hbase _ l rfl (hv.alloc _) (by simp; omega) (by simp) ?_; intro v' w' ho hg hbk)
      | fail)
    go_ret
    exact ⟨v', rfl, ho, ((Below.refl w.heap.size w).alloc (Nat.le_refl _) _).grown hg (by simp) (fun k hk => Nat.le_of_eq (Option.some.inj hk))⟩
/-- A slice that reads as numbers. -/
def ivs (ks : List Int) : List Value := ks.map (Value.int .i64)
def RdI (w : World) (v : Value) (ks : List Int) : Prop := Rd w 1 v ks.length (ivs ks)
theorem ivs_length (ks : List Int) : (ivs ks).length = ks.length := by simp [ivs]
theorem ivs_one (ks : List Int) : ∀ u ∈ ivs ks, u.oneCell' = true := by
  intro u hu
  obtain ⟨k, _, rfl⟩ := List.mem_map.mp hu
  rfl
theorem RdI.nil (w : World) : RdI w (.slice none 0 0) [] := Rd.nil
theorem RdI.form {w : World} {v : Value} {ks : List Int} (h : RdI w v ks) : ∃ A c, v = .slice A ks.length c ∧ ks.length ≤ c ∧ c ≤ 9223372036854775807 := by
  obtain ⟨_, A, c, hv, h1, h2, _⟩ := h
  exact ⟨A, c, hv, h1, h2⟩
theorem RdI.at_ {w : World} {A : Option Addr} {n c j : Nat} {ks : List Int} (h : RdI w (.slice A n c) ks) (hj : j < ks.length) : ∃ ad, A = some ad ∧ w.cell? (ad.add j) = some (.int .i64 ks[j]) := by
  obtain ⟨_, A', c', hv, _, _, h3⟩ := h
  injection hv with hA
  subst hA
  exact h3 j _ (by simp [ivs, hj])
theorem int_info : (Try.prog.info? 3).map (fun i => (i.zero, i.size, i.bytes)) = some (some (.int .i64 0), 1, 8) := by kernel_rfl
set_option maxRecDepth 20000 in
set_option maxHeartbeats 1000000 in
theorem CloneI_any (v : Value) (ks : List Int) (w : World) (hv : RdI w v ks) (hl : ks.length * 8 ≤ 140737488355328) :
    Calls Try.prog 40 #[v] w fun e w' => ∃ v', e = .returned v' ∧ Own w' w.heap.size 3 1 v' ks.length (ivs ks) ∧ Below w.heap.size w w' := by
  obtain ⟨A, c, rfl, hm, hc⟩ := hv.form
  have q22 : ∀ (w : World) (a : Option Addr) (n c n' c' : Nat), (binOp .eql 29 (.slice a n c) (.slice none n' c')).run Try.prog w = .ok (.bool a.isNone) w := fun w a n c n' c' => Lib.run_eql_slice_nil w _ _ a n c n' c' Try.underlying29
  cases A with
  | none =>
    have : ks = [] := by
      cases ks with
      | nil => rfl
      | cons x r => obtain ⟨ad, h, _⟩ := hv.at_ (j := 0) (by simp); cases h
    subst this
    go_enter Try.func40, Try.ntmps40
    go_wp2_with fail
    go_ret
    exact ⟨_, rfl, Own.nil _ _ _ _, Below.refl _ _⟩
  | some ad =>
    obtain ⟨i, hi, hz0, hz1, hz2⟩ := info_parts int_info
    have hs : Rd (w.alloc (.cells #[] 3)) 1 (.slice (some ad) ks.length c) ks.length (ivs ks) := Rd.alloc hv _
    go_enter Try.func40, Try.ntmps40
    have hbase : Own (w.alloc (.cells #[] 3)) w.heap.size 3 1 (.slice (some ⟨w.heap.size, 0, none⟩) 0 0) 0 [] :=
      ⟨by simp, .inr ⟨w.heap.size, 0, [], rfl, Nat.le_refl _, OBlk.new' w 3 [], Nat.le_refl _, by simp [maxLen], rfl, rfl⟩⟩
    go_wp2_with (first
      | (at_builtin; refine wp_append rfl (.tmp 5) (.tmp 6) _ _ rfl w.heap.size 3 i _ 1 8 Try.underlying29 hi hz0 hz1 hz2 rfl _ 0 [] rfl hbase _ ks.length (ivs ks) rfl (Rd.src _ Try.underlying29 (by omega) hs (ivs_one ks)) (by omega) (by omega) (by simp) ?_; intro v' w' ho hg hbk)
      | fail)
    go_ret
    rw [Nat.zero_add] at ho
    exact ⟨v', rfl, ho, ((Below.refl w.heap.size w).alloc (Nat.le_refl _) _).grown hg (by simp) (fun k hk => Nat.le_of_eq (Option.some.inj hk))⟩
set_option maxRecDepth 20000 in
set_option maxHeartbeats 1000000 in
theorem Index_any (v : Value) (ks : List Int) (x : Int) (w : World) (hv : RdI w v ks) :
    Calls Try.prog 64 #[v, .int .i64 x] w fun e w' => (∃ k : Int, e = .returned (.int .i64 k) ∧ (decide (0 ≤ k) = decide (x ∈ ks)) ∧ -1 ≤ k ∧ k ≤ 9223372036854775807) ∧ w = w' := by
  obtain ⟨A, c, rfl, hm, hc⟩ := hv.form
  go_enter Try.func64, Try.ntmps64
  go_wp2_with fail
  go_loopw [8] (fun i wr => ∃ j : Nat, i = .int .i64 (j : Int) ∧ j ≤ ks.length ∧ Hid (x ∉ ks.take j) ∧ w = wr) (fun i _ => ks.length - (intOf i).toNat)
  case atStart => exact ⟨0, rfl, Nat.zero_le _, Lib.hid (by simp), rfl⟩
  case round =>
    obtain ⟨j, rfl, hj, HN, rfl⟩ := hrel
    by_cases hlt : j < ks.length
    · obtain ⟨ad, rfl, hcell⟩ := hv.at_ hlt
      have ij : (j : Int) < (ks.length : Int) := by omega
      by_cases hx : x = ks[j]
      · have HM := Lib.hid (show x ∈ ks by rw [hx]; exact List.getElem_mem hlt)
        have hb : (x == ks[j]) = true := by simp [hx]
        clear hx
        generalize ks[j] = y at *
        go_wp2_with fail
        go_ret
        exact ⟨⟨_, rfl, by rw [decide_eq_true HM.out, decide_eq_true (by omega)], by omega, by omega⟩, rfl⟩
      · have hb : (x == ks[j]) = false := by simp [hx]
        have HN2 := Lib.hid (show x ∉ ks.take (j + 1) from fun hm => by rw [List.take_succ_eq_append_getElem hlt, List.mem_append, List.mem_singleton] at hm; exact hm.elim HN.out hx)
        clear hx
        generalize ks[j] = y at *
        go_wp2_with fail
        go_roundw
        case rel => exact ⟨j + 1, by go_num, by omega, HN2, trivial⟩
        case measure => simp [intOf]; omega
    · obtain rfl : j = ks.length := by omega
      have HN2 := Lib.hid (show x ∉ ks by have := HN.out; rwa [List.take_length] at this)
      go_wp2_with fail
      go_ret
      exact ⟨⟨_, rfl, by rw [decide_eq_false HN2.out]; rfl, by omega, by omega⟩, rfl⟩
set_option maxRecDepth 20000 in
theorem Contains_any (v : Value) (ks : List Int) (x : Int) (w : World) (hv : RdI w v ks) :
    Calls Try.prog 57 #[v, .int .i64 x] w fun e w' => e = .returned (.bool (decide (x ∈ ks))) ∧ w = w' := by
  obtain ⟨A, c, rfl, hm, hc⟩ := hv.form
  go_enter Try.func57, Try.ntmps57
  go_wp2_with fail
  refine (Index_any _ ks x _ hv).mono ?_
  rintro e w1 ⟨⟨k, rfl, hk, hk1, hk2⟩, rfl⟩
  have HK := Lib.hid hk
  clear hk
  go_wp2_with fail
  go_ret
  rw [← HK.out]
  exact ⟨rfl, rfl⟩
end Go.Proofs.Ytipjngoenklioaa
