/- espalierref01.Same, Own, Lent, AsLent: walks. -/
import Derived.Test.YtijlebjldnhnaaaInkCommon
import Derived.Test.YtijlebjldnhnaaaStep
namespace Go.Proofs.Ytijlebjldnhnaaa
open Go.RowKit
theorem RdB.lit (w : World) (l : List UInt8) (cells : Array Value) (T : TypeId) (n : Nat) (h : cells = (bvs l).toArray) (hn : l.length = n) (hm : n ≤ maxLen) : RdB (w.alloc (.cells cells T)) (.slice (some ⟨w.heap.size, 0, none⟩) n n) l := by
  subst h; subst hn
  have := Rd.lit w (bvs l) T (by rw [bvs_length]; exact hm)
  rw [bvs_length] at this
  exact RdB.of_rd this
theorem OwB.sl {w : World} {b : Nat} {u : Value} {l : List UInt8} (h : OwB w b u l) : ∃ A c, u = .slice A l.length c := Own.slice h
set_option maxHeartbeats 1000000 in
theorem Same_any (va vb : Value) (a b : List UInt8) (w : World) (ha : RdB w va a) (hb : RdB w vb b) :
    Calls Try.prog 18 #[va, vb] w fun e w' => e = .returned (.bool (a == b)) ∧ w = w' := by
  have q1 := run_B_string ha
  have q2 := run_B_string hb
  go_enter Try.func18, Try.ntmps18
  go_wp2_with fail
  go_ret
  exact ⟨rfl, rfl⟩
set_option maxHeartbeats 1000000 in
set_option maxRecDepth 20000 in
theorem Own_any (v : Value) (l : List UInt8) (base : Nat) (w : World) (ho : OwB w base v l) (hbase : base ≤ w.heap.size) (hl : l.length ≤ 140737488355323) :
    Calls Try.prog 19 #[v] w fun e w' => (∃ r, e = .returned r) ∧ w.grownBy w' v.ownBlock := by
  obtain ⟨A, c, rfl⟩ := ho.sl
  have hle : l.length ≤ 9223372036854775807 := ho.len_le
  go_enter Try.func19, Try.ntmps19
  go_wp2_with fail
  go_loopw [2] (fun i wr => ∃ (j : Nat) (m : List UInt8), i = .int .i64 (j : Int) ∧ j ≤ l.length ∧ Hid (m.length = l.length) ∧ OwB wr base (.slice A l.length c) m ∧ w.grownBy wr (Value.slice A l.length c).ownBlock)
    (fun i _ => l.length - (intOf i).toNat)
  case atStart => exact ⟨0, l, rfl, Nat.zero_le _, Lib.hid rfl, ho, World.grownBy.refl _ _⟩
  case round =>
    clear ho
    obtain ⟨j, m, rfl, hj, HM, ho, hb⟩ := hrel
    by_cases hlt : j < l.length
    · obtain ⟨g, rfl⟩ : ∃ g, A = some ⟨g, 0, none⟩ := by
        rcases ho.form with ⟨h, _⟩ | ⟨g, cap, h, _⟩
        · injection h with _ h; omega
        · injection h with h; exact ⟨g, h⟩
      have hml := HM.out
      have hc := ho.cell (j := j) (by omega)
      have hf := ho.frozen (j := j) (by omega)
      have hgl := (ho.lt g rfl).1
      generalize (m[j]'(by omega)).toNat = y at hc
      clear hml
      go_wp2_with fail
      go_roundw
      case rel => exact ⟨j + 1, m.set j 91, by go_num, by omega, Lib.hid (by rw [List.length_set]; exact HM.out), ho.set j 91, grownBy_trans hb (grownBy_setCell _ _ _)⟩
      case measure => simp [intOf]; omega
    · obtain rfl : j = l.length := by omega
      have hbs := Nat.le_trans hbase hb.size
      have hsm : m.length + 5 ≤ 140737488355328 := by rw [HM.out]; omega
      go_wp2_with (first
        | (at_builtin; refine wp_append_B rfl (.tmp 12) (.tmp 13) rfl base _ m rfl (ho.alloc _) _ [92, 93, 94, 95, 96] rfl (RdB.lit wr [92, 93, 94, 95, 96] _ 5 5 rfl rfl (by decide)) hsm (by simp; omega) ?_; intro v5 w5 ho5 hg5 _)
        | fail)
      refine bodyPost_end (results_none rfl _ _ _) rfl ?_
      exact ⟨⟨_, rfl⟩, grownBy_trans (grownBy_trans hb (World.grownBy_alloc wr _ _)) hg5⟩
def marks : List UInt8 := [71, 72, 73]
theorem splice0 (l : List UInt8) : splice (List.replicate (l.length + 3) 0) 0 (l.take (min l.length (l.length + 3))) = l ++ [0, 0, 0] := by
  rw [Nat.min_eq_left (by omega), List.take_length]
  unfold splice
  simp [List.drop_replicate]
theorem set3 (l : List UInt8) : (((l ++ [0, 0, 0]).set l.length 71).set (l.length + 1) 72).set (l.length + 2) 73 = l ++ marks := by
  rw [List.set_append_right _ _ (by omega), List.set_append_right _ _ (by omega), List.set_append_right _ _ (by omega)]
  simp [marks]
set_option maxHeartbeats 1000000 in
set_option maxRecDepth 20000 in
theorem Lent_any (v : Value) (l : List UInt8) (w : World) (hv : RdB w v l) (hl : l.length ≤ 140737488355328) :
    Calls Try.prog 20 #[v] w fun e w' => ∃ g, e = .returned (.slice (some ⟨g, 0, none⟩) l.length (l.length + 3)) ∧ OwB w' w.heap.size (.slice (some ⟨g, 0, none⟩) (l.length + 3) (l.length + 3)) (l ++ marks) ∧ Below w.heap.size w w' := by
  obtain ⟨A, c, rfl, hm⟩ := hv.form
  go_enter Try.func20, Try.ntmps20
  go_wp2_with (first
    | (at_make; refine wp_make_B rfl (.tmp 8) (.tmp 8) rfl _ (l.length + 3) rfl rfl (by go_num) (by omega) ?_; intro w1 hb1 hw1 hs1)
    | ((with_reducible refine at_copy ?_); refine wp_copy_B rfl (.tmp 10) (.tmp 11) rfl _ (l.length + 3) _ w.heap.size 0 rfl _ hb1 (fun _ => rfl) (by simp) _ l rfl (hv.below hw1 (Nat.le_refl _)) ?_; intro w2 hb2 hg2; rw [splice0] at hb2; have f0 := hb2.cell' (j := l.length) (u := .int .u8 0) (by rw [bvs_append, List.getElem?_append_right (by rw [bvs_length]; omega), bvs_length, Nat.sub_self]; rfl); have f1 := hb2.cell' (j := l.length + 1) (u := .int .u8 0) (by rw [bvs_append, List.getElem?_append_right (by rw [bvs_length]; omega), bvs_length, Nat.add_sub_cancel_left]; rfl); have f2 := hb2.cell' (j := l.length + 2) (u := .int .u8 0) (by rw [bvs_append, List.getElem?_append_right (by rw [bvs_length]; omega), bvs_length, Nat.add_sub_cancel_left]; rfl); have z0 := hb2.frozen (j := l.length) (by rw [bvs_length]; simp); have z1 := hb2.frozen (j := l.length + 1) (by rw [bvs_length]; simp); have z2 := hb2.frozen (j := l.length + 2) (by rw [bvs_length]; simp))
    | fail)
  go_ret
  have h3 := ((hb2.set l.length (.int .u8 ((71 : UInt8).toNat : Int))).set (l.length + 1) (.int .u8 ((72 : UInt8).toNat : Int))).set (l.length + 2) (.int .u8 ((73 : UInt8).toNat : Int))
  rw [← bvs_set, ← bvs_set, ← bvs_set, set3] at h3
  have hlen : (l ++ marks).length = l.length + 3 := by simp [marks]
  have h4 := h3.owB' (base := w.heap.size) (Nat.le_refl _) (by rw [hlen]; simp only [maxLen]; omega)
  rw [hlen] at h4
  have hb3 := hw1.grown hg2 hw1.size (fun k hk => Nat.le_of_eq (Option.some.inj hk))
  exact ⟨w.heap.size, rfl, h4, ((hb3.setCell (p := ⟨w.heap.size, l.length, none⟩) (Nat.le_refl _) _).setCell (p := ⟨w.heap.size, l.length + 1, none⟩) (Nat.le_refl _) _).setCell (p := ⟨w.heap.size, l.length + 2, none⟩) (Nat.le_refl _) _⟩
theorem OwB.part {w : World} {base g n k c : Nat} {x s : List UInt8} (h : OwB w base (.slice (some ⟨g, 0, none⟩) (n + k) c) (x ++ s)) (hx : x.length = n) : RdB w (.slice (some ⟨g, 0, none⟩) n c) x := by
  subst hx
  have := (h.take (m := x.length) (by omega)).rd
  rw [List.take_left] at this
  exact this
set_option maxHeartbeats 2000000 in
set_option maxRecDepth 20000 in
theorem AsLent_any (g n : Nat) (vb : Value) (l : List UInt8) (base : Nat) (w : World) (hn : l.length = n) (ho : OwB w base (.slice (some ⟨g, 0, none⟩) (n + 3) (n + 3)) (l ++ marks)) (hv : RdB w vb l) (hl : n ≤ 140737488355328) :
    Calls Try.prog 27 #[.slice (some ⟨g, 0, none⟩) n (n + 3), vb] w fun e w' => e = .returned (.bool true) ∧ w.grownBy w' (some g) := by
  subst hn
  obtain ⟨A, c, rfl, hm⟩ := hv.form
  have hlen : (l ++ marks).length = l.length + 3 := by simp [marks]
  have q1 := run_B_string hv.drew
  have q2 := run_B_string (ho.part rfl).drew
  have f0 := ho.cell (j := l.length) (by omega)
  have f1 := ho.cell (j := l.length + 1) (by omega)
  have f2 := ho.cell (j := l.length + 2) (by omega)
  have e0 : (l ++ marks)[l.length]'(by omega) = 71 := by rw [List.getElem_append_right (by omega)]; simp [marks]
  have e1 : (l ++ marks)[l.length + 1]'(by omega) = 72 := by rw [List.getElem_append_right (by omega)]; simp [marks]
  have e2 : (l ++ marks)[l.length + 2]'(by omega) = 73 := by rw [List.getElem_append_right (by omega)]; simp [marks]
  rw [e0] at f0
  rw [e1] at f1
  rw [e2] at f2
  replace f0 : w.cell? ⟨g, l.length, none⟩ = some (.int .u8 71) := f0
  replace f1 : w.cell? ⟨g, l.length + 1, none⟩ = some (.int .u8 72) := f1
  replace f2 : w.cell? ⟨g, l.length + 2, none⟩ = some (.int .u8 73) := f2
  clear e0 e1 e2 hlen
  go_enter Try.func27, Try.ntmps27
  go_upto_region 5 with (fail)
  go_region
  clear q1 q2 f0 f1 f2
  go_wp2_with fail
  go_loopw [8] (fun i wr => ∃ (j : Nat) (m : List UInt8), i = .int .i64 (j : Int) ∧ j ≤ l.length + 3 ∧ Hid (m.length = l.length + 3) ∧ OwB wr base (.slice (some ⟨g, 0, none⟩) (l.length + 3) (l.length + 3)) m ∧ w.grownBy wr (some g))
    (fun i _ => l.length + 3 - (intOf i).toNat)
  case atStart => exact ⟨0, l ++ marks, rfl, Nat.zero_le _, Lib.hid (by simp [marks]), ho.drew, ⟨rfl, rfl, rfl, Nat.le_refl _, fun _ _ _ => rfl⟩⟩
  case round =>
    clear ho hv
    obtain ⟨j, m, rfl, hj, HM, ho, hg⟩ := hrel
    by_cases hlt : j < l.length + 3
    · have hml := HM.out
      have hc := ho.cell (j := j) (by omega)
      have hf := ho.frozen (j := j) (by omega)
      have hgl := (ho.lt g rfl).2
      generalize (m[j]'(by omega)).toNat = y at hc
      clear hml
      go_wp2_with fail
      go_roundw
      case rel => exact ⟨j + 1, m.set j 97, by go_num, by omega, Lib.hid (by rw [List.length_set]; exact HM.out), ho.set j 97, grownBy_trans hg (grownBy_setCell _ _ _)⟩
      case measure => simp [intOf]; omega
    · obtain rfl : j = l.length + 3 := by omega
      go_wp2_with fail
      go_ret
      exact ⟨rfl, hg⟩
end Go.Proofs.Ytijlebjldnhnaaa
