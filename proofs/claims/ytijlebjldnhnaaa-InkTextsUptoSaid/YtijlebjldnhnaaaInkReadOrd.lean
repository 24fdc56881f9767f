/- ink.ReadOrdered: the walk. -/
import Derived.Test.YtijlebjldnhnaaaInkOrdered
import Derived.Test.YtijlebjldnhnaaaCut
import Derived.Test.YtijlebjldnhnaaaInkReadUint
namespace Go.Proofs.Ytijlebjldnhnaaa
open Go.RowKit
def roV (l : List UInt8) (at_ : Int) : List UInt8 × Int × Int :=
  if at_ < 0 ∨ (l.length : Int) < at_ then ([], 0, 1)
  else ((roA [] 0 (l.drop at_.toNat)).1, bif (roA [] 0 (l.drop at_.toNat)).2.2 == 0 then at_ + (roA [] 0 (l.drop at_.toNat)).2.1 else 0, (roA [] 0 (l.drop at_.toNat)).2.2)
def RoPost (l : List UInt8) (at_ : Int) (w : World) (e : Ending) (w' : World) : Prop :=
  ∃ v, e = .returned (.tuple #[v, .int .i64 (roV l at_).2.1, .int .i64 (roV l at_).2.2]) ∧ OwB w' w.heap.size v (roV l at_).1 ∧ Below w.heap.size w w'
theorem idx_cases : ∀ (s : List UInt8), (Lib.indexByte s 0 = -1 ∧ ∀ x ∈ s, x ≠ 0) ∨ ∃ k : Nat, Lib.indexByte s 0 = (k : Int) ∧ k < s.length ∧ s = s.take k ++ 0 :: s.drop (k + 1) ∧ ∀ x ∈ s.take k, x ≠ 0
  | [] => .inl ⟨rfl, by simp⟩
  | x :: s => by
    by_cases hx : x = 0
    · subst hx
      exact .inr ⟨0, by simp [Lib.indexByte], by simp, by simp, by simp⟩
    · have hb : (x == 0) = false := by simpa using hx
      rcases idx_cases s with ⟨h1, h2⟩ | ⟨k, h1, h2, h3, h4⟩
      · refine .inl ⟨by simp [Lib.indexByte, hb, h1], fun y hy => ?_⟩
        rcases List.mem_cons.mp hy with rfl | hy
        · exact hx
        · exact h2 y hy
      · refine .inr ⟨k + 1, ?_, by simp; omega, ?_, ?_⟩
        · have : ¬ ((k : Int) = -1) := by omega
          simp [Lib.indexByte, hb, h1, this]
        · rw [List.take_succ_cons, List.drop_succ_cons, List.cons_append, ← h3]
        · intro y hy
          rw [List.take_succ_cons] at hy
          rcases List.mem_cons.mp hy with rfl | hy
          · exact hx
          · exact h4 y hy
theorem roA_one (acc : List UInt8) (k : Nat) (r : List UInt8) : roA acc k (0 :: 1 :: r) = (acc, k + 2, 0) := by rw [roA]; simp
theorem roA_255 (acc : List UInt8) (k : Nat) (r : List UInt8) : roA acc k (0 :: 255 :: r) = roA (acc ++ [0]) (k + 2) r := by rw [roA]; simp
theorem roA_bad (acc : List UInt8) (k : Nat) (y : UInt8) (r : List UInt8) (h1 : y ≠ 1) (h2 : y ≠ 255) : roA acc k (0 :: y :: r) = ([], 0, 11) := by rw [roA]; simp [h1, h2]
theorem roA_last (acc : List UInt8) (k : Nat) : roA acc k [0] = ([], 0, 10) := rfl
theorem u8_ne {y z : UInt8} (h : y ≠ z) : ((y.toNat : Int) == (z.toNat : Int)) = false := by
  have : y.toNat ≠ z.toNat := fun e => h (UInt8.toNat_inj.mp e)
  simp; omega
set_option maxRecDepth 20000 in
set_option maxHeartbeats 4000000 in
theorem ReadOrdered_any (v : Value) (l : List UInt8) (at_ : Int) (w : World) (hv : RdB w v l) (hl : l.length ≤ 140737488355327) : Calls Try.prog 25 #[v, .int .i64 at_] w (RoPost l at_ w) := by
  obtain ⟨A, c, rfl, hm⟩ := hv.form
  by_cases h1 : at_ < 0
  · have hV : Hid (roV l at_ = ([], 0, 1)) := by show _ = _; unfold roV; rw [if_pos (.inl h1)]
    go_enter Try.func25, Try.ntmps25
    go_wp2_with fail
    go_ret3
    unfold RoPost; rw [hV.out]; exact ⟨_, rfl, OwB.nil _ _, Below.refl _ _⟩
  by_cases h2 : (l.length : Int) < at_
  · have hV : Hid (roV l at_ = ([], 0, 1)) := by show _ = _; unfold roV; rw [if_pos (.inr h2)]
    go_enter Try.func25, Try.ntmps25
    go_wp2_with fail
    go_ret3
    unfold RoPost; rw [hV.out]; exact ⟨_, rfl, OwB.nil _ _, Below.refl _ _⟩
  obtain ⟨a, rfl⟩ := Int.eq_ofNat_of_zero_le (show 0 ≤ at_ by omega)
  have hV : Hid (∀ N K C, roA [] 0 (l.drop a) = (N, K, C) → roV l a = (N, bif C == 0 then (a : Int) + K else 0, C)) := Lib.hid fun N K C h => by
    unfold roV; rw [if_neg (by omega), Int.toNat_natCast, h]
  have hal : a ≤ l.length := by omega
  go_enter Try.func25, Try.ntmps25
  go_wp2_with fail
  go_loopw [1, 7] (fun i v wr => ∃ (b : Nat) (acc : List UInt8), i = .int .i64 (b : Int) ∧ a ≤ b ∧ b ≤ l.length ∧ acc.length ≤ b ∧ OwB wr w.heap.size v acc ∧ Hid (roA [] 0 (l.drop a) = roA acc (b - a) (l.drop b)) ∧ Below w.heap.size w wr)
    (fun i _ _ => l.length - (intOf i).toNat)
  case atStart => exact ⟨a, [], rfl, Nat.le_refl _, hal, by simp, OwB.nil _ _, Lib.hid (by simp), Below.refl _ _⟩
  case round =>
    obtain ⟨b, acc, rfl, hab, hbl, hacc, ho, HE, hb⟩ := hrel
    have hbs := hb.size
    obtain ⟨A1, c1, q1, hr1⟩ := (hv.below hb (Nat.le_refl _)).run_l b hbl
    rcases idx_cases (l.drop b) with ⟨hi, hz⟩ | ⟨k, hi, hk, hsp, hz⟩
    · have HE3 := Lib.hid (hV.out _ _ _ (HE.out.trans (roA_none _ hz _ _)))
      go_wp2_with (first
        | (go_at_call 41; refine (IndexByte_any _ (l.drop b) 0 _ hr1).mono ?_; rintro e w1 ⟨rfl, rfl⟩; rw [show (0 : Int).toNat.toUInt8 = (0 : UInt8) from rfl, hi])
        | fail)
      go_ret3
      unfold RoPost; rw [HE3.out]; exact ⟨_, rfl, OwB.nil _ _, hb⟩
    · have hk2 : b + k < l.length := by simp at hk; omega
      have HI := Lib.hid hi
      clear hi
      by_cases hlast : l.length ≤ b + k + 1
      · have hd : (l.drop b).drop (k + 1) = [] := List.drop_of_length_le (by simp; omega)
        have HE3 := Lib.hid (hV.out _ _ _ (HE.out.trans (by rw [hsp, hd, roA_seg _ hz, roA_last])))
        clear hd hsp hz
        go_wp2_with (first
          | (go_at_call 41; refine (IndexByte_any _ (l.drop b) 0 _ hr1).mono ?_; rintro e w1 ⟨rfl, rfl⟩; rw [show (0 : Int).toNat.toUInt8 = (0 : UInt8) from rfl, HI.out])
          | fail)
        go_ret3
        unfold RoPost; rw [HE3.out]; exact ⟨_, rfl, OwB.nil _ _, hb⟩
      · have hnl : b + k + 1 < l.length := by omega
        obtain ⟨A2, c2, q2, hr2⟩ := (hv.below hb (Nat.le_refl _)).run_lh b (b + k) (by omega) (by omega)
        rw [Nat.add_sub_cancel_left] at q2 hr2
        have hseg : (l.take (b + k)).drop b = (l.drop b).take k := by rw [List.drop_take, Nat.add_sub_cancel_left]
        rw [hseg] at hr2
        have hd : (l.drop b).drop (k + 1) = l[b + k + 1] :: l.drop (b + k + 2) := by
          rw [List.drop_drop]; exact List.drop_eq_getElem_cons hnl
        have hsegl : ((l.drop b).take k).length = k := by simp; omega
        have HE2 := Lib.hid (HE.out.trans (by rw [hsp, hd, roA_seg _ hz, hsegl]))
        have HAT := Lib.hid fun (w' : World) (hb' : Below w.heap.size w w') => (hv.below hb' (Nat.le_refl _)).at_ hnl
        generalize l[b + k + 1] = y at HE2 HAT hd
        generalize (l.drop b).take k = seg at hr2 HE2 hsegl hz hsp
        obtain ⟨p, hp⟩ : ∃ p, p = b + k + 1 := ⟨_, rfl⟩
        obtain ⟨n2, hn2⟩ : ∃ n2, n2 = b + k + 2 := ⟨_, rfl⟩
        rw [← hp] at HAT hnl
        rw [← hn2] at HE2
        have i1 : (b : Int) + ((k : Int) + 2) = (n2 : Int) := by omega
        have i2 : (n2 : Int) - 1 = (p : Int) := by omega
        have i3 : (p : Int) < (l.length : Int) := by omega
        have i4 : (n2 : Int) ≤ (l.length : Int) := by omega
        have q2 : ∀ w', (Instr.slice 24 (.slice A l.length c) (some (.int .i64 (b : Int))) (some (.int .i64 ((b : Int) + (k : Int)))) none).run Try.prog w' = .ok (.slice A2 k c2) w' := fun w' => by
          have := q2 w'
          rw [show ((b + k : Nat) : Int) = (b : Int) + (k : Int) by omega] at this
          exact this
        have HP := Lib.hid hp
        have HN := Lib.hid hn2
        have HS := Lib.hid hsegl
        clear hp hn2 hd hseg hsegl hsp hz
        by_cases y1 : y = 1
        · subst y1
          have HE3 := Lib.hid (hV.out _ _ _ (HE2.out.trans (roA_one _ _ _)))
          go_wp2_with (first
            | (go_at_call 41; refine (IndexByte_any _ (l.drop b) 0 _ hr1).mono ?_; rintro e w1 ⟨rfl, rfl⟩; rw [show (0 : Int).toNat.toUInt8 = (0 : UInt8) from rfl, HI.out])
            | (at_builtin; refine wp_append_B rfl (.tmp 32) (.tmp 38) rfl w.heap.size _ acc rfl ho _ seg rfl hr2 (by rw [HS.out]; omega) hbs ?_; intro v3 w3 ho3 hg3 _; have hb3 := hb.grown hg3 hbs (fun g hg => (ho.lt g hg).1); have hbs3 := hb3.size; obtain ⟨ad, rfl, hc3⟩ := HAT.out _ hb3; replace hc3 : w3.cell? (ad.add p) = some (.int .u8 1) := hc3)
            | fail)
          go_ret3
          unfold RoPost; rw [HE3.out]
          exact ⟨_, ret3 rfl (congrArg (Value.int .i64) (by show (n2 : Int) = (a : Int) + ((b - a + k + 2 : Nat) : Int); have := HN.out; omega)) rfl, ho3, hb3⟩
        by_cases y2 : y = 255
        · subst y2
          have HE3 := Lib.hid (HE2.out.trans (roA_255 _ _ _))
          have hla : (acc ++ seg).length + 1 ≤ 140737488355328 := by rw [List.length_append, HS.out]; omega
          have HLA : Hid ((acc ++ seg ++ [0]).length ≤ n2) := Lib.hid (by rw [List.length_append, List.length_append, HS.out, HN.out]; simp; omega)
          go_wp2_with (first
            | (go_at_call 41; refine (IndexByte_any _ (l.drop b) 0 _ hr1).mono ?_; rintro e w1 ⟨rfl, rfl⟩; rw [show (0 : Int).toNat.toUInt8 = (0 : UInt8) from rfl, HI.out])
            | (at_builtin; refine wp_append_B rfl (.tmp 32) (.tmp 38) rfl w.heap.size _ acc rfl ho _ seg rfl hr2 (by rw [HS.out]; omega) hbs ?_; intro v3 w3 ho3 hg3 _; have hb3 := hb.grown hg3 hbs (fun g hg => (ho.lt g hg).1); have hbs3 := hb3.size; obtain ⟨ad, rfl, hc3⟩ := HAT.out _ hb3; replace hc3 : w3.cell? (ad.add p) = some (.int .u8 255) := hc3)
            | (at_builtin; refine wp_append_B1 rfl (.tmp 55) (.tmp 56) rfl w.heap.size _ _ rfl ho3 0 _ rfl 5 rfl hla hbs3 ?_; intro v4 w4 ho4 hg4 _; have hb4 := hb3.grown hg4 hbs3 (fun g hg => (ho3.lt g hg).1))
            | fail)
          go_roundw
          case rel => exact ⟨n2, acc ++ seg ++ [0], by go_num, by have := HN.out; omega, by omega, HLA.out, ho4, Lib.hid (by rw [HE3.out]; congr 1; have := HN.out; omega), hb4⟩
          case measure => have := HN.out; simp [intOf]; omega
        · have HE3 := Lib.hid (hV.out _ _ _ (HE2.out.trans (roA_bad _ _ y _ y1 y2)))
          have e1 : ((y.toNat : Int) == 1) = false := u8_ne (z := 1) y1
          have e2 : ((y.toNat : Int) == 255) = false := u8_ne (z := 255) y2
          clear y1 y2
          go_wp2_with (first
            | (go_at_call 41; refine (IndexByte_any _ (l.drop b) 0 _ hr1).mono ?_; rintro e w1 ⟨rfl, rfl⟩; rw [show (0 : Int).toNat.toUInt8 = (0 : UInt8) from rfl, HI.out])
            | (at_builtin; refine wp_append_B rfl (.tmp 32) (.tmp 38) rfl w.heap.size _ acc rfl ho _ seg rfl hr2 (by rw [HS.out]; omega) hbs ?_; intro v3 w3 ho3 hg3 _; have hb3 := hb.grown hg3 hbs (fun g hg => (ho.lt g hg).1); have hbs3 := hb3.size; obtain ⟨ad, rfl, hc3⟩ := HAT.out _ hb3; skip)
            | fail)
          go_ret3
          unfold RoPost; rw [HE3.out]; exact ⟨_, rfl, OwB.nil _ _, hb3⟩
end Go.Proofs.Ytijlebjldnhnaaa
