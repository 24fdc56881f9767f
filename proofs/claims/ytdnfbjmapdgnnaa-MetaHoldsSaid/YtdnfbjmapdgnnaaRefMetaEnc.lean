/- espalierref05.Encode: walks. -/
import Derived.Test.YtdnfbjmapdgnnaaMetaEncA
import Derived.Test.YtdnfbjmapdgnnaaRefMetaChk
import Derived.Test.YtdnfbjmapdgnnaaRefInk
namespace Go.Proofs.Ytdnfbjmapdgnnaa
open Go.RowKit

set_option maxRecDepth 100000 in
set_option maxHeartbeats 1000000 in
theorem REncode_bad (eg pg tx rt ct fr ls hi : Int) (hok : okB eg pg tx rt ct fr ls hi = false) (w : World) :
    Calls Try.prog 13 #[.agg #[.int .i64 eg, .int .i64 pg, .int .i64 tx, .int .i64 rt, .int .i64 ct, .int .i64 fr, .int .i64 ls, .int .i64 hi]] w fun e w' =>
      e = .returned (.tuple #[.slice none 0 0, .int .i64 1]) ∧ Below w.heap.size w w' := by
  have hC := fun w => RCheck_any eg pg tx rt ct fr ls hi w
  rw [hok] at hC
  simp only [cond_false] at hC
  have HC := Lib.hid hC
  clear hC hok
  go_enter Try.func13, Try.ntmps13
  go_wp2_with (go_at_call 10; refine (HC.out _).mono ?_; rintro e w1 ⟨rfl, hw1⟩)
  go_ret2
  exact ⟨rfl, ((Below.refl _ _).alloc (Nat.le_refl _) _).trans (hw1.mono (by simp))⟩

theorem metaRest_at (rt ct fr ls hi k : Nat) (hk : k < 5) : ([.int .i64 rt, .int .i64 ct, .int .i64 fr, .int .i64 ls, .int .i64 hi] : List Value)[k]? = some (.int .i64 (metaNum 0 0 rt ct fr ls hi (k + 2) : Nat)) := by
  rcases (by omega : k = 0 ∨ k = 1 ∨ k = 2 ∨ k = 3 ∨ k = 4) with rfl | rfl | rfl | rfl | rfl <;> rfl
theorem metaNum_rest (pg tx rt ct fr ls hi k : Nat) : metaNum 0 0 rt ct fr ls hi (k + 2) = metaNum pg tx rt ct fr ls hi (k + 2) := by
  rcases k with _ | _ | _ | _ | _ | k <;> rfl
set_option maxRecDepth 100000 in
set_option maxHeartbeats 1000000 in
theorem REncode_ok (eg pg tx rt ct fr ls hi : Nat) (hok : okB eg pg tx rt ct fr ls hi = true) (w : World) :
    Calls Try.prog 13 #[.agg #[.int .i64 eg, .int .i64 pg, .int .i64 tx, .int .i64 rt, .int .i64 ct, .int .i64 fr, .int .i64 ls, .int .i64 hi]] w fun e w' =>
      ∃ v, e = .returned (.tuple #[v, .int .i64 0]) ∧ OwB w' w.heap.size v (encF eg pg tx rt ct fr ls hi) ∧ Below w.heap.size w w' := by
  have hC := fun w => RCheck_any eg pg tx rt ct fr ls hi w
  rw [hok] at hC
  simp only [cond_true] at hC
  have HC := Lib.hid hC
  obtain ⟨_, ⟨hp1, hp2⟩, ht, _, _, _, _, _, _⟩ := okB_bounds hok
  have HM := Lib.hid (fun k => metaNum_le hok k)
  have hp3 : (512 : Int) ≤ (pg : Int) := by omega
  have hp4 : (pg : Int) ≤ 65536 := by omega
  have ht2 : (tx : Int) ≤ 1099511627776 := by omega
  clear hC hok
  go_enter Try.func13, Try.ntmps13
  go_wp2_with fail
  refine (HC.out _).mono ?_
  rintro e w1 ⟨rfl, hw1⟩
  have hm1 : OBlk w1 w.heap.size 24 [.int .i64 eg, .int .i64 pg, .int .i64 tx, .int .i64 rt, .int .i64 ct, .int .i64 fr, .int .i64 ls, .int .i64 hi] :=
    (OBlk.new' w _ _).below hw1 (by simp)
  have hb1 : Below w.heap.size w w1 := ((Below.refl _ _).alloc (Nat.le_refl _) _).trans (hw1.mono (by simp))
  have hz1 : w.heap.size < w1.heap.size := by have := hw1.size; simp at this; omega
  obtain ⟨c0, c1, c2, c3, c4, c5, c6, c7⟩ := cells8 hm1
  have heg : ((UInt8.ofNat eg).toNat : Int) = (eg : Int) := by rw [u8_byte]; omega
  have ho1 : OwB (w1.alloc (.cells #[.int .u8 1, .int .u8 eg, .int .u8 0, .int .u8 0, .int .u8 69, .int .u8 83, .int .u8 80, .int .u8 76] 5)) w1.heap.size (.slice (some ⟨w1.heap.size, 0, none⟩) 8 8) (metaPre eg pg tx rt ct fr ls hi 0) := by
    have := OBlk.new' w1 5 (bvs [1, UInt8.ofNat eg, 0, 0, 69, 83, 80, 76])
    have h2 := this.owB' (base := w1.heap.size) (Nat.le_refl _) (by simp [maxLen])
    simp only [bvs, bv, List.map_cons, List.map_nil, heg] at h2
    exact h2
  clear heg
  go_wp2_with fail
  refine (RFixed_4 pg (by omega) _).mono ?_
  rintro e w2 ⟨v2, rfl, ho2, hw2⟩
  have ho1' := ho1.below' hw2 (Nat.le_refl _)
  have hm2 := (hm1.alloc (.cells #[.int .u8 1, .int .u8 eg, .int .u8 0, .int .u8 0, .int .u8 69, .int .u8 83, .int .u8 80, .int .u8 76] 5)).below hw2 (by simp; omega)
  have hb2 : Below w.heap.size w w2 := (hb1.alloc hb1.size _).trans (hw2.mono (by have := hb1.size; simp; omega))
  have hz2 : w1.heap.size < w2.heap.size := by have := hw2.size; simp at this; omega
  clear hm1 hb1 ho1 c0 c1 c2 c3 c4 c5 c6 c7 hw1 hw2
  go_wp2_with (first | (at_builtin; refine wp_append_B rfl (.tmp 18) (.tmp 22) rfl w1.heap.size _ _ rfl ho1' _ _ rfl ho2.rd (by rw [metaPre_len _ _ _ _ _ _ _ _ 0 (by omega), fixedF_length]; simp [placeAt]) (Nat.le_of_lt hz2) ?_; intro v3 w3 ho3 hg3 _; have hm3 := hm2.grown hg3 (show some w.heap.size ≠ some w1.heap.size by simp only [ne_eq, Option.some.injEq]; omega); obtain ⟨c0, c1, c2, c3, c4, c5, c6, c7⟩ := cells8 hm3) | fail)
  have hb3 : Below w.heap.size w w3 := hb2.grown hg3 hb2.size (fun k hk => by have := (ho1'.lt k hk).1; omega)
  have hz3 : w1.heap.size < w3.heap.size := Nat.lt_of_lt_of_le hz2 hg3.size
  refine (RFixed_8 tx (by omega) _).mono ?_
  rintro e w4 ⟨v4, rfl, ho4, hw4⟩
  have hb4 : Below w.heap.size w w4 := hb3.trans (hw4.mono hb3.size)
  have hz4 : w1.heap.size < w4.heap.size := Nat.lt_of_lt_of_le hz3 hw4.size
  have ho3' := ho3.below' hw4 (Nat.le_refl _)
  have hm4 := hm3.below hw4 hm3.lt
  have e1 : metaPre eg pg tx rt ct fr ls hi 0 ++ fixedF pg 4 = metaPre eg pg tx rt ct fr ls hi 1 := (metaPre_succ eg pg tx rt ct fr ls hi 0 (by omega)).symm
  rw [e1] at ho3'
  clear c0 c1 c2 c3 c4 c5 c6 c7 hm3 hm2 hb3 hb2 hw4 ho1' ho2 e1 ho3
  go_wp2_with (first | (at_builtin; refine wp_append_B rfl (.tmp 24) (.tmp 28) rfl w1.heap.size _ _ rfl ho3' _ _ rfl ho4.rd (by rw [metaPre_len _ _ _ _ _ _ _ _ 1 (by omega), fixedF_length]; simp [placeAt]) (Nat.le_of_lt hz4) ?_; intro v5 w5 ho5 hg5 _; have hm5 := hm4.grown hg5 (fun e => by have := (ho3'.lt _ e.symm).1; omega); obtain ⟨c0, c1, c2, c3, c4, c5, c6, c7⟩ := cells8 hm5) | fail)
  have hb5 : Below w.heap.size w w5 := hb4.grown hg5 hb4.size (fun k hk => by have := (ho3'.lt k hk).1; omega)
  have hz5 : w1.heap.size < w5.heap.size := Nat.lt_of_lt_of_le hz4 hg5.size
  have e1 : metaPre eg pg tx rt ct fr ls hi 1 ++ fixedF tx 8 = metaPre eg pg tx rt ct fr ls hi 2 := (metaPre_succ eg pg tx rt ct fr ls hi 1 (by omega)).symm
  rw [e1] at ho5
  have ho5' := ho5.alloc (.cells #[.int .i64 rt, .int .i64 ct, .int .i64 fr, .int .i64 ls, .int .i64 hi] 3)
  have hm5' := hm5.alloc (.cells #[.int .i64 rt, .int .i64 ct, .int .i64 fr, .int .i64 ls, .int .i64 hi] 3)
  have hr5' := OBlk.new' w5 3 [.int .i64 rt, .int .i64 ct, .int .i64 fr, .int .i64 ls, .int .i64 hi]
  have hb5' := hb5.alloc hb5.size (.cells #[.int .i64 rt, .int .i64 ct, .int .i64 fr, .int .i64 ls, .int .i64 hi] 3)
  have HW1 : Hid (w.heap.size < w1.heap.size) := hz1
  clear c0 c1 c2 c3 c4 c5 c6 c7 hm5 hm4 hb4 hb5 ho3' ho4 e1 ho5 hg5 hz2 hz3 hz4
  generalize w5.heap.size = gr at *
  generalize w1.heap.size = g1 at *
  go_loopw [5, 7] (fun v i wr => ∃ k : Nat, i = .int .i64 (k : Int) ∧ k ≤ 5 ∧ OwB wr g1 v (metaPre eg pg tx rt ct fr ls hi (k + 2)) ∧
      OBlk wr gr 3 [.int .i64 rt, .int .i64 ct, .int .i64 fr, .int .i64 ls, .int .i64 hi] ∧
      OBlk wr w.heap.size 24 [.int .i64 eg, .int .i64 pg, .int .i64 tx, .int .i64 rt, .int .i64 ct, .int .i64 fr, .int .i64 ls, .int .i64 hi] ∧ Below w.heap.size w wr)
    (fun _ i _ => 5 - (intOf i).toNat)
  case atStart => exact ⟨0, rfl, by omega, ho5', hr5', hm5', hb5'⟩
  case round =>
    clear ho5' hr5' hm5' hb5'
    obtain ⟨k, rfl, hk, ho, hr, hm, hb⟩ := hrel
    by_cases hlt : k < 5
    · have hlk : wr.cell? ⟨gr, k, none⟩ = some (.int .i64 (metaNum pg tx rt ct fr ls hi (k + 2) : Nat)) := by
        rw [← metaNum_rest]; exact hr.cell' (metaRest_at rt ct fr ls hi k hlt)
      have hnb := HM.out (k + 2)
      have HS := Lib.hid (metaPre_succ eg pg tx rt ct fr ls hi (k + 2) (by omega))
      have hwd : placeW (k + 2) = 4 := rfl
      rw [hwd] at HS
      have HL := Lib.hid (metaPre_len eg pg tx rt ct fr ls hi (k + 2) (by omega))
      have hpl : placeAt (k + 2) ≤ 36 := by rcases (by omega : k = 0 ∨ k = 1 ∨ k = 2 ∨ k = 3 ∨ k = 4) with rfl | rfl | rfl | rfl | rfl <;> decide
      have a6 : (0 : Int) ≤ (k : Int) := by omega
      have a7 : (k : Int) < 5 := by omega
      clear hwd
      generalize metaNum pg tx rt ct fr ls hi (k + 2) = n at *
      go_wp2_with fail
      refine (RFixed_4 n (by omega) _).mono ?_
      rintro e w6 ⟨v6, rfl, ho6, hw6⟩
      have ho' := ho.below' hw6 (Nat.le_refl _)
      have hm' := hm.below hw6 hm.lt
      have hr' := hr.below hw6 hr.lt
      have hb' : Below w.heap.size w w6 := hb.trans (hw6.mono hb.size)
      have hgw : g1 ≤ w6.heap.size := by have := hr.lt; have := hw6.size; omega
      go_wp2_with (first | (at_builtin; refine wp_append_B rfl (.tmp 47) (.tmp 53) rfl g1 _ _ rfl ho' _ _ rfl ho6.rd (by rw [HL.out, fixedF_length]; omega) hgw ?_; intro v7 w7 ho7 hg7 _) | fail)
      go_roundw
      case rel =>
        rw [← HS.out] at ho7
        exact ⟨k + 1, by go_num, by omega, ho7, hr'.grown hg7 (ho'.ne_blk hr' (by decide)), hm'.grown hg7 (ho'.ne_blk hm' (by decide)),
          hb'.grown hg7 hb'.size (fun j hj => by have := (ho'.lt j hj).1; have := HW1.out; omega)⟩
      case measure => simp [intOf]; omega
    · obtain rfl : k = 5 := by omega
      rw [show ((5 : Nat) : Int) = 5 from rfl]
      obtain ⟨wo, rfl⟩ : ∃ wo : World, wo = wr := ⟨_, rfl⟩
      have HL := Lib.hid (metaPre_len7 eg pg tx rt ct fr ls hi)
      go_wp2_with fail
      go_loopw [5] (fun v wr => ∃ j : Nat, 40 + j ≤ pg - 4 ∧ OwB wr g1 v (metaPre eg pg tx rt ct fr ls hi 7 ++ List.replicate j 0) ∧
          OBlk wr w.heap.size 24 [.int .i64 eg, .int .i64 pg, .int .i64 tx, .int .i64 rt, .int .i64 ct, .int .i64 fr, .int .i64 ls, .int .i64 hi] ∧ Below w.heap.size w wr ∧ g1 < wr.heap.size)
        (fun v _ => pg - slen v)
      case atStart => exact ⟨0, by omega, by simpa using ho, hm, hb, by have := hr.lt; omega⟩
      case round =>
        clear ho hr hm hb
        obtain ⟨j, hj, ho, hm, hb, hz⟩ := hrel
        have hlen : (metaPre eg pg tx rt ct fr ls hi 7 ++ List.replicate j 0).length = 40 + j := by rw [List.length_append, HL.out, List.length_replicate]
        have HJ := Lib.hid hlen
        have hform := ho.form
        rcases hform with ⟨_, h0⟩ | ⟨gv, cap, hv, _, _, _, _⟩
        · rw [h0] at hlen; simp at hlen; omega
        rw [hlen] at hv
        subst hv
        clear hlen
        obtain ⟨c0, c1, c2, c3, c4, c5, c6, c7⟩ := cells8 hm
        clear c0 c2 c3 c4 c5 c6 c7
        by_cases hlt : 40 + j < pg - 4
        · have b1 : ((40 + j : Nat) : Int) < (pg : Int) - 4 := by omega
          go_wp2_with (first | (at_builtin; refine wp_append_B1 rfl (.tmp 61) (.tmp 62) rfl g1 _ _ rfl ho 0 _ rfl 5 rfl (by rw [HJ.out]; omega) (Nat.le_of_lt hz) ?_; intro v7 w7 ho7 hg7 _) | fail)
          go_roundw
          case rel =>
            refine ⟨j + 1, by omega, ?_, hm.grown hg7 (ho.ne_blk hm (by decide)), hb.grown hg7 hb.size (fun j hj => by have := (ho.lt j hj).1; have := HW1.out; omega), Nat.lt_of_lt_of_le hz hg7.size⟩
            rw [List.replicate_succ', ← List.append_assoc]; exact ho7
          case measure => 
            have : slen v7 = 40 + j + 1 := by
              rcases ho7.form with ⟨_, h0⟩ | ⟨gv, cap, rfl, _, _, _, _⟩
              · simp at h0
              · rw [List.length_append, HJ.out]; rfl
            have e2 : slen (Value.slice (some ⟨gv, 0, none⟩) (40 + j) cap) = 40 + j := rfl
            simp [this, e2]; omega
        · have b1 : ¬ ((40 + j : Nat) : Int) < (pg : Int) - 4 := by omega
          have hbody : metaPre eg pg tx rt ct fr ls hi 7 ++ List.replicate j 0 = metaBody eg pg tx rt ct fr ls hi := by
            unfold metaBody; rw [show j = pg - 44 by omega]
          rw [hbody] at ho
          have hbl : (metaBody eg pg tx rt ct fr ls hi).length ≤ 65536 := by rw [← hbody, HJ.out]; omega
          have hsl : sumF (metaBody eg pg tx rt ct fr ls hi) < 4294967296 := sumF_lt _
          clear hbody HJ HL
          have hws : IntKind.u64.wrap ((sumF (metaBody eg pg tx rt ct fr ls hi) : Nat) : Int) = ((sumF (metaBody eg pg tx rt ct fr ls hi) : Nat) : Int) := IntWalk.u64_in _ (by omega)
          go_wp2_with fail
          refine (SumOf_any _ _ _ ho.rd).mono ?_
          rintro e w6 ⟨rfl, rfl⟩
          go_wp2_with fail
          refine (RFixed_4 (sumF (metaBody eg pg tx rt ct fr ls hi)) (by omega) _).mono ?_
          rintro e w8 ⟨v8, rfl, ho8, hw8⟩
          have ho' := ho.below' hw8 (Nat.le_refl _)
          go_wp2_with (first | (at_builtin; refine wp_append_B rfl (.tmp 66) (.tmp 69) rfl g1 _ _ rfl ho' _ _ rfl ho8.rd (by rw [fixedF_length]; omega) (by have := hw8.size; omega) ?_; intro v7 w7 ho7 hg7 _) | fail)
          go_ret2
          have hb8 := hb.trans (hw8.mono hb.size)
          exact ⟨_, rfl, ho7.low (Nat.le_of_lt HW1.out), hb8.grown hg7 hb8.size (fun j hj => by have := (ho'.lt j hj).1; have := HW1.out; omega)⟩
end Go.Proofs.Ytdnfbjmapdgnnaa
