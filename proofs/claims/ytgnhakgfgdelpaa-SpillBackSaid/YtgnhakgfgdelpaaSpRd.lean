/- spill.Read, Slice, List, Free: walks. -/
import Derived.Test.YtgnhakgfgdelpaaSpCh
namespace Go.Proofs.Ytgnhakgfgdelpaa
open Go.RowKit Go.Maps
def sizeB (n : Int) : Bool := decide (1 ≤ n) && decide (n ≤ 65536)
theorem sizeB_true {n : Int} (h : sizeB n = true) : 1 ≤ n ∧ n ≤ 65536 := by unfold sizeB at h; simpa using h
theorem sizeB_false {n : Int} (h : sizeB n = false) : n < 1 ∨ 65536 < n := by
  unfold sizeB at h
  by_cases h1 : 1 ≤ n
  · by_cases h2 : n ≤ 65536
    · rw [decide_eq_true h1, decide_eq_true h2] at h; cases h
    · exact .inr (by omega)
  · exact .inl (by omega)
theorem isSize_any (n : Int) (w : World) : Calls Try.prog 46 #[.int .i64 n] w fun e w' => e = .returned (.bool (sizeB n)) ∧ w' = w := by
  by_cases h1 : 1 ≤ n
  · by_cases h2 : n ≤ 65536
    · have HV : Hid (sizeB n = true) := by show _ = _; unfold sizeB; rw [decide_eq_true h1, decide_eq_true h2]; rfl
      go_enter Try.func46, Try.ntmps46
      go_wp2_with fail
      go_ret
      rw [HV.out]
      exact ⟨rfl, rfl⟩
    · have HV : Hid (sizeB n = false) := by show _ = _; unfold sizeB; rw [decide_eq_false h2, Bool.and_false]
      go_enter Try.func46, Try.ntmps46
      go_wp2_with fail
      go_ret
      rw [HV.out]
      exact ⟨rfl, rfl⟩
  · have HV : Hid (sizeB n = false) := by show _ = _; unfold sizeB; rw [decide_eq_false h1, Bool.false_and]
    go_enter Try.func46, Try.ntmps46
    go_wp2_with fail
    go_ret
    rw [HV.out]
    exact ⟨rfl, rfl⟩
/-- What Read, List, Slice, Free say. -/
def allCh (S : BS) (first n : Int) : ChR := if sizeB n then chF n (n.toNat + 1) S first n [] [] else (31, [], [], S)
def sliceCh (S : BS) (first n from_ to_ : Int) : ChR :=
  if sizeB n = false then (31, [], [], S) else if from_ < 0 ∨ to_ < from_ ∨ n < to_ then (1, [], [], S) else if from_ = to_ then (0, [], [], S) else
  if (chF to_ (to_.toNat + 1) S first n [] []).1 = 0 then (0, [], ((chF to_ (to_.toNat + 1) S first n [] []).2.2.1.take to_.toNat).drop from_.toNat, (chF to_ (to_.toNat + 1) S first n [] []).2.2.2) else chF to_ (to_.toNat + 1) S first n [] []
def freeAll : List Int → Int → BS → Int × BS
  | [], z, S => (z, S)
  | p :: ps, _, S => if freeZ S p = 0 then freeAll ps 0 (freeS S p) else (freeZ S p, freeS S p)
def freeCh (S : BS) (first n : Int) : Int × BS := freeAll (allCh S first n).2.1 (allCh S first n).1 (allCh S first n).2.2.2
section
variable {w0 w : World} {gb gm : Nat} {pv : Int → Option Value} {S : BS} {L : List Ent}
set_option maxRecDepth 100000 in
set_option maxHeartbeats 2000000 in
theorem SRead_any (hS : Sep w0 w (benchE gb gm pv S :: L)) (first : Int) (hfi : i64w first) (n : Int) :
    Calls Try.prog 24 #[roomV gb, .int .i64 first, .int .i64 n] w fun e w' => ∃ ou pv', e = .returned (.tuple #[ou, .int .i64 (allCh S first n).1]) ∧ Sep w0 w' (bytesE ou (allCh S first n).2.2.1 :: benchE gb gm pv' (allCh S first n).2.2.2 :: L) := by
  have hSi := isSize_any n w
  cases hs : sizeB n with
  | false =>
    have HV : Hid (allCh S first n = (31, [], [], S)) := by show _ = _; unfold allCh; rw [hs]; rfl
    rw [hs] at hSi
    clear hs
    go_enter Try.func24, Try.ntmps24
    go_wp2_with (first
      | (go_at_call 46; (with_reducible refine hSi.mono ?_); rintro e w1 ⟨rfl, rfl⟩) | fail)
    go_ret2
    rw [HV.out]
    exact ⟨_, _, rfl, hS.nil⟩
  | true =>
    obtain ⟨h1, h2⟩ := sizeB_true hs
    obtain ⟨m, rfl⟩ : ∃ m : Nat, n = (m : Int) := ⟨n.toNat, by omega⟩
    have HV : Hid (allCh S first m = chF m (m + 1) S first m [] []) := by show _ = _; unfold allCh; rw [hs]; rfl
    rw [hs] at hSi
    have hC := SChain_any hS first hfi m m (by omega) (Nat.le_refl _)
    clear hs
    generalize chF m (m + 1) S first m [] [] = r at *
    go_enter Try.func24, Try.ntmps24
    go_wp2_with (first
      | (go_at_call 46; (with_reducible refine hSi.mono ?_); rintro e w1 ⟨rfl, rfl⟩)
      | (go_at_call 47; (with_reducible refine hC.mono ?_); rintro e w2 ⟨pu, ou, pv2, rfl, hS2⟩) | fail)
    go_ret2
    rw [HV.out]
    exact ⟨_, _, rfl, hS2.tail⟩
set_option maxRecDepth 100000 in
set_option maxHeartbeats 2000000 in
theorem SList_any (hS : Sep w0 w (benchE gb gm pv S :: L)) (first : Int) (hfi : i64w first) (n : Int) :
    Calls Try.prog 27 #[roomV gb, .int .i64 first, .int .i64 n] w fun e w' => ∃ pu pv', e = .returned (.tuple #[pu, .int .i64 (allCh S first n).1]) ∧ Sep w0 w' (intsE pu (allCh S first n).2.1 :: benchE gb gm pv' (allCh S first n).2.2.2 :: L) := by
  have hSi := isSize_any n w
  cases hs : sizeB n with
  | false =>
    have HV : Hid (allCh S first n = (31, [], [], S)) := by show _ = _; unfold allCh; rw [hs]; rfl
    rw [hs] at hSi
    clear hs
    go_enter Try.func27, Try.ntmps27
    go_wp2_with (first
      | (go_at_call 46; (with_reducible refine hSi.mono ?_); rintro e w1 ⟨rfl, rfl⟩) | fail)
    go_ret2
    rw [HV.out]
    exact ⟨_, _, rfl, hS.nilI⟩
  | true =>
    obtain ⟨h1, h2⟩ := sizeB_true hs
    obtain ⟨m, rfl⟩ : ∃ m : Nat, n = (m : Int) := ⟨n.toNat, by omega⟩
    have HV : Hid (allCh S first m = chF m (m + 1) S first m [] []) := by show _ = _; unfold allCh; rw [hs]; rfl
    rw [hs] at hSi
    have hC := SChain_any hS first hfi m m (by omega) (Nat.le_refl _)
    clear hs
    generalize chF m (m + 1) S first m [] [] = r at *
    go_enter Try.func27, Try.ntmps27
    go_wp2_with (first
      | (go_at_call 46; (with_reducible refine hSi.mono ?_); rintro e w1 ⟨rfl, rfl⟩)
      | (go_at_call 47; (with_reducible refine hC.mono ?_); rintro e w2 ⟨pu, ou, pv2, rfl, hS2⟩) | fail)
    go_ret2
    rw [HV.out]
    exact ⟨_, _, rfl, hS2.sw1.tail⟩
set_option maxRecDepth 100000 in
set_option maxHeartbeats 4000000 in
theorem SSlice_any (hS : Sep w0 w (benchE gb gm pv S :: L)) (first : Int) (hfi : i64w first) (n from_ to_ : Int) (hfr : i64w from_) (hto : i64w to_) :
    Calls Try.prog 25 #[roomV gb, .int .i64 first, .int .i64 n, .int .i64 from_, .int .i64 to_] w fun e w' => ∃ ou pv', e = .returned (.tuple #[ou, .int .i64 (sliceCh S first n from_ to_).1]) ∧ Sep w0 w' (bytesE ou (sliceCh S first n from_ to_).2.2.1 :: benchE gb gm pv' (sliceCh S first n from_ to_).2.2.2 :: L) := by
  have hSi := isSize_any n w
  cases hs : sizeB n with
  | false =>
    have HV : Hid (sliceCh S first n from_ to_ = (31, [], [], S)) := by show _ = _; unfold sliceCh; rw [if_pos hs]
    rw [hs] at hSi
    clear hs
    go_enter Try.func25, Try.ntmps25
    go_wp2_with (first
      | (go_at_call 46; (with_reducible refine hSi.mono ?_); rintro e w1 ⟨rfl, rfl⟩) | fail)
    go_ret2
    rw [HV.out]
    exact ⟨_, _, rfl, hS.nil⟩
  | true =>
    obtain ⟨h1, h2⟩ := sizeB_true hs
    rw [hs] at hSi
    by_cases hb : from_ < 0 ∨ to_ < from_ ∨ n < to_
    · have HV : Hid (sliceCh S first n from_ to_ = (1, [], [], S)) := by show _ = _; unfold sliceCh; rw [if_neg (by rw [hs]; simp), if_pos hb]
      clear hs
      by_cases b1 : from_ < 0
      · clear hb
        go_enter Try.func25, Try.ntmps25
        go_wp2_with (first
          | (go_at_call 46; (with_reducible refine hSi.mono ?_); rintro e w1 ⟨rfl, rfl⟩) | fail)
        go_ret2
        rw [HV.out]
        exact ⟨_, _, rfl, hS.nil⟩
      · by_cases b2 : to_ < from_
        · clear hb
          go_enter Try.func25, Try.ntmps25
          go_wp2_with (first
            | (go_at_call 46; (with_reducible refine hSi.mono ?_); rintro e w1 ⟨rfl, rfl⟩) | fail)
          go_ret2
          rw [HV.out]
          exact ⟨_, _, rfl, hS.nil⟩
        · have b3 : n < to_ := by omega
          clear hb
          go_enter Try.func25, Try.ntmps25
          go_wp2_with (first
            | (go_at_call 46; (with_reducible refine hSi.mono ?_); rintro e w1 ⟨rfl, rfl⟩) | fail)
          go_ret2
          rw [HV.out]
          exact ⟨_, _, rfl, hS.nil⟩
    · have b1 : ¬ from_ < 0 := by omega
      have b2 : ¬ to_ < from_ := by omega
      have b3 : ¬ n < to_ := by omega
      by_cases he : from_ = to_
      · have HV : Hid (sliceCh S first n from_ to_ = (0, [], [], S)) := by show _ = _; unfold sliceCh; rw [if_neg (by rw [hs]; simp), if_neg hb, if_pos he]
        have e1 : (from_ == to_) = true := by rw [he]; simp
        clear hs hb he
        go_enter Try.func25, Try.ntmps25
        go_wp2_with (first
          | (go_at_call 46; (with_reducible refine hSi.mono ?_); rintro e w1 ⟨rfl, rfl⟩) | fail)
        go_ret2
        rw [HV.out]
        exact ⟨_, _, rfl, hS.nil⟩
      · have e1 : (from_ == to_) = false := beq_eq_false_iff_ne.2 he
        obtain ⟨m, rfl⟩ : ∃ m : Nat, n = (m : Int) := ⟨n.toNat, by omega⟩
        obtain ⟨lo, rfl⟩ : ∃ m : Nat, from_ = (m : Int) := ⟨from_.toNat, by omega⟩
        obtain ⟨hi, rfl⟩ : ∃ m : Nat, to_ = (m : Int) := ⟨to_.toNat, by omega⟩
        have HV : Hid (sliceCh S first m lo hi = if (chF hi (hi + 1) S first m [] []).1 = 0 then (0, [], ((chF hi (hi + 1) S first m [] []).2.2.1.take hi).drop lo, (chF hi (hi + 1) S first m [] []).2.2.2) else chF hi (hi + 1) S first m [] []) := by
          show _ = _; unfold sliceCh; rw [if_neg (by rw [hs]; simp), if_neg hb, if_neg he]; rfl
        have hC := SChain_any hS first hfi m hi (by omega) (by omega)
        obtain ⟨c1, c2, -⟩ := chF_facts (most := hi) (by omega) (hi + 1) S first m [] [] (by simp) hfi (fun p h => by cases h)
        clear hs hb he
        generalize chF hi (hi + 1) S first m [] [] = r at *
        obtain ⟨z, ps, out, S2⟩ := r
        by_cases hz : z = 0
        · subst hz
          have HV2 : Hid (sliceCh S first m lo hi = (0, [], (out.take hi).drop lo, S2)) := by show _ = _; rw [HV.out]; rfl
          have c3 : (hi : Int) ≤ (out.length : Int) := c1 rfl
          clear HV c1 c2
          have i1 : (0 : Int) ≤ (lo : Int) := by omega
          have i2 : (lo : Int) ≤ (hi : Int) := by omega
          have HN2 := Lib.hid (show lo ≤ hi ∧ hi ≤ out.length ∧ hi ≤ 65536 by omega)
          go_enter Try.func25, Try.ntmps25
          go_wp2_with (first
            | (go_at_call 46; (with_reducible refine hSi.mono ?_); rintro e w1 ⟨rfl, rfl⟩)
            | (go_at_call 47; (with_reducible refine hC.mono ?_); rintro e w2 ⟨pu, ou, pv2, rfl, hS2⟩; have hr2 := OwB.rd (hS2.tail.head : OwB w2 0 ou out); obtain ⟨A, c, rfl, -⟩ := hr2.form; obtain ⟨A2, c2, q2, hr3⟩ := hr2.run_lh lo hi HN2.out.1 HN2.out.2.1)
            | (go_at_call 42; (with_reducible refine (CloneB_any _ _ _ hr3 (by have := HN2.out; rw [List.length_drop, List.length_take]; omega)).mono ?_); rintro e w3 ⟨u3, rfl, ho3, hB3⟩)
            | fail)
          go_ret2
          rw [HV2.out]
          exact ⟨_, _, rfl, (hS2.bytes hB3 ho3 (Nat.le_refl _)).sw1.tail.sw1.tail⟩
        · have HV2 : Hid (sliceCh S first m lo hi = (z, ps, out, S2)) := by show _ = _; rw [HV.out, if_neg hz]
          have e2 : (z != 0) = true := by simp only [bne, beq_eq_false_iff_ne.2 hz]; rfl
          obtain ⟨c3, c4⟩ := c2 hz
          have c4 : out = [] := c4
          subst c4
          clear HV c1 c2 hz
          go_enter Try.func25, Try.ntmps25
          go_wp2_with (first
            | (go_at_call 46; (with_reducible refine hSi.mono ?_); rintro e w1 ⟨rfl, rfl⟩)
            | (go_at_call 47; (with_reducible refine hC.mono ?_); rintro e w2 ⟨pu, ou, pv2, rfl, hS2⟩)
            | fail)
          go_ret2
          rw [HV2.out]
          exact ⟨_, _, rfl, hS2.tail.tail.nil⟩
set_option maxRecDepth 100000 in
set_option maxHeartbeats 4000000 in
theorem SFree_any (hS : Sep w0 w (benchE gb gm pv S :: L)) (first : Int) (hfi : i64w first) (n : Int) :
    Calls Try.prog 26 #[roomV gb, .int .i64 first, .int .i64 n] w fun e w' => ∃ pv', e = .returned (.int .i64 (freeCh S first n).1) ∧ Sep w0 w' (benchE gb gm pv' (freeCh S first n).2 :: L) := by
  have hLi := SList_any hS first hfi n
  have HV : Hid (freeCh S first n = freeAll (allCh S first n).2.1 (allCh S first n).1 (allCh S first n).2.2.2) := Lib.hid rfl
  have hpi : ∀ p ∈ (allCh S first n).2.1, i64w p := by
    unfold allCh
    cases hs : sizeB n with
    | false => intro p hp; simp at hp
    | true => exact (chF_facts (by have := (sizeB_true hs).1; omega) (n.toNat + 1) S first n [] [] (by simp) hfi (fun p h => by cases h)).2.2
  generalize allCh S first n = r at *
  obtain ⟨z, ps, out, S2⟩ := r
  have hpi : ∀ p ∈ ps, i64w p := hpi
  have HV : Hid (freeCh S first n = freeAll ps z S2) := HV
  have hrf := rm_free (.pointer (some ⟨gb, 0, none⟩))
  have HPI := Lib.hid hpi
  clear hpi
  go_enter Try.func26, Try.ntmps26
  go_upto_region 3 with (first
    | (go_at_call 27; (with_reducible refine hLi.mono ?_); rintro e w2 ⟨pu, pv2, rfl, hS2⟩; have hr2 := OwI.rd (hS2.head : OwI w2 0 pu ps); obtain ⟨A, c, rfl, hm, hcm⟩ := hr2.form; clear hr2)
    | fail)
  go_loopw [8, 20] (fun ze i wr => ∃ (k : Nat) (Sk : BS) (pvk : Int → Option Value) (zk : Int), k ≤ ps.length ∧ ze = .int .i64 zk ∧ i = .int .i64 (k : Int) ∧ Hid (freeAll ps z S2 = freeAll (ps.drop k) zk Sk) ∧
    Sep w0 wr (intsE (.slice A ps.length c) ps :: benchE gb gm pvk Sk :: L)) (fun _ i _ => ps.length - (intOf i).toNat)
  case atStart => exact ⟨0, S2, pv2, z, Nat.zero_le _, rfl, rfl, Lib.hid rfl, hS2⟩
  case round =>
    clear hS hS2
    obtain ⟨k, Sk, pvk, zk, hk, rfl, rfl, HF, hSk⟩ := hrel
    by_cases hlt : k < ps.length
    · have i1 : (k : Int) < (ps.length : Int) := by omega
      have hrk : RdI wr (.slice A ps.length c) ps := OwI.rd (hSk.head : OwI wr 0 (.slice A ps.length c) ps)
      obtain ⟨ad, rfl, hcell⟩ := hrk.at_ hlt
      have hpk := HPI.out _ (List.getElem_mem hlt)
      have HK1 := Lib.hid (And.intro hlt (Nat.le_trans hm hcm))
      have ewk : IntKind.i64.wrap ((k : Int) + 1) = (k : Int) + 1 := by rw [IntKind.wrap_i64]; omega
      have hB := BFree_any hSk.sw1 ps[k] hpk
      have hdr := List.drop_eq_getElem_cons hlt
      generalize ps[k] = p at *
      by_cases hz : freeZ Sk p = 0
      · have HX : Hid (freeAll ps z S2 = freeAll (ps.drop (k + 1)) 0 (freeS Sk p)) := by
          show _ = _
          rw [HF.out, hdr, freeAll, if_pos hz]
        rw [hz] at hB
        clear hdr hz hrk hpk
        go_wp2_with (first
          | (go_at_call 66; (with_reducible refine hB.mono ?_); rintro e w3 ⟨rfl, pv3, hS3⟩)
          | fail)
        go_roundw
        case rel => exact ⟨k + 1, _, pv3, 0, HK1.out.1, by first | rfl | trivial, by have := HK1.out; go_num, HX, hS3.sw1⟩
        case measure => have := HK1.out; first | (simp [intOf]; omega) | (simp [intOf, ewk]; omega)
      · have HX : Hid (freeCh S first n = (freeZ Sk p, freeS Sk p)) := by
          show _ = _
          rw [HV.out, HF.out, hdr, freeAll, if_neg hz]
        have e2 : (freeZ Sk p != 0) = true := by simp only [bne, beq_eq_false_iff_ne.2 hz]; rfl
        generalize freeZ Sk p = zz at *
        clear hdr hz hrk hpk
        go_wp2_with (first
          | (go_at_call 66; (with_reducible refine hB.mono ?_); rintro e w3 ⟨rfl, pv3, hS3⟩)
          | fail)
        go_ret
        rw [HX.out]
        exact ⟨_, rfl, hS3.sw1.tail⟩
    · obtain rfl : k = ps.length := by omega
      have HX : Hid (freeCh S first n = (zk, Sk)) := by
        show _ = _
        rw [HV.out, HF.out, List.drop_length]; rfl
      go_wp2_with fail
      go_ret
      rw [HX.out]
      exact ⟨_, rfl, hSk.tail⟩
end
end Go.Proofs.Ytgnhakgfgdelpaa
