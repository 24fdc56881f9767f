/- espalierlaw01.live: the walk. -/
import Derived.Test.YtijlebjldnhnaaaInkRfV
import Derived.Test.YtijlebjldnhnaaaInkComm2
import Derived.Test.YtijlebjldnhnaaaInkBetween
import Derived.Test.YtijlebjldnhnaaaInkSum
import Derived.Test.YtijlebjldnhnaaaInkRefOwn
import Derived.Lib.SlBytesConst
namespace Go.Proofs.Ytijlebjldnhnaaa
open Go.RowKit
theorem c_fixed : fixedF 258 2 = [1, 2] := by decide
theorem c_rf : rfV [1, 2] 0 2 = (258, 0) := by decide
theorem c_uint : uintF 300 = [172, 2] := by rw [uintF_ge (by omega), uintF_lt (by omega)]; rfl
theorem c_ru : ruV [172, 2] 0 = (300, 2, 0) := by decide
theorem c_ord : ordF [97, 0] = [97, 0, 255, 0, 1] := by decide
theorem c_ro : roV [97, 0, 255, 0, 1] 0 = ([97, 0], 5, 0) := by
  have h := roA_ordF [97, 0] [] [] 0
  rw [c_ord] at h
  simp only [List.append_nil, List.nil_append] at h
  unfold roV
  rw [if_neg (by decide), show (0 : Int).toNat = 0 from rfl, List.drop_zero, h]
  rfl
theorem c_com : comLs [[97, 98], [97, 99]] = 1 := by decide
theorem c_bt : btV [97, 98, 99] [97, 98, 120] = [97, 98, 120] ∧ btC [97, 98, 99] [97, 98, 120] = 0 := by decide
theorem c_bh : bhV [97, 98] = [97, 99] ∧ decide (0 < stripN [97, 98]) = true := by decide
theorem c_sum : sumF [97] = 3251651376 := by decide
theorem Fixed_live (w : World) : Calls Try.prog 14 #[.int .u64 258, .int .i64 2] w fun e w' => ∃ A c, e = .returned (.slice A 2 c) ∧ OwB w' w.heap.size (.slice A 2 c) [1, 2] ∧ Below w.heap.size w w' :=
  (Fixed_any 258 (by omega) 2 (by omega) (by omega) w).mono fun e w' ⟨he, ho, hb, _⟩ => by
    rw [c_fixed] at ho
    exact ⟨_, _, he, ho.owB' (Nat.le_refl _) (by decide), hb⟩
theorem ReadFixed_live (v : Value) (w : World) (hv : RdB w v [1, 2]) : Calls Try.prog 21 #[v, .int .i64 0, .int .i64 2] w fun e w' => e = .returned (.tuple #[.int .u64 258, .int .i64 0]) ∧ w = w' :=
  (ReadFixedV v _ 0 2 w hv).mono fun e w' h => by
    unfold RfPost at h; rw [c_rf] at h; exact h
theorem Uint_live (w : World) : Calls Try.prog 15 #[.int .u64 300] w fun e w' => ∃ A c, e = .returned (.slice A 2 c) ∧ OwB w' w.heap.size (.slice A 2 c) [172, 2] ∧ Below w.heap.size w w' :=
  (Uint_any 300 (by omega) w).mono fun e w' ⟨v, he, ho, hb⟩ => by
    rw [c_uint] at ho
    obtain ⟨A, c, rfl⟩ := ho.sl
    exact ⟨A, c, he, ho, hb⟩
theorem ReadUint_live (v : Value) (w : World) (hv : RdB w v [172, 2]) : Calls Try.prog 23 #[v, .int .i64 0] w fun e w' => e = .returned (.tuple #[.int .u64 300, .int .i64 2, .int .i64 0]) ∧ w = w' :=
  (ReadUint_any v _ 0 w hv).mono fun e w' h => by
    unfold RuPost at h; rw [c_ru] at h; exact h
theorem Ordered_live (v : Value) (w : World) (hv : RdB w v [97, 0]) : Calls Try.prog 28 #[v] w fun e w' => ∃ A c, e = .returned (.slice A 5 c) ∧ OwB w' w.heap.size (.slice A 5 c) [97, 0, 255, 0, 1] ∧ Below w.heap.size w w' :=
  (Ordered_any v _ w hv (by simp)).mono fun e w' ⟨v, he, ho, hb⟩ => by
    rw [c_ord] at ho
    obtain ⟨A, c, rfl⟩ := ho.sl
    exact ⟨A, c, he, ho, hb⟩
theorem ReadOrdered_live (v : Value) (w : World) (hv : RdB w v [97, 0, 255, 0, 1]) : Calls Try.prog 25 #[v, .int .i64 0] w fun e w' => ∃ A c, e = .returned (.tuple #[.slice A 2 c, .int .i64 5, .int .i64 0]) ∧ OwB w' w.heap.size (.slice A 2 c) [97, 0] ∧ Below w.heap.size w w' :=
  (ReadOrdered_any v _ 0 w hv (by simp)).mono fun e w' ⟨v, he, ho, hb⟩ => by
    rw [c_ro] at he ho
    obtain ⟨A, c, rfl⟩ := ho.sl
    exact ⟨A, c, he, ho, hb⟩
theorem Common_live (v : Value) (w : World) (hv : RdL w v [[97, 98], [97, 99]]) : Calls Try.prog 32 #[v] w fun e w' => e = .returned (.int .i64 1) ∧ Below w.heap.size w w' :=
  (Common_any v _ w hv).mono fun e w' h => by rw [c_com] at h; exact h
theorem Between_live (u v : Value) (w : World) (hu : RdB w u [97, 98, 99]) (hv : RdB w v [97, 98, 120]) : Calls Try.prog 34 #[u, v] w fun e w' => ∃ A c, e = .returned (.tuple #[.slice A 3 c, .int .i64 0]) ∧ OwB w' w.heap.size (.slice A 3 c) [97, 98, 120] ∧ Below w.heap.size w w' :=
  (Between_any u v _ _ w hu hv (by simp)).mono fun e w' ⟨v, he, ho, hb⟩ => by
    rw [c_bt.2] at he; rw [c_bt.1] at ho
    obtain ⟨A, c, rfl⟩ := ho.sl
    exact ⟨A, c, he, ho, hb⟩
theorem Behind_live (v : Value) (w : World) (hv : RdB w v [97, 98]) : Calls Try.prog 36 #[v] w fun e w' => ∃ A c, e = .returned (.tuple #[.slice A 2 c, .bool true]) ∧ OwB w' w.heap.size (.slice A 2 c) [97, 99] ∧ Below w.heap.size w w' :=
  (Behind_any v _ w hv (by simp)).mono fun e w' ⟨v, he, ho, hb⟩ => by
    rw [c_bh.2] at he; rw [c_bh.1] at ho
    obtain ⟨A, c, rfl⟩ := ho.sl
    exact ⟨A, c, he, ho, hb⟩
theorem Sum_live (v : Value) (w : World) (hv : RdL w v [[97]]) : Calls Try.prog 39 #[v] w fun e w' => e = .returned (.int .u32 3251651376) ∧ Below w.heap.size w w' :=
  (Sum_any v _ w hv).mono fun e w' h => by
    rw [show ([[97]] : List (List UInt8)).flatten = [97] from rfl, c_sum] at h; exact h
theorem RdL.two {w : World} {u v : Value} {a b : List UInt8} (ha : RdB w u a) (hb : RdB w v b) (T : TypeId) : RdL (w.alloc (.cells #[u, v] T)) (.slice (some ⟨w.heap.size, 0, none⟩) 2 2) [a, b] :=
  ⟨[u, v], Rd.lit w [u, v] T (by simp [maxLen]), rfl, fun i hi => by
    rcases (by simp at hi; omega : i = 0 ∨ i = 1) with rfl | rfl
    · exact ⟨u, rfl, ha.alloc _⟩
    · exact ⟨v, rfl, hb.alloc _⟩⟩
theorem conv_id (w : World) (C : Array Value) (n c g : Nat) (hg : g = w.heap.size) : (convert 24 24 (.slice (some ⟨g, 0, none⟩) n c)).run Try.prog (w.alloc (.cells C 5)) = .ok (.slice (some ⟨g, 0, none⟩) n c) (w.alloc (.cells C 5 (C.size, C.size + 1))) := by
  subst hg; exact Lib.run_convert_bytes_const w _ _ C n c Try.underlying24 Try.underlying5
theorem RdB.litm (w : World) (l : List UInt8) (cells : Array Value) (T : TypeId) (fr : Nat × Nat) (n : Nat) (h : cells = (bvs l).toArray) (hn : l.length = n) (hm : n ≤ maxLen) : RdB (w.alloc (.cells cells T fr)) (.slice (some ⟨w.heap.size, 0, none⟩) n n) l := by
  subst h; subst hn
  refine ⟨_, _, rfl, Nat.le_refl _, hm, fun j hj => ⟨_, rfl, ?_⟩⟩
  rw [add_row, Nat.zero_add, World.cell?_alloc_mark]
  have := bvs_get' l j hj
  simpa using this
set_option maxRecDepth 100000 in
set_option maxHeartbeats 4000000 in
theorem live_any (w : World) : Calls Try.prog 13 #[] w fun e w' => e = .returned (.bool true) ∧ Below w.heap.size w w' := by
  go_enter Try.func13, Try.ntmps13
  go_wp2_with fail
  refine (Fixed_live _).mono ?_
  rintro e w1 ⟨A1, c1, rfl, o1, hb⟩
  go_wp2_with (first
    | (go_at_call 21; refine (ReadFixed_live _ _ o1.rd).mono ?_; rintro e w2 ⟨rfl, rfl⟩)
    | fail)
  refine (Uint_live _).mono ?_
  rintro e w2 ⟨A2, c2, rfl, o2, hw⟩
  replace hb := hb.trans (hw.mono hb.size)
  clear hw o1
  go_wp2_with (first
    | (go_at_call 23; refine (ReadUint_live _ _ o2.rd).mono ?_; rintro e w3 ⟨rfl, rfl⟩)
    | fail)
  refine (Ordered_live _ _ (RdB.lit w2 [97, 0] _ 5 2 rfl rfl (by decide))).mono ?_
  rintro e w3 ⟨A3, c3, rfl, o3, hw⟩
  replace hb := (hb.alloc hb.size (.cells #[.int .u8 97, .int .u8 0] 5)).trans (hw.mono (by have := hb.size; simp; omega))
  clear hw o2
  go_wp2_with fail
  refine (ReadOrdered_live _ _ o3.rd).mono ?_
  rintro e w4 ⟨A4, c4, rfl, o4, hw⟩
  have o4 := o4.low hb.size
  replace hb := hb.trans (hw.mono hb.size)
  clear hw o3
  have cid := conv_id
  go_wp2_with fail
  have r1 := (RdB.litm w4 [97, 98] #[.int .u8 97, .int .u8 98] 5 (2, 3) 2 rfl rfl (by decide)).alloc (.cells #[.int .u8 97, .int .u8 99] 5 (2, 3))
  have r2 := RdB.litm (w4.alloc (.cells #[.int .u8 97, .int .u8 98] 5 (2, 3))) [97, 99] #[.int .u8 97, .int .u8 99] 5 (2, 3) 2 rfl rfl (by decide)
  rw [World.size_alloc] at r2
  have rl := RdL.two r1 r2 24
  simp only [World.size_alloc] at rl
  refine (Common_live _ _ rl).mono ?_
  rintro e w5 ⟨rfl, hw⟩
  have k5 := ((((Below.refl w4.heap.size w4).alloc (Nat.le_refl _) (.cells #[.int .u8 97, .int .u8 98] 5 (2, 3))).alloc (by simp) (.cells #[.int .u8 97, .int .u8 99] 5 (2, 3))).alloc (by simp; omega) (.cells #[.slice (some ⟨w4.heap.size, 0, none⟩) 2 2, .slice (some ⟨w4.heap.size + 1, 0, none⟩) 2 2] 24)).trans (hw.mono (by simp; omega))
  have o5 := o4.below' k5 (Nat.le_refl _)
  replace hb := hb.trans (k5.mono hb.size)
  clear hw k5 o4 r1 r2 rl
  go_wp2_with fail
  have r1 := (RdB.litm w5 [97, 98, 99] #[.int .u8 97, .int .u8 98, .int .u8 99] 5 (3, 4) 3 rfl rfl (by decide)).alloc (.cells #[.int .u8 97, .int .u8 98, .int .u8 120] 5 (3, 4))
  have r2 := RdB.litm (w5.alloc (.cells #[.int .u8 97, .int .u8 98, .int .u8 99] 5 (3, 4))) [97, 98, 120] #[.int .u8 97, .int .u8 98, .int .u8 120] 5 (3, 4) 3 rfl rfl (by decide)
  rw [World.size_alloc] at r2
  refine (Between_live _ _ _ r1 r2).mono ?_
  rintro e w6 ⟨A6, c6, rfl, o6, hw⟩
  have k6 := (((Below.refl w5.heap.size w5).alloc (Nat.le_refl _) (.cells #[.int .u8 97, .int .u8 98, .int .u8 99] 5 (3, 4))).alloc (by simp) (.cells #[.int .u8 97, .int .u8 98, .int .u8 120] 5 (3, 4))).trans (hw.mono (by simp; omega))
  replace o5 := o5.below' k6 (Nat.le_refl _)
  replace o6 := o6.low (b := w.heap.size) (by have := hb.size; simp; omega)
  replace hb := hb.trans (k6.mono hb.size)
  clear hw k6 r1 r2
  go_wp2_with fail
  have r1 := RdB.litm w6 [97, 98] #[.int .u8 97, .int .u8 98] 5 (2, 3) 2 rfl rfl (by decide)
  refine (Behind_live _ _ r1).mono ?_
  rintro e w7 ⟨A7, c7, rfl, o7, hw⟩
  have k7 := ((Below.refl w6.heap.size w6).alloc (Nat.le_refl _) (.cells #[.int .u8 97, .int .u8 98] 5 (2, 3))).trans (hw.mono (by simp))
  replace o5 := o5.below' k7 (Nat.le_refl _)
  replace o6 := o6.below' k7 (Nat.le_refl _)
  replace o7 := o7.low (b := w.heap.size) (by have := hb.size; simp; omega)
  replace hb := hb.trans (k7.mono hb.size)
  clear hw k7 r1
  go_wp2_with fail
  have r1 := RdL.one (RdB.lit w7 [97] #[.int .u8 97] 5 1 rfl rfl (by decide)) 24
  rw [World.size_alloc] at r1
  refine (Sum_live _ _ r1).mono ?_
  rintro e w8 ⟨rfl, hw⟩
  have k8 := (((Below.refl w7.heap.size w7).alloc (Nat.le_refl _) (.cells #[.int .u8 97] 5)).alloc (by simp) (.cells #[.slice (some ⟨w7.heap.size, 0, none⟩) 1 1] 24)).trans (hw.mono (by simp; omega))
  replace o5 := o5.below' k8 (Nat.le_refl _)
  replace o6 := o6.below' k8 (Nat.le_refl _)
  replace o7 := o7.below' k8 (Nat.le_refl _)
  replace hb := hb.trans (k8.mono hb.size)
  clear hw k8 r1 cid
  have q5 := run_B_string o5.rd
  have q6 := run_B_string o6.rd
  have q7 := run_B_string o7.rd
  go_wp2_with fail
  go_ret
  exact ⟨rfl, hb⟩
end Go.Proofs.Ytijlebjldnhnaaa
