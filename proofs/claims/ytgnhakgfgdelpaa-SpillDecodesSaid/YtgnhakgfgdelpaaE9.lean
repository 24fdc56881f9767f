/- espalierlaw09.SpillDecodes: the statement 'SpillDecodesSaid' is proved: whatever the input, the law returns true and the input reads as it did. -/
import Derived.Test.YtgnhakgfgdelpaaE1
import Derived.Test.YtgnhakgfgdelpaaE2
import Derived.Test.YtgnhakgfgdelpaaE5
import Derived.Test.YtgnhakgfgdelpaaE7
import Derived.Test.YtgnhakgfgdelpaaE8
import Derived.Below
import Derived.ChangeSame
import Derived.WalkKit
import Derived.ProofKit
import Derived.OpenShut
import Derived.SizedLaws
import Derived.Carry
import Derived.Lib.SmallJoins
import Derived.WideKeyArgs
import Derived.Test.YtgnhakgfgdelpaaRows
import Derived.JoinedCond
-- espalierlaw09.SpillEncodes: the walk.
namespace Go.Proofs.Ytgnhakgfgdelpaa
open Go.RowKit
section
variable {w0 w : World} {L : List Ent}
theorem SEncode_sep (h : Sep w0 w L) (next : Int) {va : Value} {d : List UInt8} {P : Int} (hP : i64w P) (hd : RdB w va d) :
    Calls Try.prog 15 #[.int .i64 next, va, .int .i64 P] w fun e w' => ∃ u, e = .returned (.tuple #[u, .int .i64 (spZ next d P)]) ∧ Sep w0 w' (bytesE u (spL next d P) :: L) := by
  refine (SEncode_any next va d P hP w hd).mono ?_
  rintro e w' ⟨u, rfl, ho, hB⟩
  exact ⟨u, rfl, h.bytes hB ho (Nat.le_refl _)⟩
theorem RSEncode_sep (h : Sep w0 w L) (next : Int) {va : Value} {d : List UInt8} {P : Int} (hd : RdB w va d) :
    Calls Try.prog 12 #[.int .i64 next, va, .int .i64 P] w fun e w' => ∃ u, e = .returned (.tuple #[u, .int .i64 (spZ next d P)]) ∧ Sep w0 w' (bytesE u (spL next d P) :: L) := by
  refine (RSEncode_any next va d P w hd).mono ?_
  rintro e w' ⟨u, rfl, ho, hB⟩
  exact ⟨u, rfl, h.bytes hB ho (Nat.le_refl _)⟩
theorem Turned_sep (h : Sep w0 w L) {v : Value} {l : List UInt8} (hv : RdB w v l) (hl : l.length ≤ 140737488355328) :
    Calls Try.prog 13 #[v] w fun e w' => ∃ u, e = .returned u ∧ Sep w0 w' (bytesE u (turnedF l) :: L) := by
  refine (Turned_any v l w hv hl).mono ?_
  rintro e w' ⟨u, rfl, ho, hB⟩
  exact ⟨u, rfl, h.bytes hB ho (Nat.le_refl _)⟩
end
theorem splice_full (a b m : List UInt8) (h : a.length = b.length) : splice (a ++ m) 0 b = b ++ m := by
  have e := splice_ov a b m
  have e2 : ovF a b = b := by unfold ovF; rw [h, Nat.min_self, List.take_length, List.drop_eq_nil_of_le (by omega), List.append_nil]
  rw [h, Nat.min_self, List.take_length] at e
  rw [e, e2]
set_option maxRecDepth 100000 in
set_option maxHeartbeats 8000000 in
theorem encodes_any (nx : Int) (vd : Value) (b : List UInt8) (P : Int) (hnx : -9223372036854775808 ≤ nx ∧ nx ≤ 9223372036854775807) (hP : -9223372036854775808 ≤ P ∧ P ≤ 9223372036854775807) (w : World) (hb : RdB w vd b) (hbl : b.length ≤ 140737488351232) :
    Calls Try.prog 5 #[.int .i64 nx, vd, .int .i64 P] w fun e w' => e = .returned (.bool true) ∧ Below w.heap.size w w' := by
  go_enter Try.func5, Try.ntmps5
  go_upto_region 4 with (first
    | (go_at_call 9; (with_reducible refine (awake_any _).mono ?_); rintro e w1 ⟨rfl, hw1⟩)
    | fail)
  have HB := Lib.hid (hb.below hw1 (Nat.le_refl _))
  clear hb
  obtain ⟨n, hn⟩ : ∃ n, b.length = n := ⟨_, rfl⟩
  rw [hn] at hbl
  have HN := Lib.hid hn
  have htl : (turnedF b).length = n := by rw [turnedF_length, hn]
  have HTL := Lib.hid htl
  clear hn htl
  have hS1 := Sep.start w1
  have hE := RSEncode_sep hS1 nx (P := P) HB.out
  generalize hz1 : spZ nx b P = z1 at hE
  have HZ1 := Lib.hid hz1
  clear hz1
  go_upto_region 5 with (first | (go_at_call 12; (with_reducible refine hE.mono ?_); rintro e w2 ⟨uw, rfl, hS2⟩) | fail)
  clear hS1 hE
  have hT := Turned_sep hS2 (hS2.rd (v := w1) (by simp) HB.out) (by rw [HN.out]; omega)
  go_upto_region 6 with (first | (go_at_call 13; (with_reducible refine hT.mono ?_); rintro e w3 ⟨ut, rfl, hS3⟩) | fail)
  clear hS2 hT
  have hE := RSEncode_sep hS3 nx (P := P) (OwB.rd (hS3.head : OwB w3 0 ut (turnedF b)))
  generalize hz2 : spZ nx (turnedF b) P = z2 at hE
  have HZ2 := Lib.hid hz2
  clear hz2
  go_upto_region 7 with (first | (go_at_call 12; (with_reducible refine hE.mono ?_); rintro e w4 ⟨uo, rfl, hS4⟩) | fail)
  clear hS3 hE
  have hL := LentB_sep hS4 (l := b) (hS4.rd (v := w1) (by simp) HB.out) (by rw [HN.out]; omega)
  rw [HN.out] at hL
  go_upto_region 8 with (first | (go_at_call 14; (with_reducible refine hL.mono ?_); rintro e w5 ⟨g1, rfl, hS5⟩) | fail)
  clear hS4 hL
  have hE := SEncode_sep hS5 nx hP (lentC_rd0 hS5.head HN.out)
  rw [HZ1.out] at hE
  go_upto_region 9 with (first | (go_at_call 15; (with_reducible refine hE.mono ?_); rintro e w6 ⟨ua, rfl, hS6⟩) | fail)
  clear hS5 hE
  have hE := SEncode_sep hS6 nx hP (lentC_rd0 hS6.tail.head HN.out)
  rw [HZ1.out] at hE
  go_upto_region 10 with (first | (go_at_call 15; (with_reducible refine hE.mono ?_); rintro e w7 ⟨ub, rfl, hS7⟩) | fail)
  clear hS6 hE
  have s1 := run_B_string (lentC_rd0 hS7.tail.tail.head HN.out)
  have s2 := run_B_string (hS7.rd (v := w1) (by simp) HB.out)
  go_upto_region 11 with (fail)
  clear s1 s2
  have hSB : Sep w1 w7 (bytesE (.slice (some ⟨g1, 0, none⟩) (n + 9) (n + 9)) (b ++ marks9) :: [bytesE ub (spL nx b P), bytesE ua (spL nx b P), bytesE uo (spL nx (turnedF b) P), bytesE ut (turnedF b), bytesE uw (spL nx b P), oldE w1]) := hS7.sw [_, _]
  have hrc : RdB w7 ut (turnedF b) := OwB.rd (hSB.of_mem (E := bytesE ut (turnedF b)) (by simp))
  have hbh : OwB w7 0 (.slice (some ⟨g1, 0, none⟩) (n + 9) (n + 9)) (b ++ marks9) := hSB.head
  have HLB : Hid ((b ++ marks9).length = n + 9) := Lib.hid (by rw [List.length_append, HN.out]; rfl)
  clear hS7
  go_upto_region 12 with (first
    | ((with_reducible refine at_copy ?_); refine wp_copy_At rfl (.tmp 63) (.tmp 64) rfl 0 g1 (n + 9) (n + 9) 0 _ n (n + 9) rfl (fun _ => rfl) _ hbh HLB.out (by omega) _ (turnedF b) rfl hrc ?_; intro w8 hc8 hg8)
    | fail)
  have hov : splice (b ++ marks9) 0 ((turnedF b).take (min (turnedF b).length n)) = turnedF b ++ marks9 := by
    rw [HTL.out, Nat.min_self, List.take_of_length_le (by rw [HTL.out]; exact Nat.le_refl _)]
    exact splice_full _ _ _ (by rw [HN.out, HTL.out])
  rw [hov] at hc8
  have hS8 : Sep w1 w8 (bytesE (.slice (some ⟨g1, 0, none⟩) (n + 9) (n + 9)) (turnedF b ++ marks9) :: [bytesE ub (spL nx b P), bytesE ua (spL nx b P), bytesE uo (spL nx (turnedF b) P), bytesE ut (turnedF b), bytesE uw (spL nx b P), oldE w1]) := hSB.upd (E' := bytesE (.slice (some ⟨g1, 0, none⟩) (n + 9) (n + 9)) (turnedF b ++ marks9)) (Turn.of_grown hg8 (fun k e => e)) hc8 (fun g hg => ⟨.inl hg, (Own.lt hc8 g hg).2⟩)
  clear hov hbh hrc hSB hc8 hg8
  have hE := SEncode_sep hS8 nx hP (lentC_rd0 hS8.head HTL.out)
  rw [HZ2.out] at hE
  go_upto_region 13 with (first | (go_at_call 15; (with_reducible refine hE.mono ?_); rintro e w9 ⟨uc, rfl, hS9⟩) | fail)
  clear hS8 hE
  have hSA : Sep w1 w9 (bytesE (.slice (some ⟨g1, 0, none⟩) (n + 9) (n + 9)) (turnedF b ++ marks9) :: [bytesE uc (spL nx (turnedF b) P), bytesE ub (spL nx b P), bytesE ua (spL nx b P), bytesE uo (spL nx (turnedF b) P), bytesE ut (turnedF b), bytesE uw (spL nx b P), oldE w1]) := hS9.sw [_]
  have hA := AsLentB_sep hSA HTL.out (OwB.rd (hSA.of_mem (E := bytesE ut (turnedF b)) (by simp))) (by omega)
  go_upto_region 14 with (first | (go_at_call 16; (with_reducible refine hA.mono ?_); rintro e w10 ⟨rfl, hS10⟩) | fail)
  clear hS9 hSA hA
  have s1 := run_B_string (OwB.rd (hS10.of_mem (E := bytesE uc (spL nx (turnedF b) P)) (by simp)))
  have s2 := run_B_string (OwB.rd (hS10.of_mem (E := bytesE ub (spL nx b P)) (by simp)))
  have s3 := run_B_string (OwB.rd (hS10.of_mem (E := bytesE ua (spL nx b P)) (by simp)))
  have s4 := run_B_string (OwB.rd (hS10.of_mem (E := bytesE uo (spL nx (turnedF b) P)) (by simp)))
  have s5 := run_B_string (OwB.rd (hS10.of_mem (E := bytesE uw (spL nx b P)) (by simp)))
  go_upto_region 16 with (fail)
  clear s1 s2 s3 s4 s5
  have hlm : ∀ d, (spL nx d P).length ≤ 65536 := fun d => spL_length nx d P
  have HLM := Lib.hid hlm
  clear hlm
  have hBk := hS10.book
  go_upto_region 17 with (fail)
  generalize w10.alloc (.cells #[.slice none 0 0] 34) = w11 at *
  generalize w10.heap.size = bb at *
  have hT : Sep w1 w11 (bookE bb (.slice none 0 0) [] :: bytesE ua (spL nx b P) :: [bytesE uc (spL nx (turnedF b) P), bytesE ub (spL nx b P), bytesE uo (spL nx (turnedF b) P), bytesE ut (turnedF b), bytesE uw (spL nx b P), oldE w1]) := hBk.sn [_, _]
  have hT := Take_sep hT (by simp)
  go_upto_region 18 with (first | (go_at_call 17; (with_reducible refine hT.mono ?_); rintro e w12 ⟨⟨_, rfl⟩, _, hS12⟩) | fail)
  clear hT hBk hS10
  have hT : Sep w1 w12 (bookE bb _ ([] ++ [(ua, spL nx b P)]) :: bytesE ub (spL nx b P) :: [bytesE uc (spL nx (turnedF b) P), bytesE uo (spL nx (turnedF b) P), bytesE ut (turnedF b), bytesE uw (spL nx b P), oldE w1]) := hS12.sn [_]
  have hT := Take_sep hT (by simp)
  go_upto_region 19 with (first | (go_at_call 17; (with_reducible refine hT.mono ?_); rintro e w13 ⟨⟨_, rfl⟩, _, hS13⟩) | fail)
  clear hT hS12
  have hT := Take_sep hS13 (by simp)
  go_upto_region 20 with (first | (go_at_call 17; (with_reducible refine hT.mono ?_); rintro e w14 ⟨⟨_, rfl⟩, _, hS14⟩) | fail)
  clear hT hS13
  have hO := Owned_sep hS14 (by simp) (fun p hp => by
    simp only [List.nil_append, List.cons_append, List.mem_cons, List.not_mem_nil, or_false] at hp
    have h1 := HLM.out b
    have h2 := HLM.out (turnedF b)
    rcases hp with rfl | rfl | rfl <;> simp only <;> omega)
  go_wp2_with (first | (go_at_call 18; (with_reducible refine hO.mono ?_); rintro e w15 ⟨rfl, hS15⟩) | fail)
  go_ret
  exact ⟨rfl, hw1.trans ((hS15.belowOld (v := w1) (by simp)).mono hw1.size)⟩
end Go.Proofs.Ytgnhakgfgdelpaa

-- espalierref01.ReadFixed of bytes that are there: the walk.
namespace Go.Proofs.Ytgnhakgfgdelpaa
open Go.RowKit
set_option maxRecDepth 20000 in
set_option maxHeartbeats 2000000 in
theorem RReadFixed_any (v : Value) (l : List UInt8) (a k : Nat) (h1 : 1 ≤ k) (h8 : k ≤ 8) (hal : a + k ≤ l.length) (w : World) (hv : RdB w v l) :
    Calls Try.prog 40 #[v, .int .i64 (a : Int), .int .i64 (k : Int)] w fun e w' => e = .returned (.tuple #[.int .u64 (numF ((l.drop a).take k) : Nat), .int .i64 0]) ∧ w = w' := by
  obtain ⟨A, c, rfl, hm⟩ := hv.form
  go_enter Try.func40, Try.ntmps40
  go_wp2_with fail
  go_loopw [8, 9] (fun n i wr => ∃ (j N : Nat), i = .int .i64 ((a : Int) + (j : Int)) ∧ n = .int .u64 (N : Int) ∧ j ≤ k ∧ Hid (N = numF ((l.drop a).take j)) ∧ w = wr)
    (fun _ i _ => a + k - (intOf i).toNat)
  case atStart => exact ⟨0, 0, by simp, rfl, Nat.zero_le _, Lib.hid (by simp [numF]), rfl⟩
  case round =>
    obtain ⟨j, N, rfl, rfl, hj, HN, rfl⟩ := hrel
    by_cases hlt : j < k
    · have hjl : a + j < l.length := by omega
      obtain ⟨ad, rfl, hc⟩ := hv.at_ hjl
      have hdl : j < (l.drop a).length := by simp; omega
      have hn2 : Hid (numF ((l.drop a).take (j + 1)) = N * 256 + l[a + j].toNat) := Lib.hid (by
        rw [← List.take_append_getElem hdl, numF_snoc, ← HN.out, List.getElem_drop])
      have hN7 : N < 72057594037927936 := by rw [HN.out]; exact numF_lt7 _ (by simp; omega)
      have hxb : l[a + j].toNat < 256 := l[a + j].toNat_lt
      generalize l[a + j].toNat = x at hc hn2 hxb
      have i1 : (a : Int) + (j : Int) < (l.length : Int) := by omega
      go_wp2_with fail
      go_roundw
      case rel => exact ⟨j + 1, N * 256 + x, by go_num, by congr 1; omega, by omega, Lib.hid hn2.out.symm, trivial⟩
      case measure => simp [intOf]; omega
    · obtain rfl : j = k := by omega
      go_wp2_with fail
      go_ret2
      rw [← HN.out]; exact ⟨rfl, rfl⟩
end Go.Proofs.Ytgnhakgfgdelpaa

-- espalierref09.Decode: the walk.
namespace Go.Proofs.Ytgnhakgfgdelpaa
open Go.RowKit
set_option maxRecDepth 100000 in
set_option maxHeartbeats 8000000 in
theorem RSDecode_any (v : Value) (b : List UInt8) (w : World) (hv : RdB w v b) : Calls Try.prog 19 #[v] w (SDecAt w b) := by
  obtain ⟨A, c, rfl, hm⟩ := hv.form
  have hPa := fun W => IsPage_any (b.length : Int) W
  cases hp : isPowB (b.length : Int) with
  | false =>
    have HN : Hid (decS b = none) := by show _ = _; unfold decS; rw [if_neg (by rw [hp]; simp)]
    rw [hp] at hPa
    clear hp
    go_enter Try.func19, Try.ntmps19
    go_wp2_with (first | (go_at_call 34; (with_reducible refine (hPa _).mono ?_); rintro e w1 ⟨rfl, rfl⟩) | fail)
    go_ret3
    exact SDecAt.bad HN.out (Below.refl _ _)
  | true =>
    obtain ⟨hP1, hP2⟩ := isPowB_range hp
    have hb1 : 512 ≤ b.length := by omega
    have hb2 : b.length ≤ 65536 := by omega
    have hD : decS b = if numAt b 8 4 + 16 ≤ b.length ∧ spZ ((numAt b 4 4 : Nat) : Int) ((b.drop 12).take (numAt b 8 4)) (b.length : Int) = 0 ∧ laidS ((numAt b 4 4 : Nat) : Int) ((b.drop 12).take (numAt b 8 4)) b.length = b then some (((numAt b 4 4 : Nat) : Int), (b.drop 12).take (numAt b 8 4)) else none := by
      unfold decS; rw [hp]; simp
    rw [hp] at hPa
    clear hp
    have hN1 : Calls Try.prog 40 #[.slice A b.length c, .int .i64 4, .int .i64 4] w fun e w' => e = .returned (.tuple #[.int .u64 (numAt b 4 4 : Nat), .int .i64 0]) ∧ w = w' := RReadFixed_any (.slice A b.length c) b 4 4 (by omega) (by omega) (by omega) w hv
    have hN2 : Calls Try.prog 40 #[.slice A b.length c, .int .i64 8, .int .i64 4] w fun e w' => e = .returned (.tuple #[.int .u64 (numAt b 8 4 : Nat), .int .i64 0]) ∧ w = w' := RReadFixed_any (.slice A b.length c) b 8 4 (by omega) (by omega) (by omega) w hv
    have hl1 := num4_lt b 4
    have hl2 := num4_lt b 8
    generalize numAt b 4 4 = x at *
    generalize numAt b 8 4 = n at *
    have w1 : IntKind.i64.wrap (x : Int) = (x : Int) := by rw [IntKind.wrap_i64]; omega
    have w2 : IntKind.i64.wrap (n : Int) = (n : Int) := by rw [IntKind.wrap_i64]; omega
    have w3 : IntKind.i64.wrap ((b.length : Int) - 16) = (b.length : Int) - 16 := by rw [IntKind.wrap_i64]; omega
    have w4 : IntKind.i64.wrap (12 + (n : Int)) = 12 + (n : Int) := by rw [IntKind.wrap_i64]; omega
    have HD := Lib.hid hD
    clear hD
    by_cases h1 : n + 16 ≤ b.length
    · have i1 : ¬ (b.length : Int) - 16 < (n : Int) := by omega
      have i2 : (12 : Int) ≤ 12 + (n : Int) := by omega
      have i3 : (12 : Int) + (n : Int) ≤ (b.length : Int) := by omega
      have i4 : (12 : Int) ≤ (b.length : Int) := by omega
      have hdl : ((b.drop 12).take n).length = n := by rw [List.length_take, List.length_drop]; omega
      obtain ⟨A2, c2, q2', hr2⟩ := hv.run_lh 12 (12 + n) (by omega) (by omega)
      rw [show (b.take (12 + n)).drop 12 = (b.drop 12).take n by rw [List.drop_take, show 12 + n - 12 = n by omega]] at hr2
      rw [show 12 + n - 12 = n by omega] at q2' hr2
      have q2 : ∀ w', (Instr.slice 25 (.slice A b.length c) (some (.int .i64 12)) (some (.int .i64 (12 + (n : Int)))) none).run Try.prog w' = .ok (.slice A2 n c2) w' := fun w' => q2' w'
      clear q2'
      have HDL := Lib.hid hdl
      generalize (b.drop 12).take n = d at *
      have hE := fun (W : World) (u : Value) (hu : RdB W u d) => RSEncode_any (x : Int) u d (b.length : Int) W hu
      have hpl : spL (x : Int) d (b.length : Int) = if spZ (x : Int) d (b.length : Int) = 0 then laidS (x : Int) d b.length else [] := by unfold spL; rfl
      by_cases hz : spZ (x : Int) d (b.length : Int) = 0
      · rw [if_pos hz] at hpl
        rw [hz, hpl] at hE
        by_cases heq : laidS (x : Int) d b.length = b
        · have HS : Hid (decS b = some ((x : Int), d)) := by show _ = _; rw [HD.out, if_pos ⟨h1, hz, heq⟩]
          rw [heq] at hE
          clear HD hz hpl heq
          go_enter Try.func19, Try.ntmps19
          go_upto_region 11 with (first
            | (go_at_call 34; (with_reducible refine (hPa _).mono ?_); rintro e w1 ⟨rfl, rfl⟩)
            | (go_at_call 40; (with_reducible refine hN1.mono ?_); rintro e w1 ⟨rfl, rfl⟩)
            | (go_at_call 40; (with_reducible refine hN2.mono ?_); rintro e w1 ⟨rfl, rfl⟩)
            | (at_builtin; refine wp_append_B rfl _ (.tmp 39) rfl _ _ [] rfl (OwB.nil _ _) _ d rfl hr2 (by rw [HDL.out, List.length_nil]; omega) (Nat.le_refl _) ?_; intro u3 w3 ho3 hg3 hk3; have hB3 := (Below.refl _ _).grown hg3 (Nat.le_refl _) (fun q hq => by cases hq); rw [List.nil_append] at ho3)
            | (go_at_call 12; (with_reducible refine (hE _ _ ho3.rd).mono ?_); rintro e w4 ⟨u4, rfl, ho4, hB4⟩)
            | fail)
          have s1 := run_B_string ho4.rd
          have s2 := run_B_string ((hv.below hB3 (Nat.le_refl _)).below hB4 (Nat.le_refl _))
          go_wp2_with fail
          go_ret3
          obtain ⟨k1, k2, k3⟩ := dec_some HS.out
          exact ⟨u3, by rw [k1, k3]; first | done | rfl, by rw [k2]; exact Own.below' ho3 hB4 (Nat.le_refl _), hB3.trans (hB4.mono hB3.size)⟩
        · have HN : Hid (decS b = none) := by show _ = _; rw [HD.out, if_neg (fun h => heq h.2.2)]
          have hbe : (laidS (x : Int) d b.length == b) = false := beq_eq_false_iff_ne.2 heq
          generalize laidS (x : Int) d b.length = l2 at *
          clear HD hz hpl
          go_enter Try.func19, Try.ntmps19
          go_upto_region 11 with (first
            | (go_at_call 34; (with_reducible refine (hPa _).mono ?_); rintro e w1 ⟨rfl, rfl⟩)
            | (go_at_call 40; (with_reducible refine hN1.mono ?_); rintro e w1 ⟨rfl, rfl⟩)
            | (go_at_call 40; (with_reducible refine hN2.mono ?_); rintro e w1 ⟨rfl, rfl⟩)
            | (at_builtin; refine wp_append_B rfl _ (.tmp 39) rfl _ _ [] rfl (OwB.nil _ _) _ d rfl hr2 (by rw [HDL.out, List.length_nil]; omega) (Nat.le_refl _) ?_; intro u3 w3 ho3 hg3 hk3; have hB3 := (Below.refl _ _).grown hg3 (Nat.le_refl _) (fun q hq => by cases hq); rw [List.nil_append] at ho3)
            | (go_at_call 12; (with_reducible refine (hE _ _ ho3.rd).mono ?_); rintro e w4 ⟨u4, rfl, ho4, hB4⟩)
            | fail)
          have s1 := run_B_string ho4.rd
          have s2 := run_B_string ((hv.below hB3 (Nat.le_refl _)).below hB4 (Nat.le_refl _))
          go_wp2_with fail
          go_ret3
          exact SDecAt.bad HN.out (hB3.trans (hB4.mono hB3.size))
      · have HN : Hid (decS b = none) := by show _ = _; rw [HD.out, if_neg (fun h => hz h.2.1)]
        have e1 : (spZ (x : Int) d (b.length : Int) != 0) = true := by simp only [bne, beq_eq_false_iff_ne.2 hz]; rfl
        generalize spZ (x : Int) d (b.length : Int) = z at *
        clear HD hz hpl
        go_enter Try.func19, Try.ntmps19
        go_wp2_with (first
            | (go_at_call 34; (with_reducible refine (hPa _).mono ?_); rintro e w1 ⟨rfl, rfl⟩)
            | (go_at_call 40; (with_reducible refine hN1.mono ?_); rintro e w1 ⟨rfl, rfl⟩)
            | (go_at_call 40; (with_reducible refine hN2.mono ?_); rintro e w1 ⟨rfl, rfl⟩)
            | (at_builtin; refine wp_append_B rfl _ (.tmp 39) rfl _ _ [] rfl (OwB.nil _ _) _ d rfl hr2 (by rw [HDL.out, List.length_nil]; omega) (Nat.le_refl _) ?_; intro u3 w3 ho3 hg3 hk3; have hB3 := (Below.refl _ _).grown hg3 (Nat.le_refl _) (fun q hq => by cases hq); rw [List.nil_append] at ho3)
            | (go_at_call 12; (with_reducible refine (hE _ _ ho3.rd).mono ?_); rintro e w4 ⟨u4, rfl, ho4, hB4⟩)
            | fail)
        go_ret3
        exact SDecAt.bad HN.out (hB3.trans (hB4.mono hB3.size))
    · have i1 : (b.length : Int) - 16 < (n : Int) := by omega
      have HN : Hid (decS b = none) := by show _ = _; rw [HD.out, if_neg (fun h => h1 h.1)]
      clear HD
      go_enter Try.func19, Try.ntmps19
      go_wp2_with (first
            | (go_at_call 34; (with_reducible refine (hPa _).mono ?_); rintro e w1 ⟨rfl, rfl⟩)
            | (go_at_call 40; (with_reducible refine hN1.mono ?_); rintro e w1 ⟨rfl, rfl⟩)
            | (go_at_call 40; (with_reducible refine hN2.mono ?_); rintro e w1 ⟨rfl, rfl⟩)
            | fail)
      go_ret3
      exact SDecAt.bad HN.out (Below.refl _ _)
end Go.Proofs.Ytgnhakgfgdelpaa

-- espalierlaw09.SpillDecodes: the walk.
namespace Go.Proofs.Ytgnhakgfgdelpaa
open Go.RowKit
section
variable {w0 w : World} {L : List Ent}
theorem SDecode_sep (h : Sep w0 w L) {v : Value} {b : List UInt8} (hv : RdB w v b) {n z : Int} {d : List UInt8} (hn : decN b = n) (hd : decD b = d) (hz : decZ b = z) :
    Calls Try.prog 20 #[v] w fun e w' => ∃ u, e = .returned (.tuple #[.int .i64 n, u, .int .i64 z]) ∧ Sep w0 w' (bytesE u d :: L) := by
  refine (SDecode_any v b w hv).mono ?_
  rintro e w' ⟨u, rfl, ho, hB⟩
  rw [hn, hz]
  rw [hd] at ho
  exact ⟨u, rfl, h.bytes hB ho (Nat.le_refl _)⟩
theorem RSDecode_sep (h : Sep w0 w L) {v : Value} {b : List UInt8} (hv : RdB w v b) {n z : Int} {d : List UInt8} (hn : decN b = n) (hd : decD b = d) (hz : decZ b = z) :
    Calls Try.prog 19 #[v] w fun e w' => ∃ u, e = .returned (.tuple #[.int .i64 n, u, .int .i64 z]) ∧ Sep w0 w' (bytesE u d :: L) := by
  refine (RSDecode_any v b w hv).mono ?_
  rintro e w' ⟨u, rfl, ho, hB⟩
  rw [hn, hz]
  rw [hd] at ho
  exact ⟨u, rfl, h.bytes hB ho (Nat.le_refl _)⟩
end
theorem decD_length (b : List UInt8) : (decD b).length ≤ 65536 := by
  cases h : decS b with
  | none => rw [(dec_none h).2.1]; simp
  | some nd =>
    obtain ⟨n, d⟩ := nd
    rw [(dec_some h).2.1]
    obtain ⟨-, h1, h2, -, h4⟩ := dec_rng h
    have := (spZ_zero h4).2.2.2.2.2
    omega
/-- What is read is written so again. -/
theorem dec_again {b : List UInt8} (h : decZ b = 0) : spZ (decN b) (decD b) (b.length : Int) = 0 ∧ spL (decN b) (decD b) (b.length : Int) = b := by
  cases hd : decS b with
  | none => rw [(dec_none hd).2.2] at h; cases h
  | some nd =>
    obtain ⟨n, d⟩ := nd
    rw [(dec_some hd).1, (dec_some hd).2.1]
    obtain ⟨-, -, -, h3, h4⟩ := dec_rng hd
    refine ⟨h4, ?_⟩
    unfold spL
    rw [if_pos h4]
    exact h3
theorem decN_rng (b : List UInt8) : i64w (decN b) := by
  unfold i64w
  cases h : decS b with
  | none => rw [(dec_none h).1]; omega
  | some nd =>
    obtain ⟨n, d⟩ := nd
    rw [(dec_some h).1]
    have := (dec_rng h).1
    omega
set_option maxRecDepth 100000 in
set_option maxHeartbeats 8000000 in
theorem decodes_any (vb vc : Value) (b c : List UInt8) (w : World) (hb : RdB w vb b) (hc : RdB w vc c) (hbl : b.length ≤ 140737488351232) (hcl : c.length ≤ 140737488351232) :
    Calls Try.prog 6 #[vb, vc] w fun e w' => e = .returned (.bool true) ∧ Below w.heap.size w w' := by
  go_enter Try.func6, Try.ntmps6
  go_upto_region 4 with (first
    | (go_at_call 9; (with_reducible refine (awake_any _).mono ?_); rintro e w1 ⟨rfl, hw1⟩)
    | fail)
  have HB := Lib.hid (hb.below hw1 (Nat.le_refl _))
  have HC := Lib.hid (hc.below hw1 (Nat.le_refl _))
  clear hb hc
  obtain ⟨n, hn⟩ : ∃ n, b.length = n := ⟨_, rfl⟩
  rw [hn] at hbl
  have HN := Lib.hid hn
  have HOL : Hid ((ovF b c).length = n) := Lib.hid (by rw [ovF_length, hn])
  clear hn
  obtain ⟨N, hN⟩ : ∃ N, decN b = N := ⟨_, rfl⟩
  obtain ⟨D, hD⟩ : ∃ D, decD b = D := ⟨_, rfl⟩
  obtain ⟨Z, hZ⟩ : ∃ Z, decZ b = Z := ⟨_, rfl⟩
  obtain ⟨N2, hN2⟩ : ∃ N, decN (ovF b c) = N := ⟨_, rfl⟩
  obtain ⟨D2, hD2⟩ : ∃ D, decD (ovF b c) = D := ⟨_, rfl⟩
  obtain ⟨Z2, hZ2⟩ : ∃ Z, decZ (ovF b c) = Z := ⟨_, rfl⟩
  have HV := Lib.hid (And.intro hN (And.intro hD hZ))
  have HV2 := Lib.hid (And.intro hN2 (And.intro hD2 hZ2))
  have HDL : Hid (D.length ≤ 65536 ∧ D2.length ≤ 65536) := Lib.hid ⟨by rw [← hD]; exact decD_length b, by rw [← hD2]; exact decD_length _⟩
  clear hN hD hZ hN2 hD2 hZ2
  have hS1 := Sep.start w1
  have hE := RSDecode_sep hS1 HB.out HV.out.1 HV.out.2.1 HV.out.2.2
  go_upto_region 5 with (first | (go_at_call 19; (with_reducible refine hE.mono ?_); rintro e w2 ⟨uw, rfl, hS2⟩) | fail)
  clear hS1 hE
  have hL := LentB_sep hS2 (l := b) (hS2.rd (v := w1) (by simp) HB.out) (by rw [HN.out]; omega)
  rw [HN.out] at hL
  go_upto_region 6 with (first | (go_at_call 14; (with_reducible refine hL.mono ?_); rintro e w3 ⟨g1, rfl, hS3⟩) | fail)
  clear hS2 hL
  have hE := SDecode_sep hS3 (lentC_rd0 hS3.head HN.out) HV.out.1 HV.out.2.1 HV.out.2.2
  go_upto_region 7 with (first | (go_at_call 20; (with_reducible refine hE.mono ?_); rintro e w4 ⟨ux, rfl, hS4⟩) | fail)
  clear hS3 hE
  have hE := SDecode_sep hS4 (lentC_rd0 hS4.tail.head HN.out) HV.out.1 HV.out.2.1 HV.out.2.2
  go_upto_region 8 with (first | (go_at_call 20; (with_reducible refine hE.mono ?_); rintro e w5 ⟨uy, rfl, hS5⟩) | fail)
  clear hS4 hE
  have s1 := run_B_string (lentC_rd0 hS5.tail.tail.head HN.out)
  have s2 := run_B_string (hS5.rd (v := w1) (by simp) HB.out)
  go_upto_region 9 with (fail)
  clear s1 s2
  have hSB : Sep w1 w5 (bytesE (.slice (some ⟨g1, 0, none⟩) (n + 9) (n + 9)) (b ++ marks9) :: [bytesE uy D, bytesE ux D, bytesE uw D, oldE w1]) := hS5.sw [_, _]
  have hrc := hSB.rd (v := w1) (by simp) HC.out
  have hbh : OwB w5 0 (.slice (some ⟨g1, 0, none⟩) (n + 9) (n + 9)) (b ++ marks9) := hSB.head
  have HLB : Hid ((b ++ marks9).length = n + 9) := Lib.hid (by rw [List.length_append, HN.out]; rfl)
  clear hS5
  go_upto_region 10 with (first
    | ((with_reducible refine at_copy ?_); refine wp_copy_At rfl (.tmp 56) (.tmp 57) rfl 0 g1 (n + 9) (n + 9) 0 _ n (n + 9) rfl (fun _ => rfl) _ hbh HLB.out (by omega) _ c rfl hrc ?_; intro w6 hc6 hg6)
    | fail)
  have hov : splice (b ++ marks9) 0 (c.take (min c.length n)) = ovF b c ++ marks9 := by rw [← HN.out]; exact splice_ov b c marks9
  rw [hov] at hc6
  have hS6 : Sep w1 w6 (bytesE (.slice (some ⟨g1, 0, none⟩) (n + 9) (n + 9)) (ovF b c ++ marks9) :: [bytesE uy D, bytesE ux D, bytesE uw D, oldE w1]) := hSB.upd (E' := bytesE (.slice (some ⟨g1, 0, none⟩) (n + 9) (n + 9)) (ovF b c ++ marks9)) (Turn.of_grown hg6 (fun k e => e)) hc6 (fun g hg => ⟨.inl hg, (Own.lt hc6 g hg).2⟩)
  clear hov hbh hrc hSB hc6 hg6
  have hr : RdB w6 (.slice (some ⟨g1, 0, none⟩) n (n + 9)) (ovF b c) := lentC_rd0 hS6.head HOL.out
  go_upto_region 11 with (first
    | (at_builtin; refine wp_append_B rfl _ (.tmp 59) rfl 0 _ [] rfl (OwB.nil _ _) _ (ovF b c) rfl hr (by rw [HOL.out]; simp only [List.length_nil]; omega) (Nat.zero_le _) ?_; intro v7 w7 ho7 hg7 hk7)
    | fail)
  have hS7 := hS6.nil.appended ho7 hg7 hk7
  rw [List.nil_append] at hS7
  clear hr hS6 ho7 hg7 hk7
  have hE := SDecode_sep hS7 (lentC_rd0 hS7.tail.head HOL.out) HV2.out.1 HV2.out.2.1 HV2.out.2.2
  go_upto_region 12 with (first | (go_at_call 20; (with_reducible refine hE.mono ?_); rintro e w8 ⟨uz, rfl, hS8⟩) | fail)
  clear hS7 hE
  have hSA : Sep w1 w8 (bytesE (.slice (some ⟨g1, 0, none⟩) (n + 9) (n + 9)) (ovF b c ++ marks9) :: [bytesE uz D2, bytesE v7 (ovF b c), bytesE uy D, bytesE ux D, bytesE uw D, oldE w1]) := hS8.sw [_, _]
  have hA := AsLentB_sep hSA HOL.out (OwB.rd (hSA.of_mem (E := bytesE v7 (ovF b c)) (by simp))) (by omega)
  go_upto_region 13 with (first | (go_at_call 16; (with_reducible refine hA.mono ?_); rintro e w9 ⟨rfl, hS9⟩) | fail)
  clear hS8 hSA hA
  have hE := RSDecode_sep hS9 (OwB.rd (hS9.tail.head : OwB w9 0 v7 (ovF b c))) HV2.out.1 HV2.out.2.1 HV2.out.2.2
  go_upto_region 14 with (first | (go_at_call 19; (with_reducible refine hE.mono ?_); rintro e w10 ⟨ul, rfl, hS10⟩) | fail)
  clear hS9 hE
  have s1 := run_B_string (OwB.rd (hS10.of_mem (E := bytesE ul D2) (by simp)))
  have s2 := run_B_string (OwB.rd (hS10.of_mem (E := bytesE uz D2) (by simp)))
  have s3 := run_B_string (OwB.rd (hS10.of_mem (E := bytesE uy D) (by simp)))
  have s4 := run_B_string (OwB.rd (hS10.of_mem (E := bytesE ux D) (by simp)))
  have s5 := run_B_string (OwB.rd (hS10.of_mem (E := bytesE uw D) (by simp)))
  go_upto_region 16 with (fail)
  clear s1 s2 s3 s4 s5
  by_cases hz : Z = 0
  · obtain ⟨q1, q2⟩ := dec_again (b := b) (by rw [HV.out.2.2, hz])
    rw [HV.out.1, HV.out.2.1, HN.out] at q1 q2
    have hE := SEncode_sep hS10 N (P := (n : Int)) (by have := HN.out; have := HV.out.2.2; have h := spZ_zero q1; unfold i64w; omega) (OwB.rd (hS10.of_mem (E := bytesE ux D) (by simp)))
    rw [q1, q2] at hE
    subst hz
    clear q1 q2
    have HB1 := Lib.hid (hS10.rd (v := w1) (by simp) HB.out).form
    obtain ⟨Ab, cb, hvb, -⟩ := HB1.out
    rw [HN.out] at hvb
    subst hvb
    go_upto_region 18 with (first | (go_at_call 15; (with_reducible refine hE.mono ?_); rintro e w11 ⟨ua, rfl, hS11⟩) | fail)
    clear hE hS10
    have s1 := run_B_string (OwB.rd (hS11.head : OwB w11 0 ua b))
    have s2 := run_B_string (hS11.rd (v := w1) (by simp) HB.out)
    go_upto_region 20 with (fail)
    clear s1 s2
    have hBk := hS11.book
    go_upto_region 21 with (fail)
    generalize w11.alloc (.cells #[.slice none 0 0] 34) = w12 at *
    generalize w11.heap.size = bb at *
    have hT : Sep w1 w12 (bookE bb (.slice none 0 0) [] :: bytesE ux D :: [bytesE ua b, bytesE ul D2, bytesE uz D2, bytesE v7 (ovF b c), bytesE uy D, bytesE uw D, oldE w1]) := hBk.sn [_, _, _, _, _]
    have hT := Take_sep hT (by simp)
    go_upto_region 22 with (first | (go_at_call 17; (with_reducible refine hT.mono ?_); rintro e w13 ⟨⟨_, rfl⟩, _, hS13⟩) | fail)
    clear hT hBk hS11
    have hT : Sep w1 w13 (bookE bb _ ([] ++ [(ux, D)]) :: bytesE uy D :: [bytesE ua b, bytesE ul D2, bytesE uz D2, bytesE v7 (ovF b c), bytesE uw D, oldE w1]) := hS13.sn [_, _, _, _]
    have hT := Take_sep hT (by simp)
    go_upto_region 23 with (first | (go_at_call 17; (with_reducible refine hT.mono ?_); rintro e w14 ⟨⟨_, rfl⟩, _, hS14⟩) | fail)
    clear hT hS13
    have hT : Sep w1 w14 (bookE bb _ (([] ++ [(ux, D)]) ++ [(uy, D)]) :: bytesE uz D2 :: [bytesE ua b, bytesE ul D2, bytesE v7 (ovF b c), bytesE uw D, oldE w1]) := hS14.sn [_, _]
    have hT := Take_sep hT (by simp)
    go_upto_region 24 with (first | (go_at_call 17; (with_reducible refine hT.mono ?_); rintro e w15 ⟨⟨_, rfl⟩, _, hS15⟩) | fail)
    clear hT hS14
    have hO := Owned_sep hS15 (by simp) (fun p hp => by
      simp only [List.nil_append, List.cons_append, List.mem_cons, List.not_mem_nil, or_false] at hp
      have h1 := HDL.out
      rcases hp with rfl | rfl | rfl <;> simp only <;> omega)
    go_wp2_with (first | (go_at_call 18; (with_reducible refine hO.mono ?_); rintro e w16 ⟨rfl, hS16⟩) | fail)
    go_ret
    exact ⟨rfl, hw1.trans ((hS16.belowOld (v := w1) (by simp)).mono hw1.size)⟩
  · have e1 : (Z == 0) = false := beq_eq_false_iff_ne.2 hz
    clear hz
    go_upto_region 20 with (fail)
    have hBk := hS10.book
    go_upto_region 21 with (fail)
    generalize w10.alloc (.cells #[.slice none 0 0] 34) = w12 at *
    generalize w10.heap.size = bb at *
    have hT : Sep w1 w12 (bookE bb (.slice none 0 0) [] :: bytesE ux D :: [bytesE ul D2, bytesE uz D2, bytesE v7 (ovF b c), bytesE uy D, bytesE uw D, oldE w1]) := hBk.sn [_, _, _, _]
    have hT := Take_sep hT (by simp)
    go_upto_region 22 with (first | (go_at_call 17; (with_reducible refine hT.mono ?_); rintro e w13 ⟨⟨_, rfl⟩, _, hS13⟩) | fail)
    clear hT hBk hS10
    have hT : Sep w1 w13 (bookE bb _ ([] ++ [(ux, D)]) :: bytesE uy D :: [bytesE ul D2, bytesE uz D2, bytesE v7 (ovF b c), bytesE uw D, oldE w1]) := hS13.sn [_, _, _]
    have hT := Take_sep hT (by simp)
    go_upto_region 23 with (first | (go_at_call 17; (with_reducible refine hT.mono ?_); rintro e w14 ⟨⟨_, rfl⟩, _, hS14⟩) | fail)
    clear hT hS13
    have hT : Sep w1 w14 (bookE bb _ (([] ++ [(ux, D)]) ++ [(uy, D)]) :: bytesE uz D2 :: [bytesE ul D2, bytesE v7 (ovF b c), bytesE uw D, oldE w1]) := hS14.sn [_]
    have hT := Take_sep hT (by simp)
    go_upto_region 24 with (first | (go_at_call 17; (with_reducible refine hT.mono ?_); rintro e w15 ⟨⟨_, rfl⟩, _, hS15⟩) | fail)
    clear hT hS14
    have hO := Owned_sep hS15 (by simp) (fun p hp => by
      simp only [List.nil_append, List.cons_append, List.mem_cons, List.not_mem_nil, or_false] at hp
      have h1 := HDL.out
      rcases hp with rfl | rfl | rfl <;> simp only <;> omega)
    go_wp2_with (first | (go_at_call 18; (with_reducible refine hO.mono ?_); rintro e w16 ⟨rfl, hS16⟩) | fail)
    go_ret
    exact ⟨rfl, hw1.trans ((hS16.belowOld (v := w1) (by simp)).mono hw1.size)⟩
end Go.Proofs.Ytgnhakgfgdelpaa

-- The row's last step from 'Below' alone (the guide's small lemma 9).
namespace Go.Proofs.Ytgnhakgfgdelpaa
open Go.RowKit Go.WideShapes Go.ChangeShapes
section
variable {H : Type} {enc : TypeId × Value → H} {P : Program}
theorem post_of_below {f : Func} {s : ChangeSpec} {apart fresh handsOn again : Bool} {W W' : World} {args : Array Value} {v : Value} {ds gs : List (DataW H)} {before pa pv : List MemPlace}
    (hW : DataW.Whole enc P f.params.toList s.vars apart W args.toList ds gs before)
    (hres : ∀ (b : Nat) (sp : Nat → Bool) (hd : Bool), DataW.TrodAll enc P W' b sp hd f.resultTypes.toList (v.resultList f.resultTypes.size) (s.fn H (ds ++ gs)).results [])
    (hargs : ∀ sp : Nat → Bool, (∀ p ∈ before, sp p.block = true) → DataW.TrodAll enc P W' 0 sp true f.params.toList args.toList (s.fn H (ds ++ gs)).args pa)
    (hvars : ∀ sp : Nat → Bool, (∀ p ∈ before, sp p.block = true) → DataW.TrodVars enc P W' sp s.vars (s.fn H (ds ++ gs)).vars pv)
    (hps : before = pa ++ pv) (hb : Below W.heap.size W W')
    (hok : ∀ (j : Nat) (t : TypeId) (r : Value), f.resultTypes[j]? = some t → (v.resultList f.resultTypes.size)[j]? = some r → Value.okWide P W' .any 0 t r) :
    s.post enc P f apart fresh handsOn again W args v W' := by
  have hlt : ∀ p ∈ before, p.block < W.heap.size := fun p hp => hW.lt p hp
  have hold : ∀ p ∈ before, (fun b => decide (b < W.heap.size)) p.block = true := fun p hp => by simpa using hlt p hp
  refine ⟨ds, gs, before, [], pa, pv, hW, hres _ _ _, hargs _ hold, hvars _ hold, World.keptBut_mono (fun p hp => ⟨hp, ?_⟩) (hb.frame (· ∈ before)), fun _ => ?_⟩
  · rw [hps, List.mem_append] at hp
    exact Or.inr hp
  · obtain ⟨_, _, _, _, _, hz, hn⟩ := hW
    refine ⟨hok, _, _, ([] ++ pa) ++ pv, ⟨[] ++ pa, pv, trodAll_append (hargs _ (fun _ _ => rfl)) (hres _ _ _), hvars _ (fun _ _ => rfl), rfl, ?_, ?_⟩, ?_⟩
    · intro b off hp
      have hin : MemPlace.cell b off ∈ before := by rw [hps]; simpa using hp
      rw [hb.frozen (hlt _ hin)]
      exact hz b off hin
    · intro ha
      have := hn ha
      rw [hps] at this
      simpa using this
    · intro p hp _
      rw [hps]
      simpa using hp
end
end Go.Proofs.Ytgnhakgfgdelpaa

-- A law that returns true and changes nothing below: from its walk to the row's own form.
namespace Go.Proofs.Ytgnhakgfgdelpaa
open Go.RowKit Go.WideShapes Go.ChangeShapes Go.Joins
section
variable {H : Type} {enc : TypeId × Value → H} {P : Program}
theorem trodAll_stays (hl : laidOutB P = true) {W W' : World} {sp' : Nat → Bool} : ∀ {ts : List TypeId} {vs : List Value} {ds : List (DataW H)} {ps : List MemPlace}, (ts.all fun t => P.readableRec t && decide (t < P.types.size)) = true →
    DataW.TrodAll enc P W 0 (fun _ => true) true ts vs ds ps → (∀ p ∈ ps, W.sameAt W' p) → (∀ p ∈ ps, sp' p.block = true) → DataW.TrodAll enc P W' 0 sp' true ts vs ds ps
  | [], [], [], _, _, h, _, _ => h
  | t :: ts, _ :: _, _ :: _, _, hr, ⟨p, q, h1, h2, e⟩, hk, hs => by
    simp only [List.all_cons, Bool.and_eq_true, decide_eq_true_eq] at hr
    obtain ⟨⟨hr1, hr2⟩, hr3⟩ := hr
    exact ⟨p, q, WideElems.Trod_stays hl hr1 hr2 h1 (fun x hx => hk x (by rw [e]; exact List.mem_append_left _ hx)) (fun x hx => hs x (by rw [e]; exact List.mem_append_left _ hx)),
      trodAll_stays hl hr3 h2 (fun x hx => hk x (by rw [e]; exact List.mem_append_right _ hx)) (fun x hx => hs x (by rw [e]; exact List.mem_append_right _ hx)), e⟩
theorem trodAll_len {w : World} {base : Nat} {spare : Nat → Bool} {held : Bool} : ∀ {ts : List TypeId} {vs : List Value} {ds : List (DataW H)} {ps : List MemPlace}, DataW.TrodAll enc P w base spare held ts vs ds ps → ds.length = ts.length
  | [], [], [], _, _ => rfl
  | _ :: _, _ :: _, _ :: _, _, ⟨_, _, _, h2, _⟩ => by simp [trodAll_len h2]
theorem law_post {fn : Func} {s : ChangeSpec} {tb : TypeId} {W W' : World} {args : Array Value} {ds gs : List (DataW H)} {before : List MemPlace} (hvars : s.vars = []) (hrt : fn.resultTypes = #[tb]) (htb : P.underlying tb = some .bool) (hl : laidOutB P = true)
    (hr : (fn.params.toList.all fun t => P.readableRec t && decide (t < P.types.size)) = true) (hs : ∀ ds : List (DataW H), ds.length = fn.params.size → s.fn H ds = { results := [.lit (.bool true)], args := ds })
    (hW : DataW.Whole enc P fn.params.toList s.vars false W args.toList ds gs before) (hb : Below W.heap.size W W') : s.post enc P fn false true false false W args (.bool true) W' := by
  have hW' := hW
  obtain ⟨p, q, hA, hV, rfl, hfz, hnd⟩ := hW
  rw [hvars] at hV
  obtain ⟨rfl, rfl⟩ := trodVars_none hV
  have hlen : ds.length = fn.params.size := by simpa using trodAll_len hA
  have hfn := hs ds hlen
  have hlt : ∀ x ∈ p, x.block < W.heap.size := fun x hx => hW'.lt x (List.mem_append_left _ hx)
  refine post_of_below (pa := p) (pv := []) hW' ?_ ?_ ?_ (by simp) hb (ok_one hrt rfl (okWide_bool_mk htb _))
  · intro b sp hd
    rw [List.append_nil, hfn, hrt]
    exact trodAll_cons_mk (shut_bool htb _) trodAll_mk0
  · intro sp hsp
    rw [List.append_nil, hfn]
    exact trodAll_stays hl hr hA (fun x hx => hb.same (hlt x hx)) (fun x hx => hsp x (List.mem_append_left _ hx))
  · intro sp _
    rw [List.append_nil, hfn, hvars]
    exact (rfl : DataW.TrodVars enc P W' sp [] [] [])
end
theorem law_lifts {H : Type} {enc : TypeId × Value → H} {C : Checked} {os : Os} {fno : FuncId} {fn : Func} {s : ChangeSpec} {conds : List PathCond} {tb : TypeId}
    (own : ownKnob C.prog.godebug = none) (started : os.Started) (noInit : C.prog.inits.idxOf? fno = none) (hfn : C.prog.funcs[fno]? = some fn)
    (witness : ∃ (w : World) (tape : Tape) (i : Input), w.os = os ∧ (w.forCall tape i).Shaped C.prog ∧ i.vars = [] ∧ Input.okWide C.prog (w.forCall tape i) .any w.heap.size fno i ∧
      s.pre6 enc C.prog fn conds false (w.forCall tape i).memory i.args ∧ ({} : Assume).holds C.prog (lone (Frame.enter C.prog fno i.args .normal) [] (w.forCall tape i)))
    (hvars : s.vars = []) (hrt : fn.resultTypes = #[tb]) (htb : C.prog.underlying tb = some .bool) (hl : laidOutB C.prog = true)
    (hr : (fn.params.toList.all fun t => C.prog.readableRec t && decide (t < C.prog.types.size)) = true) (hs : ∀ ds : List (DataW H), ds.length = fn.params.size → s.fn H ds = { results := [.lit (.bool true)], args := ds })
    (walk : ∀ (W : World) (base : Nat) (args : Array Value) (ds : List (DataW H)) (p : List MemPlace), (∀ (j : Nat) t v, fn.params[j]? = some t → args[j]? = some v → Value.okWide C.prog W .any base t v) →
      DataW.TrodAll enc C.prog W 0 (fun _ => true) true fn.params.toList args.toList ds p → (DataW.weightsEach C.prog fn.params.toList ds).all (· ≤ reachBytes) = true →
      Calls C.prog fno args W fun e W' => e = .returned (.bool true) ∧ Below W.heap.size W W') :
    ReturnsInHanded {} C os fno .any (s.pre6 enc C.prog fn conds false) (s.post enc C.prog fn false true false false) := by
  refine returnsInHanded_of_change_sized own started noInit hfn witness ?_
  intro W base args ds gs before hval hW _ hsz _
  have hW' := hW
  obtain ⟨p, q, hA, hV, _, _, _⟩ := hW
  rw [hvars] at hV
  obtain ⟨rfl, rfl⟩ := trodVars_none hV
  have hv : s.plain.varTypes C.prog = [] := by
    unfold ChangeSpec.plain DataSpec.varTypes
    simp [hvars]
  rw [hv, List.append_nil, List.append_nil] at hsz
  refine (walk W base args ds p hval hA hsz).mono fun e W' h => ?_
  obtain ⟨rfl, hb⟩ := h
  exact ⟨_, rfl, law_post hvars hrt htb hl hr hs hW' hb⟩
section
variable {H : Type} {enc : TypeId × Value → H} {W : World}
theorem cells_u8 : Try.prog.cellsOf 5 = 1 := by kernel_rfl
theorem bytes_u8 : Try.prog.bytesOf 5 = 1 := by kernel_rfl
set_option maxRecDepth 100000 in
/-- An argument of type []byte. -/
theorem open_bytes {base : Nat} {v : Value} {d : DataW H} {p : List MemPlace} {ts : List TypeId} {ds : List (DataW H)} {j : Nat} (hv : Value.okWide Try.prog W .any base 25 v) (h : DataW.Trod enc Try.prog W 0 (fun _ => true) true 25 v d p)
    (hsz : (DataW.weightsEach Try.prog ts ds).all (· ≤ reachBytes) = true) (ht : ts[j]? = some 25) (hd : ds[j]? = some d) :
    ∃ l : List UInt8, RdB W v l ∧ l.length ≤ 140737488351232 := by
  obtain ⟨a0, len, cap, rfl⟩ := okWide_slice Try.underlying25 hv
  obtain ⟨fuel, hf⟩ := h
  rcases open_ints Try.underlying25 Try.underlying5 cells_u8 hf with ⟨hcs, _⟩ | ⟨a, len', cap', zs, hcs, _, hl, hm, hz, hx, hcell, hwz⟩
  · simp [Value.cells] at hcs
    obtain ⟨rfl, rfl, rfl⟩ := hcs
    exact ⟨[], RdB.nil, by simp⟩
  · simp [Value.cells] at hcs
    obtain ⟨rfl, rfl, rfl⟩ := hcs
    simp only [if_true] at hz
    simp only [Prod.mk.injEq] at hx
    obtain ⟨rfl, _⟩ := hx
    have hs := sized_slice hsz ht hd Try.underlying25
    rw [bytes_u8] at hs
    simp only [lits, List.length_map, List.length_take, List.length_drop, reachBytes] at hs
    refine ⟨(zs.take len).map fun z => UInt8.ofNat z.toNat, ?_, by simp; omega⟩
    have hlen : ((zs.take len).map fun z => UInt8.ofNat z.toNat).length = len := by simp; omega
    refine ⟨some a, cap, by rw [hlen], by rw [hlen]; exact hl, hm, fun j hj => ⟨a, rfl, ?_⟩⟩
    rw [hlen] at hj
    rw [hcell j (by omega)]
    have hjz : j < zs.length := by omega
    have hmem : zs[j] ∈ zs := List.getElem_mem hjz
    have hw := hwz _ hmem
    have hg : zs.getD j 0 = zs[j] := by simp [List.getD, hjz]
    rw [hg]
    simp [Lit.wf, IntKind.min, IntKind.max, IntKind.signed, IntKind.bits] at hw
    simp
    omega
end
end Go.Proofs.Ytgnhakgfgdelpaa

-- The bounds of an integer that came in; a row whose statement bears the bound on the bulk.
namespace Go.Proofs.Ytgnhakgfgdelpaa
open Go.RowKit Go.WideShapes Go.ChangeShapes
theorem wf_i64 {n : Int} (h : (Lit.int .i64 n).wf = true) : -9223372036854775808 ≤ n ∧ n ≤ 9223372036854775807 := by
  simp [Lit.wf, IntKind.min, IntKind.max, IntKind.signed, IntKind.bits] at h
  exact h
theorem wf_u64 {n : Int} (h : (Lit.int .u64 n).wf = true) : ∃ k : Nat, n = (k : Int) ∧ k < 18446744073709551616 := by
  simp [Lit.wf, IntKind.min, IntKind.max, IntKind.signed, IntKind.bits] at h
  exact ⟨n.toNat, by omega, by omega⟩
theorem wf_u32 {n : Int} (h : (Lit.int .u32 n).wf = true) : ∃ k : Nat, n = (k : Int) ∧ k < 4294967296 := by
  simp [Lit.wf, IntKind.min, IntKind.max, IntKind.signed, IntKind.bits] at h
  exact ⟨n.toNat, by omega, by omega⟩
end Go.Proofs.Ytgnhakgfgdelpaa

-- espalierlaw09.SpillDecodes: the statement 'SpillDecodesSaid' is proved: whatever the input, the law returns true and the input reads as it did.
namespace Go.Proofs.Ytgnhakgfgdelpaa.spillDecodes
open Go.ChangeShapes Go.WideShapes Go.ChangeAt Go.RowKit
theorem own : ownKnob Try.prog.godebug = none := by kernel_rfl
theorem laidOut : laidOutB Try.prog = true := by kernel_rfl
set_option maxRecDepth 100000 in
theorem lifted (os : Os) (started : os.Started) (H : Type) (enc : TypeId × Value → H) :
    ReturnsInHanded {} Try.checked os 6 .any (Rows.spillDecodesSpec.pre6 enc Try.prog Try.f6 Rows.spillDecodesRow.domain false) (Rows.spillDecodesSpec.post enc Try.prog Try.f6 false true false false) := by
  refine law_lifts (C := Try.checked) (tb := 4) own started (by kernel_rfl) Try.func6
    (ChangeSpec.witness6 (enc := enc) (C := Try.checked) false ⟨#[], #[.slice none 0 0, .slice none 0 0], []⟩ 8 (by kernel_rfl) (by kernel_rfl) (by kernel_rfl) (by kernel_rfl))
    rfl rfl Try.underlying4 laidOut (by kernel_rfl) (fun ds hd => ?_) ?_
  · match ds, hd with
    | [d0, d1], _ => rfl
  · intro W base args ds p hval0 hA0 hsz0
    have hval : ∀ (j : Nat) t v, Try.f6.params[j]? = some t → args[j]? = some v → Value.okWide Try.prog W .any base t v := hval0
    have hA : DataW.TrodAll enc Try.prog W 0 (fun _ => true) true Try.f6.params.toList args.toList ds p := hA0
    have hsz : (DataW.weightsEach Try.prog Try.f6.params.toList ds).all (· ≤ reachBytes) = true := hsz0
    clear hval0 hA0 hsz0
    rw [Try.params6] at hA hval hsz
    obtain ⟨v0, v1, d0, d1, p0, p1, rfl, rfl, rfl, h0, h1⟩ := trodAll_two hA
    obtain ⟨b0, r0, l0⟩ := open_bytes (j := 0) (hval 0 _ v0 rfl rfl) h0 hsz rfl rfl
    obtain ⟨b1, r1, l1⟩ := open_bytes (j := 1) (hval 1 _ v1 rfl rfl) h1 hsz rfl rfl
    exact decodes_any v0 v1 b0 b1 W r0 r1 l0 l1
theorem proved : Rows.SpillDecodesSaid :=
  OpenClaim.holds_of_wide 6 Try.f6 rfl rfl rfl rfl rfl rfl rfl ⟨rfl, rfl, rfl, rfl, rfl⟩ rfl rfl rfl rfl rfl (by kernel_rfl) Try.func6 (by kernel_rfl)
    (of_decide_eq_true (by kernel_rfl)) (by unfold Func.isWrapper; first | (rw [if_pos (by decide +kernel)]; kernel_rfl) | (rw [if_neg (by decide +kernel)]; exact ⟨rfl, rfl⟩))
    (fun os started H enc _ => lifted os started H enc)
end Go.Proofs.Ytgnhakgfgdelpaa.spillDecodes
