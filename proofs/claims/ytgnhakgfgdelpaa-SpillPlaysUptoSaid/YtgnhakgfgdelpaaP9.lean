/- Texts joined: espalierref03.AsLent; Pieces of memory; espalierlaw09.SpillEncodes; espalierlaw09.SpillDecodes; Pieces picked by number; espalierlaw09.pair.turn; espalierref09.Write -/
import Derived.Test.YtgnhakgfgdelpaaP2
import Derived.Test.YtgnhakgfgdelpaaP4
import Derived.Test.YtgnhakgfgdelpaaP5
import Derived.Test.YtgnhakgfgdelpaaP7
import Derived.Test.YtgnhakgfgdelpaaP8
-- espalierref03.AsLent: the walk.
namespace Go.Proofs.Ytgnhakgfgdelpaa
open Go.RowKit
def as9 (l : List UInt8) (k : Nat) : List UInt8 := List.replicate k 77 ++ (l ++ marks9).drop k
theorem as9_length (l : List UInt8) (k : Nat) (h : k ≤ l.length + 9) : (as9 l k).length = l.length + 9 := by simp [as9, marks9, mk9_length]; omega
theorem as9_set (l : List UInt8) (k : Nat) (h : k < l.length + 9) : (as9 l k).set k 77 = as9 l (k + 1) := by
  have hl : (l ++ marks9).length = l.length + 9 := by simp [marks9, mk9_length]
  unfold as9
  rw [List.set_append_right _ _ (by simp), List.length_replicate, Nat.sub_self, List.drop_eq_getElem_cons (by omega), List.set_cons_zero, List.replicate_succ', List.append_assoc]
  rfl
theorem as9_get (l : List UInt8) (d : Nat) (h : d < 9) : (as9 l (l.length + d))[l.length + d]? = some (UInt8.ofNat (200 + d)) := by
  unfold as9
  rw [List.getElem?_append_right (by simp), List.length_replicate, Nat.sub_self, List.getElem?_drop, Nat.add_zero, List.getElem?_append_right (by omega), Nat.add_sub_cancel_left]
  exact mk9_get 9 d h
theorem OwB.part' {w : World} {base g n k c : Nat} {x s : List UInt8} (h : OwB w base (.slice (some ⟨g, 0, none⟩) (n + k) c) (x ++ s)) (hx : x.length = n) : RdB w (.slice (some ⟨g, 0, none⟩) n c) x := by
  subst hx
  have := (h.take (m := x.length) (by omega)).rd
  rw [List.take_left] at this
  exact this
set_option maxHeartbeats 2000000 in
set_option maxRecDepth 20000 in
theorem AsLent_any (g n : Nat) (vb : Value) (l : List UInt8) (base : Nat) (w : World) (hn : l.length = n) (ho : OwB w base (.slice (some ⟨g, 0, none⟩) (n + 9) (n + 9)) (l ++ marks9)) (hv : RdB w vb l) (hl : n ≤ 140737488355328) :
    Calls Try.prog 16 #[.slice (some ⟨g, 0, none⟩) n (n + 9), vb] w fun e w' => e = .returned (.bool true) ∧ w.grownBy w' (some g) := by
  subst hn
  obtain ⟨A, c, rfl, hm⟩ := hv.form
  have q1 := run_B_string hv
  have q2 := run_B_string (ho.part' rfl)
  go_enter Try.func16, Try.ntmps16
  go_wp2_with fail
  clear q1 q2
  go_loopw [6, 7] (fun gd i wr => ∃ k : Nat, gd = .bool true ∧ i = .int .i64 (k : Int) ∧ k ≤ l.length + 9 ∧ OwB wr base (.slice (some ⟨g, 0, none⟩) (l.length + 9) (l.length + 9)) (as9 l k) ∧ w.grownBy wr (some g)) (fun _ i _ => l.length + 9 - (intOf i).toNat)
  case atStart => exact ⟨0, rfl, rfl, Nat.zero_le _, by simpa [as9] using ho, World.grownBy.refl w _⟩
  case round =>
    clear ho hv
    obtain ⟨k, rfl, rfl, hk, ho, hg⟩ := hrel
    by_cases hlt : k < l.length + 9
    · have hml := as9_length l k hk
      have hc := ho.cell (j := k) (by omega)
      have hf := ho.frozen (j := k) (by omega)
      have hset := ho.set k 77
      rw [as9_set l k hlt] at hset
      have hset' : OwB (wr.setCell ⟨g, k, none⟩ (.int .u8 77)) base (.slice (some ⟨g, 0, none⟩) (l.length + 9) (l.length + 9)) (as9 l (k + 1)) := hset
      have ik : (k : Int) < ((l.length + 9 : Nat) : Int) := by omega
      have ik2 : k < l.length + 9 := hlt
      by_cases hd : k < l.length
      · have id : (k : Int) < (l.length : Int) := by omega
        have id2 : ¬ (l.length : Int) ≤ (k : Int) := by omega
        generalize ((as9 l k)[k]'(by omega)).toNat = y at hc
        clear hml hset
        go_wp2_with fail
        go_roundw
        case rel => exact ⟨k + 1, rfl, by go_num, by omega, hset', grownBy_trans hg (grownBy_setCell _ _ _)⟩
        case measure => simp [intOf]; omega
      · obtain ⟨d, hd2⟩ : ∃ d, k = l.length + d := ⟨k - l.length, by omega⟩
        have hd9 : d < 9 := by omega
        have e0 : (as9 l k)[k]'(by omega) = UInt8.ofNat (200 + d) := by
          have := as9_get l d hd9
          rw [← hd2, List.getElem?_eq_getElem (by omega)] at this
          exact Option.some.inj this
        rw [e0, b200 d hd9] at hc
        have e1 : (200 : Int) + (k : Int) - (l.length : Int) = 200 + (d : Int) := by omega
        have e2 : IntKind.u8.wrap (200 + (d : Int)) = 200 + (d : Int) := IntWalk.u8_in _ (by omega)
        have id : (l.length : Int) ≤ (k : Int) := by omega
        clear hml hset e0 hd2 hd
        go_wp2_with fail
        go_roundw
        case rel => exact ⟨k + 1, rfl, by go_num, by omega, hset', grownBy_trans hg (grownBy_setCell _ _ _)⟩
        case measure => simp [intOf]; omega
    · obtain rfl : k = l.length + 9 := by omega
      go_wp2_with fail
      go_ret
      exact ⟨rfl, hg⟩
end Go.Proofs.Ytgnhakgfgdelpaa

-- Pieces of memory: bytes that were lent.
namespace Go.Proofs.Ytgnhakgfgdelpaa
open Go.RowKit
def ovF (b c : List UInt8) : List UInt8 := c.take (min c.length b.length) ++ b.drop (min c.length b.length)
theorem ovF_length (b c : List UInt8) : (ovF b c).length = b.length := by
  unfold ovF; rw [List.length_append, List.length_take, List.length_drop]; omega
theorem splice_ov (b c m : List UInt8) : splice (b ++ m) 0 (c.take (min c.length b.length)) = ovF b c ++ m := by
  unfold splice ovF
  rw [List.take_zero, List.nil_append, Nat.zero_add, List.length_take, show min (min c.length b.length) c.length = min c.length b.length by omega, List.drop_append_of_le_length (by omega), List.append_assoc]
theorem LentB_sep {w0 w : World} {L : List Ent} {v : Value} {l : List UInt8} (h : Sep w0 w L) (hv : RdB w v l) (hl : l.length ≤ 140737488355328) :
    Calls Try.prog 14 #[v] w fun e w' => ∃ g, e = .returned (.slice (some ⟨g, 0, none⟩) l.length (l.length + 9)) ∧ Sep w0 w' (bytesE (.slice (some ⟨g, 0, none⟩) (l.length + 9) (l.length + 9)) (l ++ marks9) :: L) := by
  refine (Lent_any v l w hv hl).mono ?_
  rintro e w' ⟨g, rfl, ho, hb⟩
  exact ⟨g, rfl, h.bytes hb ho (Nat.le_refl _)⟩
theorem AsLentB_sep {w0 w : World} {L : List Ent} {vb : Value} {l : List UInt8} {g n : Nat} (h : Sep w0 w (bytesE (.slice (some ⟨g, 0, none⟩) (n + 9) (n + 9)) (l ++ marks9) :: L)) (hn : l.length = n) (hv : RdB w vb l) (hl : n ≤ 140737488355328) :
    Calls Try.prog 16 #[.slice (some ⟨g, 0, none⟩) n (n + 9), vb] w fun e w' => e = .returned (.bool true) ∧ Sep w0 w' L := by
  refine (AsLent_any g n vb l 0 w hn h.head hv hl).mono ?_
  rintro e w' ⟨rfl, hg⟩
  exact ⟨rfl, h.kill (Turn.of_grown hg (fun k e => e))⟩
theorem lentC_rd0 {w : World} {b0 g m : Nat} {bl : List UInt8} (h : OwB w b0 (.slice (some ⟨g, 0, none⟩) (m + 9) (m + 9)) (bl ++ marks9)) (hl : bl.length = m) : RdB w (.slice (some ⟨g, 0, none⟩) m (m + 9)) bl := by
  have h1 := OwB.take h (m := m) (by omega)
  rw [List.take_left' hl] at h1
  exact h1.rd
theorem lentC_rd {w : World} {b0 g : Nat} {bl : List UInt8} (h : OwB w b0 (.slice (some ⟨g, 0, none⟩) (bl.length + 9) (bl.length + 9)) (bl ++ marks9)) : RdB w (.slice (some ⟨g, 0, none⟩) bl.length (bl.length + 9)) bl := lentC_rd0 h rfl
end Go.Proofs.Ytgnhakgfgdelpaa

-- espalierlaw09.SpillEncodes: the walk.
namespace Go.Proofs.Ytgnhakgfgdelpaa
open Go.RowKit
section
variable {w0 w : World} {L : List Ent}
theorem SEncode_sep (h : Sep w0 w L) (next : Int) {va : Value} {d : List UInt8} {P : Int} (hP : i64w P) (hd : RdB w va d) :
    Calls Try.prog 15 #[.int .i64 next, va, .int .i64 P] w fun e w' => ∃ u, e = .returned (.tuple #[u, .int .i64 (spZ next d P)]) ∧ Sep w0 w' (bytesE u (spL next d P) :: L) := by
  refine (SEncode_any next va d P hP w hd).mono ?_
  rintro e w' ⟨u, rfl, ho, hB⟩
  exact ⟨u, rfl, h.bytes hB ho (Nat.le_refl _)⟩
theorem RSEncode_sep (h : Sep w0 w L) (next : Int) {va : Value} {d : List UInt8} {P : Int} (hd : RdB w va d) :
    Calls Try.prog 12 #[.int .i64 next, va, .int .i64 P] w fun e w' => ∃ u, e = .returned (.tuple #[u, .int .i64 (spZ next d P)]) ∧ Sep w0 w' (bytesE u (spL next d P) :: L) := by
  refine (RSEncode_any next va d P w hd).mono ?_
  rintro e w' ⟨u, rfl, ho, hB⟩
  exact ⟨u, rfl, h.bytes hB ho (Nat.le_refl _)⟩
theorem Turned_sep (h : Sep w0 w L) {v : Value} {l : List UInt8} (hv : RdB w v l) (hl : l.length ≤ 140737488355328) :
    Calls Try.prog 13 #[v] w fun e w' => ∃ u, e = .returned u ∧ Sep w0 w' (bytesE u (turnedF l) :: L) := by
  refine (Turned_any v l w hv hl).mono ?_
  rintro e w' ⟨u, rfl, ho, hB⟩
  exact ⟨u, rfl, h.bytes hB ho (Nat.le_refl _)⟩
end
theorem splice_full (a b m : List UInt8) (h : a.length = b.length) : splice (a ++ m) 0 b = b ++ m := by
  have e := splice_ov a b m
  have e2 : ovF a b = b := by unfold ovF; rw [h, Nat.min_self, List.take_length, List.drop_eq_nil_of_le (by omega), List.append_nil]
  rw [h, Nat.min_self, List.take_length] at e
  rw [e, e2]
set_option maxRecDepth 100000 in
set_option maxHeartbeats 8000000 in
theorem encodes_any (nx : Int) (vd : Value) (b : List UInt8) (P : Int) (hnx : -9223372036854775808 ≤ nx ∧ nx ≤ 9223372036854775807) (hP : -9223372036854775808 ≤ P ∧ P ≤ 9223372036854775807) (w : World) (hb : RdB w vd b) (hbl : b.length ≤ 140737488351232) :
    Calls Try.prog 5 #[.int .i64 nx, vd, .int .i64 P] w fun e w' => e = .returned (.bool true) ∧ Below w.heap.size w w' := by
  go_enter Try.func5, Try.ntmps5
  go_upto_region 4 with (first
    | (go_at_call 9; (with_reducible refine (awake_any _).mono ?_); rintro e w1 ⟨rfl, hw1⟩)
    | fail)
  have HB := Lib.hid (hb.below hw1 (Nat.le_refl _))
  clear hb
  obtain ⟨n, hn⟩ : ∃ n, b.length = n := ⟨_, rfl⟩
  rw [hn] at hbl
  have HN := Lib.hid hn
  have htl : (turnedF b).length = n := by rw [turnedF_length, hn]
  have HTL := Lib.hid htl
  clear hn htl
  have hS1 := Sep.start w1
  have hE := RSEncode_sep hS1 nx (P := P) HB.out
  generalize hz1 : spZ nx b P = z1 at hE
  have HZ1 := Lib.hid hz1
  clear hz1
  go_upto_region 5 with (first | (go_at_call 12; (with_reducible refine hE.mono ?_); rintro e w2 ⟨uw, rfl, hS2⟩) | fail)
  clear hS1 hE
  have hT := Turned_sep hS2 (hS2.rd (v := w1) (by simp) HB.out) (by rw [HN.out]; omega)
  go_upto_region 6 with (first | (go_at_call 13; (with_reducible refine hT.mono ?_); rintro e w3 ⟨ut, rfl, hS3⟩) | fail)
  clear hS2 hT
  have hE := RSEncode_sep hS3 nx (P := P) (OwB.rd (hS3.head : OwB w3 0 ut (turnedF b)))
  generalize hz2 : spZ nx (turnedF b) P = z2 at hE
  have HZ2 := Lib.hid hz2
  clear hz2
  go_upto_region 7 with (first | (go_at_call 12; (with_reducible refine hE.mono ?_); rintro e w4 ⟨uo, rfl, hS4⟩) | fail)
  clear hS3 hE
  have hL := LentB_sep hS4 (l := b) (hS4.rd (v := w1) (by simp) HB.out) (by rw [HN.out]; omega)
  rw [HN.out] at hL
  go_upto_region 8 with (first | (go_at_call 14; (with_reducible refine hL.mono ?_); rintro e w5 ⟨g1, rfl, hS5⟩) | fail)
  clear hS4 hL
  have hE := SEncode_sep hS5 nx hP (lentC_rd0 hS5.head HN.out)
  rw [HZ1.out] at hE
  go_upto_region 9 with (first | (go_at_call 15; (with_reducible refine hE.mono ?_); rintro e w6 ⟨ua, rfl, hS6⟩) | fail)
  clear hS5 hE
  have hE := SEncode_sep hS6 nx hP (lentC_rd0 hS6.tail.head HN.out)
  rw [HZ1.out] at hE
  go_upto_region 10 with (first | (go_at_call 15; (with_reducible refine hE.mono ?_); rintro e w7 ⟨ub, rfl, hS7⟩) | fail)
  clear hS6 hE
  have s1 := run_B_string (lentC_rd0 hS7.tail.tail.head HN.out)
  have s2 := run_B_string (hS7.rd (v := w1) (by simp) HB.out)
  go_upto_region 11 with (fail)
  clear s1 s2
  have hSB : Sep w1 w7 (bytesE (.slice (some ⟨g1, 0, none⟩) (n + 9) (n + 9)) (b ++ marks9) :: [bytesE ub (spL nx b P), bytesE ua (spL nx b P), bytesE uo (spL nx (turnedF b) P), bytesE ut (turnedF b), bytesE uw (spL nx b P), oldE w1]) := hS7.sw [_, _]
  have hrc : RdB w7 ut (turnedF b) := OwB.rd (hSB.of_mem (E := bytesE ut (turnedF b)) (by simp))
  have hbh : OwB w7 0 (.slice (some ⟨g1, 0, none⟩) (n + 9) (n + 9)) (b ++ marks9) := hSB.head
  have HLB : Hid ((b ++ marks9).length = n + 9) := Lib.hid (by rw [List.length_append, HN.out]; rfl)
  clear hS7
  go_upto_region 12 with (first
    | ((with_reducible refine at_copy ?_); refine wp_copy_At rfl (.tmp 63) (.tmp 64) rfl 0 g1 (n + 9) (n + 9) 0 _ n (n + 9) rfl (fun _ => rfl) _ hbh HLB.out (by omega) _ (turnedF b) rfl hrc ?_; intro w8 hc8 hg8)
    | fail)
  have hov : splice (b ++ marks9) 0 ((turnedF b).take (min (turnedF b).length n)) = turnedF b ++ marks9 := by
    rw [HTL.out, Nat.min_self, List.take_of_length_le (by rw [HTL.out]; exact Nat.le_refl _)]
    exact splice_full _ _ _ (by rw [HN.out, HTL.out])
  rw [hov] at hc8
  have hS8 : Sep w1 w8 (bytesE (.slice (some ⟨g1, 0, none⟩) (n + 9) (n + 9)) (turnedF b ++ marks9) :: [bytesE ub (spL nx b P), bytesE ua (spL nx b P), bytesE uo (spL nx (turnedF b) P), bytesE ut (turnedF b), bytesE uw (spL nx b P), oldE w1]) := hSB.upd (E' := bytesE (.slice (some ⟨g1, 0, none⟩) (n + 9) (n + 9)) (turnedF b ++ marks9)) (Turn.of_grown hg8 (fun k e => e)) hc8 (fun g hg => ⟨.inl hg, (Own.lt hc8 g hg).2⟩)
  clear hov hbh hrc hSB hc8 hg8
  have hE := SEncode_sep hS8 nx hP (lentC_rd0 hS8.head HTL.out)
  rw [HZ2.out] at hE
  go_upto_region 13 with (first | (go_at_call 15; (with_reducible refine hE.mono ?_); rintro e w9 ⟨uc, rfl, hS9⟩) | fail)
  clear hS8 hE
  have hSA : Sep w1 w9 (bytesE (.slice (some ⟨g1, 0, none⟩) (n + 9) (n + 9)) (turnedF b ++ marks9) :: [bytesE uc (spL nx (turnedF b) P), bytesE ub (spL nx b P), bytesE ua (spL nx b P), bytesE uo (spL nx (turnedF b) P), bytesE ut (turnedF b), bytesE uw (spL nx b P), oldE w1]) := hS9.sw [_]
  have hA := AsLentB_sep hSA HTL.out (OwB.rd (hSA.of_mem (E := bytesE ut (turnedF b)) (by simp))) (by omega)
  go_upto_region 14 with (first | (go_at_call 16; (with_reducible refine hA.mono ?_); rintro e w10 ⟨rfl, hS10⟩) | fail)
  clear hS9 hSA hA
  have s1 := run_B_string (OwB.rd (hS10.of_mem (E := bytesE uc (spL nx (turnedF b) P)) (by simp)))
  have s2 := run_B_string (OwB.rd (hS10.of_mem (E := bytesE ub (spL nx b P)) (by simp)))
  have s3 := run_B_string (OwB.rd (hS10.of_mem (E := bytesE ua (spL nx b P)) (by simp)))
  have s4 := run_B_string (OwB.rd (hS10.of_mem (E := bytesE uo (spL nx (turnedF b) P)) (by simp)))
  have s5 := run_B_string (OwB.rd (hS10.of_mem (E := bytesE uw (spL nx b P)) (by simp)))
  go_upto_region 16 with (fail)
  clear s1 s2 s3 s4 s5
  have hlm : ∀ d, (spL nx d P).length ≤ 65536 := fun d => spL_length nx d P
  have HLM := Lib.hid hlm
  clear hlm
  have hBk := hS10.book
  go_upto_region 17 with (fail)
  generalize w10.alloc (.cells #[.slice none 0 0] 34) = w11 at *
  generalize w10.heap.size = bb at *
  have hT : Sep w1 w11 (bookE bb (.slice none 0 0) [] :: bytesE ua (spL nx b P) :: [bytesE uc (spL nx (turnedF b) P), bytesE ub (spL nx b P), bytesE uo (spL nx (turnedF b) P), bytesE ut (turnedF b), bytesE uw (spL nx b P), oldE w1]) := hBk.sn [_, _]
  have hT := Take_sep hT (by simp)
  go_upto_region 18 with (first | (go_at_call 17; (with_reducible refine hT.mono ?_); rintro e w12 ⟨⟨_, rfl⟩, _, hS12⟩) | fail)
  clear hT hBk hS10
  have hT : Sep w1 w12 (bookE bb _ ([] ++ [(ua, spL nx b P)]) :: bytesE ub (spL nx b P) :: [bytesE uc (spL nx (turnedF b) P), bytesE uo (spL nx (turnedF b) P), bytesE ut (turnedF b), bytesE uw (spL nx b P), oldE w1]) := hS12.sn [_]
  have hT := Take_sep hT (by simp)
  go_upto_region 19 with (first | (go_at_call 17; (with_reducible refine hT.mono ?_); rintro e w13 ⟨⟨_, rfl⟩, _, hS13⟩) | fail)
  clear hT hS12
  have hT := Take_sep hS13 (by simp)
  go_upto_region 20 with (first | (go_at_call 17; (with_reducible refine hT.mono ?_); rintro e w14 ⟨⟨_, rfl⟩, _, hS14⟩) | fail)
  clear hT hS13
  have hO := Owned_sep hS14 (by simp) (fun p hp => by
    simp only [List.nil_append, List.cons_append, List.mem_cons, List.not_mem_nil, or_false] at hp
    have h1 := HLM.out b
    have h2 := HLM.out (turnedF b)
    rcases hp with rfl | rfl | rfl <;> simp only <;> omega)
  go_wp2_with (first | (go_at_call 18; (with_reducible refine hO.mono ?_); rintro e w15 ⟨rfl, hS15⟩) | fail)
  go_ret
  exact ⟨rfl, hw1.trans ((hS15.belowOld (v := w1) (by simp)).mono hw1.size)⟩
end Go.Proofs.Ytgnhakgfgdelpaa

-- espalierlaw09.SpillDecodes: the walk.
namespace Go.Proofs.Ytgnhakgfgdelpaa
open Go.RowKit
section
variable {w0 w : World} {L : List Ent}
theorem SDecode_sep (h : Sep w0 w L) {v : Value} {b : List UInt8} (hv : RdB w v b) {n z : Int} {d : List UInt8} (hn : decN b = n) (hd : decD b = d) (hz : decZ b = z) :
    Calls Try.prog 20 #[v] w fun e w' => ∃ u, e = .returned (.tuple #[.int .i64 n, u, .int .i64 z]) ∧ Sep w0 w' (bytesE u d :: L) := by
  refine (SDecode_any v b w hv).mono ?_
  rintro e w' ⟨u, rfl, ho, hB⟩
  rw [hn, hz]
  rw [hd] at ho
  exact ⟨u, rfl, h.bytes hB ho (Nat.le_refl _)⟩
theorem RSDecode_sep (h : Sep w0 w L) {v : Value} {b : List UInt8} (hv : RdB w v b) {n z : Int} {d : List UInt8} (hn : decN b = n) (hd : decD b = d) (hz : decZ b = z) :
    Calls Try.prog 19 #[v] w fun e w' => ∃ u, e = .returned (.tuple #[.int .i64 n, u, .int .i64 z]) ∧ Sep w0 w' (bytesE u d :: L) := by
  refine (RSDecode_any v b w hv).mono ?_
  rintro e w' ⟨u, rfl, ho, hB⟩
  rw [hn, hz]
  rw [hd] at ho
  exact ⟨u, rfl, h.bytes hB ho (Nat.le_refl _)⟩
end
theorem decD_length (b : List UInt8) : (decD b).length ≤ 65536 := by
  cases h : decS b with
  | none => rw [(dec_none h).2.1]; simp
  | some nd =>
    obtain ⟨n, d⟩ := nd
    rw [(dec_some h).2.1]
    obtain ⟨-, h1, h2, -, h4⟩ := dec_rng h
    have := (spZ_zero h4).2.2.2.2.2
    omega
/-- What is read is written so again. -/
theorem dec_again {b : List UInt8} (h : decZ b = 0) : spZ (decN b) (decD b) (b.length : Int) = 0 ∧ spL (decN b) (decD b) (b.length : Int) = b := by
  cases hd : decS b with
  | none => rw [(dec_none hd).2.2] at h; cases h
  | some nd =>
    obtain ⟨n, d⟩ := nd
    rw [(dec_some hd).1, (dec_some hd).2.1]
    obtain ⟨-, -, -, h3, h4⟩ := dec_rng hd
    refine ⟨h4, ?_⟩
    unfold spL
    rw [if_pos h4]
    exact h3
theorem decN_rng (b : List UInt8) : i64w (decN b) := by
  unfold i64w
  cases h : decS b with
  | none => rw [(dec_none h).1]; omega
  | some nd =>
    obtain ⟨n, d⟩ := nd
    rw [(dec_some h).1]
    have := (dec_rng h).1
    omega
set_option maxRecDepth 100000 in
set_option maxHeartbeats 8000000 in
theorem decodes_any (vb vc : Value) (b c : List UInt8) (w : World) (hb : RdB w vb b) (hc : RdB w vc c) (hbl : b.length ≤ 140737488351232) (hcl : c.length ≤ 140737488351232) :
    Calls Try.prog 6 #[vb, vc] w fun e w' => e = .returned (.bool true) ∧ Below w.heap.size w w' := by
  go_enter Try.func6, Try.ntmps6
  go_upto_region 4 with (first
    | (go_at_call 9; (with_reducible refine (awake_any _).mono ?_); rintro e w1 ⟨rfl, hw1⟩)
    | fail)
  have HB := Lib.hid (hb.below hw1 (Nat.le_refl _))
  have HC := Lib.hid (hc.below hw1 (Nat.le_refl _))
  clear hb hc
  obtain ⟨n, hn⟩ : ∃ n, b.length = n := ⟨_, rfl⟩
  rw [hn] at hbl
  have HN := Lib.hid hn
  have HOL : Hid ((ovF b c).length = n) := Lib.hid (by rw [ovF_length, hn])
  clear hn
  obtain ⟨N, hN⟩ : ∃ N, decN b = N := ⟨_, rfl⟩
  obtain ⟨D, hD⟩ : ∃ D, decD b = D := ⟨_, rfl⟩
  obtain ⟨Z, hZ⟩ : ∃ Z, decZ b = Z := ⟨_, rfl⟩
  obtain ⟨N2, hN2⟩ : ∃ N, decN (ovF b c) = N := ⟨_, rfl⟩
  obtain ⟨D2, hD2⟩ : ∃ D, decD (ovF b c) = D := ⟨_, rfl⟩
  obtain ⟨Z2, hZ2⟩ : ∃ Z, decZ (ovF b c) = Z := ⟨_, rfl⟩
  have HV := Lib.hid (And.intro hN (And.intro hD hZ))
  have HV2 := Lib.hid (And.intro hN2 (And.intro hD2 hZ2))
  have HDL : Hid (D.length ≤ 65536 ∧ D2.length ≤ 65536) := Lib.hid ⟨by rw [← hD]; exact decD_length b, by rw [← hD2]; exact decD_length _⟩
  clear hN hD hZ hN2 hD2 hZ2
  have hS1 := Sep.start w1
  have hE := RSDecode_sep hS1 HB.out HV.out.1 HV.out.2.1 HV.out.2.2
  go_upto_region 5 with (first | (go_at_call 19; (with_reducible refine hE.mono ?_); rintro e w2 ⟨uw, rfl, hS2⟩) | fail)
  clear hS1 hE
  have hL := LentB_sep hS2 (l := b) (hS2.rd (v := w1) (by simp) HB.out) (by rw [HN.out]; omega)
  rw [HN.out] at hL
  go_upto_region 6 with (first | (go_at_call 14; (with_reducible refine hL.mono ?_); rintro e w3 ⟨g1, rfl, hS3⟩) | fail)
  clear hS2 hL
  have hE := SDecode_sep hS3 (lentC_rd0 hS3.head HN.out) HV.out.1 HV.out.2.1 HV.out.2.2
  go_upto_region 7 with (first | (go_at_call 20; (with_reducible refine hE.mono ?_); rintro e w4 ⟨ux, rfl, hS4⟩) | fail)
  clear hS3 hE
  have hE := SDecode_sep hS4 (lentC_rd0 hS4.tail.head HN.out) HV.out.1 HV.out.2.1 HV.out.2.2
  go_upto_region 8 with (first | (go_at_call 20; (with_reducible refine hE.mono ?_); rintro e w5 ⟨uy, rfl, hS5⟩) | fail)
  clear hS4 hE
  have s1 := run_B_string (lentC_rd0 hS5.tail.tail.head HN.out)
  have s2 := run_B_string (hS5.rd (v := w1) (by simp) HB.out)
  go_upto_region 9 with (fail)
  clear s1 s2
  have hSB : Sep w1 w5 (bytesE (.slice (some ⟨g1, 0, none⟩) (n + 9) (n + 9)) (b ++ marks9) :: [bytesE uy D, bytesE ux D, bytesE uw D, oldE w1]) := hS5.sw [_, _]
  have hrc := hSB.rd (v := w1) (by simp) HC.out
  have hbh : OwB w5 0 (.slice (some ⟨g1, 0, none⟩) (n + 9) (n + 9)) (b ++ marks9) := hSB.head
  have HLB : Hid ((b ++ marks9).length = n + 9) := Lib.hid (by rw [List.length_append, HN.out]; rfl)
  clear hS5
  go_upto_region 10 with (first
    | ((with_reducible refine at_copy ?_); refine wp_copy_At rfl (.tmp 56) (.tmp 57) rfl 0 g1 (n + 9) (n + 9) 0 _ n (n + 9) rfl (fun _ => rfl) _ hbh HLB.out (by omega) _ c rfl hrc ?_; intro w6 hc6 hg6)
    | fail)
  have hov : splice (b ++ marks9) 0 (c.take (min c.length n)) = ovF b c ++ marks9 := by rw [← HN.out]; exact splice_ov b c marks9
  rw [hov] at hc6
  have hS6 : Sep w1 w6 (bytesE (.slice (some ⟨g1, 0, none⟩) (n + 9) (n + 9)) (ovF b c ++ marks9) :: [bytesE uy D, bytesE ux D, bytesE uw D, oldE w1]) := hSB.upd (E' := bytesE (.slice (some ⟨g1, 0, none⟩) (n + 9) (n + 9)) (ovF b c ++ marks9)) (Turn.of_grown hg6 (fun k e => e)) hc6 (fun g hg => ⟨.inl hg, (Own.lt hc6 g hg).2⟩)
  clear hov hbh hrc hSB hc6 hg6
  have hr : RdB w6 (.slice (some ⟨g1, 0, none⟩) n (n + 9)) (ovF b c) := lentC_rd0 hS6.head HOL.out
  go_upto_region 11 with (first
    | (at_builtin; refine wp_append_B rfl _ (.tmp 59) rfl 0 _ [] rfl (OwB.nil _ _) _ (ovF b c) rfl hr (by rw [HOL.out]; simp only [List.length_nil]; omega) (Nat.zero_le _) ?_; intro v7 w7 ho7 hg7 hk7)
    | fail)
  have hS7 := hS6.nil.appended ho7 hg7 hk7
  rw [List.nil_append] at hS7
  clear hr hS6 ho7 hg7 hk7
  have hE := SDecode_sep hS7 (lentC_rd0 hS7.tail.head HOL.out) HV2.out.1 HV2.out.2.1 HV2.out.2.2
  go_upto_region 12 with (first | (go_at_call 20; (with_reducible refine hE.mono ?_); rintro e w8 ⟨uz, rfl, hS8⟩) | fail)
  clear hS7 hE
  have hSA : Sep w1 w8 (bytesE (.slice (some ⟨g1, 0, none⟩) (n + 9) (n + 9)) (ovF b c ++ marks9) :: [bytesE uz D2, bytesE v7 (ovF b c), bytesE uy D, bytesE ux D, bytesE uw D, oldE w1]) := hS8.sw [_, _]
  have hA := AsLentB_sep hSA HOL.out (OwB.rd (hSA.of_mem (E := bytesE v7 (ovF b c)) (by simp))) (by omega)
  go_upto_region 13 with (first | (go_at_call 16; (with_reducible refine hA.mono ?_); rintro e w9 ⟨rfl, hS9⟩) | fail)
  clear hS8 hSA hA
  have hE := RSDecode_sep hS9 (OwB.rd (hS9.tail.head : OwB w9 0 v7 (ovF b c))) HV2.out.1 HV2.out.2.1 HV2.out.2.2
  go_upto_region 14 with (first | (go_at_call 19; (with_reducible refine hE.mono ?_); rintro e w10 ⟨ul, rfl, hS10⟩) | fail)
  clear hS9 hE
  have s1 := run_B_string (OwB.rd (hS10.of_mem (E := bytesE ul D2) (by simp)))
  have s2 := run_B_string (OwB.rd (hS10.of_mem (E := bytesE uz D2) (by simp)))
  have s3 := run_B_string (OwB.rd (hS10.of_mem (E := bytesE uy D) (by simp)))
  have s4 := run_B_string (OwB.rd (hS10.of_mem (E := bytesE ux D) (by simp)))
  have s5 := run_B_string (OwB.rd (hS10.of_mem (E := bytesE uw D) (by simp)))
  go_upto_region 16 with (fail)
  clear s1 s2 s3 s4 s5
  by_cases hz : Z = 0
  · obtain ⟨q1, q2⟩ := dec_again (b := b) (by rw [HV.out.2.2, hz])
    rw [HV.out.1, HV.out.2.1, HN.out] at q1 q2
    have hE := SEncode_sep hS10 N (P := (n : Int)) (by have := HN.out; have := HV.out.2.2; have h := spZ_zero q1; unfold i64w; omega) (OwB.rd (hS10.of_mem (E := bytesE ux D) (by simp)))
    rw [q1, q2] at hE
    subst hz
    clear q1 q2
    have HB1 := Lib.hid (hS10.rd (v := w1) (by simp) HB.out).form
    obtain ⟨Ab, cb, hvb, -⟩ := HB1.out
    rw [HN.out] at hvb
    subst hvb
    go_upto_region 18 with (first | (go_at_call 15; (with_reducible refine hE.mono ?_); rintro e w11 ⟨ua, rfl, hS11⟩) | fail)
    clear hE hS10
    have s1 := run_B_string (OwB.rd (hS11.head : OwB w11 0 ua b))
    have s2 := run_B_string (hS11.rd (v := w1) (by simp) HB.out)
    go_upto_region 20 with (fail)
    clear s1 s2
    have hBk := hS11.book
    go_upto_region 21 with (fail)
    generalize w11.alloc (.cells #[.slice none 0 0] 34) = w12 at *
    generalize w11.heap.size = bb at *
    have hT : Sep w1 w12 (bookE bb (.slice none 0 0) [] :: bytesE ux D :: [bytesE ua b, bytesE ul D2, bytesE uz D2, bytesE v7 (ovF b c), bytesE uy D, bytesE uw D, oldE w1]) := hBk.sn [_, _, _, _, _]
    have hT := Take_sep hT (by simp)
    go_upto_region 22 with (first | (go_at_call 17; (with_reducible refine hT.mono ?_); rintro e w13 ⟨⟨_, rfl⟩, _, hS13⟩) | fail)
    clear hT hBk hS11
    have hT : Sep w1 w13 (bookE bb _ ([] ++ [(ux, D)]) :: bytesE uy D :: [bytesE ua b, bytesE ul D2, bytesE uz D2, bytesE v7 (ovF b c), bytesE uw D, oldE w1]) := hS13.sn [_, _, _, _]
    have hT := Take_sep hT (by simp)
    go_upto_region 23 with (first | (go_at_call 17; (with_reducible refine hT.mono ?_); rintro e w14 ⟨⟨_, rfl⟩, _, hS14⟩) | fail)
    clear hT hS13
    have hT : Sep w1 w14 (bookE bb _ (([] ++ [(ux, D)]) ++ [(uy, D)]) :: bytesE uz D2 :: [bytesE ua b, bytesE ul D2, bytesE v7 (ovF b c), bytesE uw D, oldE w1]) := hS14.sn [_, _]
    have hT := Take_sep hT (by simp)
    go_upto_region 24 with (first | (go_at_call 17; (with_reducible refine hT.mono ?_); rintro e w15 ⟨⟨_, rfl⟩, _, hS15⟩) | fail)
    clear hT hS14
    have hO := Owned_sep hS15 (by simp) (fun p hp => by
      simp only [List.nil_append, List.cons_append, List.mem_cons, List.not_mem_nil, or_false] at hp
      have h1 := HDL.out
      rcases hp with rfl | rfl | rfl <;> simp only <;> omega)
    go_wp2_with (first | (go_at_call 18; (with_reducible refine hO.mono ?_); rintro e w16 ⟨rfl, hS16⟩) | fail)
    go_ret
    exact ⟨rfl, hw1.trans ((hS16.belowOld (v := w1) (by simp)).mono hw1.size)⟩
  · have e1 : (Z == 0) = false := beq_eq_false_iff_ne.2 hz
    clear hz
    go_upto_region 20 with (fail)
    have hBk := hS10.book
    go_upto_region 21 with (fail)
    generalize w10.alloc (.cells #[.slice none 0 0] 34) = w12 at *
    generalize w10.heap.size = bb at *
    have hT : Sep w1 w12 (bookE bb (.slice none 0 0) [] :: bytesE ux D :: [bytesE ul D2, bytesE uz D2, bytesE v7 (ovF b c), bytesE uy D, bytesE uw D, oldE w1]) := hBk.sn [_, _, _, _]
    have hT := Take_sep hT (by simp)
    go_upto_region 22 with (first | (go_at_call 17; (with_reducible refine hT.mono ?_); rintro e w13 ⟨⟨_, rfl⟩, _, hS13⟩) | fail)
    clear hT hBk hS10
    have hT : Sep w1 w13 (bookE bb _ ([] ++ [(ux, D)]) :: bytesE uy D :: [bytesE ul D2, bytesE uz D2, bytesE v7 (ovF b c), bytesE uw D, oldE w1]) := hS13.sn [_, _, _]
    have hT := Take_sep hT (by simp)
    go_upto_region 23 with (first | (go_at_call 17; (with_reducible refine hT.mono ?_); rintro e w14 ⟨⟨_, rfl⟩, _, hS14⟩) | fail)
    clear hT hS13
    have hT : Sep w1 w14 (bookE bb _ (([] ++ [(ux, D)]) ++ [(uy, D)]) :: bytesE uz D2 :: [bytesE ul D2, bytesE v7 (ovF b c), bytesE uw D, oldE w1]) := hS14.sn [_]
    have hT := Take_sep hT (by simp)
    go_upto_region 24 with (first | (go_at_call 17; (with_reducible refine hT.mono ?_); rintro e w15 ⟨⟨_, rfl⟩, _, hS15⟩) | fail)
    clear hT hS14
    have hO := Owned_sep hS15 (by simp) (fun p hp => by
      simp only [List.nil_append, List.cons_append, List.mem_cons, List.not_mem_nil, or_false] at hp
      have h1 := HDL.out
      rcases hp with rfl | rfl | rfl <;> simp only <;> omega)
    go_wp2_with (first | (go_at_call 18; (with_reducible refine hO.mono ?_); rintro e w16 ⟨rfl, hS16⟩) | fail)
    go_ret
    exact ⟨rfl, hw1.trans ((hS16.belowOld (v := w1) (by simp)).mono hw1.size)⟩
end Go.Proofs.Ytgnhakgfgdelpaa

-- Pieces picked by number: any of the first ones, in any order; the others of these are let go.
namespace Go.Proofs.Ytgnhakgfgdelpaa
open Go.RowKit
def unitE : Ent := ⟨fun _ => False, fun _ => True, fun _ h => h⟩
theorem Sep.pick {w0 w : World} {L R : List Ent} (idx : List Nat) (hn : idx.Nodup) (hl : idx.all (fun i => Nat.blt i L.length) = true) (h : Sep w0 w (L ++ R)) : Sep w0 w (idx.map (fun i => L.getD i unitE) ++ R) := by
  have hlt : ∀ i ∈ idx, i < L.length := fun i hi => by
    have := List.all_eq_true.1 hl i hi
    exact Nat.le_of_ble_eq_true this
  have hg : ∀ i (hi : i < L.length), L.getD i unitE = L[i] := fun i hi => by
    rw [List.getD_eq_getElem?_getD, List.getElem?_eq_getElem hi]; rfl
  have ha := List.pairwise_append.1 h.apart
  have hp := List.pairwise_iff_getElem.1 ha.1
  refine ⟨h.same, fun E hE => ?_, List.pairwise_append.2 ⟨?_, ha.2.1, fun a hA b hb => ?_⟩⟩
  · rcases List.mem_append.1 hE with hE | hE
    · obtain ⟨i, hi, rfl⟩ := List.mem_map.1 hE
      rw [hg i (hlt i hi)]
      exact h.each _ (List.mem_append_left _ (List.getElem_mem _))
    · exact h.each E (List.mem_append_right _ hE)
  · rw [List.pairwise_map]
    refine List.Pairwise.imp_of_mem (fun {i j} hi hj hij => ?_) hn
    rw [hg i (hlt i hi), hg j (hlt j hj)]
    rcases Nat.lt_or_ge i j with h1 | h1
    · exact hp i j (hlt i hi) (hlt j hj) h1
    · intro g h2 h3
      exact hp j i (hlt j hj) (hlt i hi) (by omega) g h3 h2
  · obtain ⟨i, hi, rfl⟩ := List.mem_map.1 hA
    rw [hg i (hlt i hi)]
    exact ha.2.2 _ (List.getElem_mem _) b hb
end Go.Proofs.Ytgnhakgfgdelpaa

-- espalierlaw09.pair.turn: the walk.
namespace Go.Proofs.Ytgnhakgfgdelpaa
open Go.RowKit Go.Maps
theorem wrap_u8b (n : Int) : ∃ x : UInt8, IntKind.u8.wrap n = (x.toNat : Int) := by
  refine ⟨UInt8.ofNat (n % 256).toNat, ?_⟩
  rw [IntKind.wrap_u8]
  simp
  omega
section
variable {w0 w : World} {pb gb gm gb2 gm2 : Nat} {pv pv2 : Int → Option Value} {fv c3 c4 c5 c6 : Value} {S : BS} {firsts : List Int} {L : List Ent}
/-- Both benches, the pair's own block, the first pages. -/
abbrev prH (pb gb gm gb2 gm2 : Nat) (pv pv2 : Int → Option Value) (S : BS) (fv c3 c4 c5 c6 : Value) (firsts : List Int) (L : List Ent) : List Ent :=
  blkE pb 59 [.pointer (some ⟨gb, 0, none⟩), .pointer (some ⟨gb2, 0, none⟩), fv, c3, c4, c5, c6] :: benchE gb gm pv S :: benchE gb2 gm2 pv2 S :: intsE fv firsts :: L
theorem lay_both {W : World} (hS : Sep w0 W (prH pb gb gm gb2 gm2 pv pv2 S fv c3 c4 c5 c6 firsts L)) (n : Int) (hn : i64w n) (x : Value) (d : List UInt8) (hx : ∃ E ∈ L, ∀ w, E.p w → RdB w x d) (hd : d.length ≤ 200000) :
    Calls Try.prog 55 #[.pointer (some ⟨gb, 0, none⟩), .int .i64 n, x] W fun e w' => e = .returned (.int .i64 (layZ S n)) ∧ ∃ pv', Sep w0 w' (benchE gb gm pv' (layS S n d) :: blkE pb 59 [.pointer (some ⟨gb, 0, none⟩), .pointer (some ⟨gb2, 0, none⟩), fv, c3, c4, c5, c6] :: benchE gb2 gm2 pv2 S :: intsE fv firsts :: L) :=
  BLay_any hS.sw1 n hn x d (hS.tail.tail.tail.tail.rdIn hx) hd
set_option maxRecDepth 100000 in
set_option maxHeartbeats 16000000 in
theorem turn_sep (hS : Sep w0 w (prH pb gb gm gb2 gm2 pv pv2 S fv c3 c4 c5 c6 firsts L)) (k f n fr to_ : Int) (v : Value) (hf : i64w f) (hfl : firsts.length ≤ 100000000) (hfi : ∀ x ∈ firsts, i64w x) (hto : i64w to_) (hfr : i64w fr) :
    Calls Try.prog 56 #[.pointer (some ⟨pb, 0, none⟩), opV k f n fr to_ v] w fun e w' => (∃ x, e = .returned x) ∧ ∃ pv' pv2' S', Sep w0 w' (prH pb gb gm gb2 gm2 pv' pv2' S' fv c3 c4 c5 c6 firsts L) := by
  have hB : Below w.heap.size w (w.alloc (.cells #[.int .i64 k, .int .i64 f, .int .i64 n, .int .i64 fr, .int .i64 to_, v] 61)) := (Below.refl _ _).alloc (Nat.le_refl _) _
  have hS1 := hS.alloc 61 [.int .i64 k, .int .i64 f, .int .i64 n, .int .i64 fr, .int .i64 to_, v]
  have hS1 : Sep w0 (w.alloc (.cells #[.int .i64 k, .int .i64 f, .int .i64 n, .int .i64 fr, .int .i64 to_, v] 61)) (blkE w.heap.size 61 [.int .i64 k, .int .i64 f, .int .i64 n, .int .i64 fr, .int .i64 to_, v] :: prH pb gb gm gb2 gm2 pv pv2 S fv c3 c4 c5 c6 firsts L) := hS1
  have hbx : OBlk (w.alloc (.cells #[.int .i64 k, .int .i64 f, .int .i64 n, .int .i64 fr, .int .i64 to_, v] 61)) w.heap.size 61 [.int .i64 k, .int .i64 f, .int .i64 n, .int .i64 fr, .int .i64 to_, v] := hS1.head
  have b0 := hbx.cell' (j := 0) rfl
  have b1 := hbx.cell' (j := 1) rfl
  have b2 := hbx.cell' (j := 2) rfl
  have b3 := hbx.cell' (j := 3) rfl
  have b4 := hbx.cell' (j := 4) rfl
  have b5 := hbx.cell' (j := 5) rfl
  have hnn := firstF_rng hf hfi
  unfold opV
  go_enter Try.func56, Try.ntmps56
  go_upto_region 1 with (fail)
  generalize w.alloc (.cells #[.int .i64 k, .int .i64 f, .int .i64 n, .int .i64 fr, .int .i64 to_, v] 61) = w9 at *
  obtain ⟨g, hg⟩ : ∃ g, w.heap.size = g := ⟨_, rfl⟩
  rw [hg] at hS1 hbx b0 b1 b2 b3 b4 b5 ⊢
  have hS1f : Sep w0 w9 (blkE pb 59 [.pointer (some ⟨gb, 0, none⟩), .pointer (some ⟨gb2, 0, none⟩), fv, c3, c4, c5, c6] :: intsE fv firsts :: [blkE g 61 [.int .i64 k, .int .i64 f, .int .i64 n, .int .i64 fr, .int .i64 to_, v], benchE gb gm pv S, benchE gb2 gm2 pv2 S] ++ L) := hS1.sw1.sn [_, _, _]
  have hFi := first_sep hS1f k f n fr to_ v hf hfl
  unfold opV at hFi
  go_upto_region 2 with (first
    | (go_at_call 48; (with_reducible refine hFi.mono ?_); rintro e w1 ⟨rfl, hB1⟩)
    | fail)
  have hS2 := hS1.below hB1
  clear hFi hS1 hS1f b0 b1 b2 b3 b4 b5 hbx hS hB hg
  generalize firstF firsts f = m at *
  have hS3 : Sep w0 w1 (blkE pb 59 [.pointer (some ⟨gb, 0, none⟩), .pointer (some ⟨gb2, 0, none⟩), fv, c3, c4, c5, c6] :: benchE gb gm pv S :: benchE gb2 gm2 pv2 S :: intsE fv firsts :: blkE g 61 [.int .i64 k, .int .i64 f, .int .i64 n, .int .i64 fr, .int .i64 to_, v] :: L) := Sep.pick (L := [_, _, _, _, _]) [1, 2, 3, 4, 0] (by decide) rfl hS2
  have hPg := page_sep hS3 m hnn
  have hdl : (pageB S m).length ≤ 200000 := by
    unfold pageB
    cases hh : S.held m with
    | none => simp
    | some l => exact (show (benchE gb gm pv S).p w1 from hS3.tail.head).2.2.1.len m l hh
  clear hS2
  generalize pageB S m = b at *
  generalize pageS S m = S1 at *
  go_upto_region 3 with (first
    | (go_at_call 67; (with_reducible refine hPg.mono ?_); rintro e w2 ⟨u, rfl, hS4⟩)
    | fail)
  clear hPg hS3
  have hub : OwB w2 0 u b := hS4.head
  have hob : OBlk w2 g 61 [.int .i64 k, .int .i64 f, .int .i64 n, .int .i64 fr, .int .i64 to_, v] := hS4.tail.tail.tail.tail.tail.head
  have b0 := hob.cell' (j := 0) rfl
  have b3 := hob.cell' (j := 3) rfl
  have b4 := hob.cell' (j := 4) rfl
  by_cases hb0 : b.length = 0
  · obtain ⟨A, c, rfl, -⟩ := (OwB.rd hub).form
    have e1 : ((b.length : Int) == 0) = true := by rw [hb0]; rfl
    clear hb0
    go_wp2_with fail
    first | refine bodyPost_end (results_none rfl _ _ _) rfl ?_ | refine bodyPost_ret (results_none rfl _ _ _) rfl ?_
    exact ⟨⟨_, rfl⟩, pv, pv2, S1, Sep.pick (L := [_, _, _, _, _, _]) [1, 2, 3, 4] (by decide) rfl hS4⟩
  · obtain ⟨gu, cu, rfl⟩ := hub.some' rfl (by omega)
    have e1 : ((b.length : Int) == 0) = false := beq_eq_false_iff_ne.2 (by omega)
    by_cases k7 : k = 7
    · have e7 : (k == 7) = true := by rw [k7]; rfl
      clear k7
      by_cases hr : 0 ≤ to_ ∧ to_ < (b.length : Int)
      · obtain ⟨tn, rfl⟩ : ∃ tn : Nat, to_ = (tn : Int) := ⟨to_.toNat, by omega⟩
        have htn : tn < b.length := by omega
        have i1 : (0 : Int) ≤ (tn : Int) := by omega
        have i2 : (tn : Int) < (b.length : Int) := by omega
        obtain ⟨x, hx⟩ := wrap_u8b fr
        have hf6 := hub.frozen htn
        have hc6 := hub.cell htn
        have hst := hub.set tn x
        have hS5 : Sep w0 (w2.setCell ⟨gu, tn, none⟩ (.int .u8 (x.toNat : Int))) (bytesE (.slice (some ⟨gu, 0, none⟩) b.length cu) (b.set tn x) :: blkE pb 59 [.pointer (some ⟨gb, 0, none⟩), .pointer (some ⟨gb2, 0, none⟩), fv, c3, c4, c5, c6] :: benchE gb gm pv S1 :: benchE gb2 gm2 pv2 S1 :: intsE fv firsts :: blkE g 61 [.int .i64 k, .int .i64 f, .int .i64 n, .int .i64 fr, .int .i64 (tn : Int), v] :: L) :=
          hS4.upd (E' := bytesE (.slice (some ⟨gu, 0, none⟩) b.length cu) (b.set tn x)) (Turn.of_grown (grownBy_setCell w2 ⟨gu, tn, none⟩ _) (fun _ e => e)) (by have := hst; unfold OwB at this; rw [List.length_set] at this; show Own _ _ _ _ _ _ _; rw [List.length_set]; exact this) (fun g hg => ⟨.inl hg, by have := hS4.lt g hg; simpa using this⟩)
        have hdl2 : (b.set tn x).length ≤ 200000 := by rw [List.length_set]; exact hdl
        generalize b[tn] = y at *
        clear hr hub hb0 hst hob
        go_upto_region 11 with (fail)
        clear hf6 hc6 b0 b3 b4
        generalize w2.setCell ⟨gu, tn, none⟩ (.int .u8 (x.toNat : Int)) = w5 at *
        have hT1 : Sep w0 w5 (benchE gb gm pv S1 :: bytesE (.slice (some ⟨gu, 0, none⟩) b.length cu) (b.set tn x) :: blkE pb 59 [.pointer (some ⟨gb, 0, none⟩), .pointer (some ⟨gb2, 0, none⟩), fv, c3, c4, c5, c6] :: benchE gb2 gm2 pv2 S1 :: intsE fv firsts :: blkE g 61 [.int .i64 k, .int .i64 f, .int .i64 n, .int .i64 fr, .int .i64 (tn : Int), v] :: L) := Sep.pick (L := [_, _, _, _]) [2, 0, 1, 3] (by decide) rfl hS5
        have hL1 := BLay_any hT1 m hnn (.slice (some ⟨gu, 0, none⟩) b.length cu) (b.set tn x) (OwB.rd (hT1.tail.head : OwB w5 0 (.slice (some ⟨gu, 0, none⟩) b.length cu) (b.set tn x))) hdl2
        have k0 := OBlk.cell' (show OBlk w5 pb 59 [.pointer (some ⟨gb, 0, none⟩), .pointer (some ⟨gb2, 0, none⟩), fv, c3, c4, c5, c6] from hT1.tail.tail.head) (j := 0) rfl
        go_wp2_with (first
          | (go_at_call 55; (with_reducible refine hL1.mono ?_); rintro e w8 ⟨rfl, pv8, hS8⟩; have k1 := OBlk.cell' (show OBlk w8 pb 59 [.pointer (some ⟨gb, 0, none⟩), .pointer (some ⟨gb2, 0, none⟩), fv, c3, c4, c5, c6] from hS8.tail.tail.head) (j := 1) rfl; have hT2 : Sep w0 w8 (benchE gb2 gm2 pv2 S1 :: benchE gb gm pv8 (layS S1 m (b.set tn x)) :: bytesE (.slice (some ⟨gu, 0, none⟩) b.length cu) (b.set tn x) :: blkE pb 59 [.pointer (some ⟨gb, 0, none⟩), .pointer (some ⟨gb2, 0, none⟩), fv, c3, c4, c5, c6] :: intsE fv firsts :: blkE g 61 [.int .i64 k, .int .i64 f, .int .i64 n, .int .i64 fr, .int .i64 (tn : Int), v] :: L) := Sep.pick (L := [_, _, _, _]) [3, 0, 1, 2] (by decide) rfl hS8; have hL2 := BLay_any hT2 m hnn (.slice (some ⟨gu, 0, none⟩) b.length cu) (b.set tn x) (OwB.rd (hT2.tail.tail.head : OwB w8 0 (.slice (some ⟨gu, 0, none⟩) b.length cu) (b.set tn x))) hdl2)
          | (go_at_call 55; (with_reducible refine hL2.mono ?_); rintro e w9 ⟨rfl, pv9, hS9⟩)
          | fail)
        first | refine bodyPost_end (results_none rfl _ _ _) rfl ?_ | refine bodyPost_ret (results_none rfl _ _ _) rfl ?_
        exact ⟨⟨_, rfl⟩, pv8, pv9, layS S1 m (b.set tn x), Sep.pick (L := [_, _, _, _, _, _]) [3, 1, 0, 4] (by decide) rfl hS9⟩
      · have HR : Hid (to_ < 0 ∨ (b.length : Int) ≤ to_) := Lib.hid (by omega)
        by_cases hr0 : 0 ≤ to_
        · have i1 : ¬ to_ < (b.length : Int) := by omega
          clear hr
          go_upto_region 11 with (fail)
          clear b0 b3 b4 hob
          have hT1 : Sep w0 w2 (benchE gb gm pv S1 :: bytesE (.slice (some ⟨gu, 0, none⟩) b.length cu) b :: blkE pb 59 [.pointer (some ⟨gb, 0, none⟩), .pointer (some ⟨gb2, 0, none⟩), fv, c3, c4, c5, c6] :: benchE gb2 gm2 pv2 S1 :: intsE fv firsts :: blkE g 61 [.int .i64 k, .int .i64 f, .int .i64 n, .int .i64 fr, .int .i64 to_, v] :: L) := Sep.pick (L := [_, _, _, _]) [2, 0, 1, 3] (by decide) rfl hS4
          have hL1 := BLay_any hT1 m hnn (.slice (some ⟨gu, 0, none⟩) b.length cu) b (OwB.rd (hT1.tail.head : OwB w2 0 (.slice (some ⟨gu, 0, none⟩) b.length cu) b)) hdl
          have k0 := OBlk.cell' (show OBlk w2 pb 59 [.pointer (some ⟨gb, 0, none⟩), .pointer (some ⟨gb2, 0, none⟩), fv, c3, c4, c5, c6] from hT1.tail.tail.head) (j := 0) rfl
          go_wp2_with (first
            | (go_at_call 55; (with_reducible refine hL1.mono ?_); rintro e w8 ⟨rfl, pv8, hS8⟩; have k1 := OBlk.cell' (show OBlk w8 pb 59 [.pointer (some ⟨gb, 0, none⟩), .pointer (some ⟨gb2, 0, none⟩), fv, c3, c4, c5, c6] from hS8.tail.tail.head) (j := 1) rfl; have hT2 : Sep w0 w8 (benchE gb2 gm2 pv2 S1 :: benchE gb gm pv8 (layS S1 m b) :: bytesE (.slice (some ⟨gu, 0, none⟩) b.length cu) b :: blkE pb 59 [.pointer (some ⟨gb, 0, none⟩), .pointer (some ⟨gb2, 0, none⟩), fv, c3, c4, c5, c6] :: intsE fv firsts :: blkE g 61 [.int .i64 k, .int .i64 f, .int .i64 n, .int .i64 fr, .int .i64 to_, v] :: L) := Sep.pick (L := [_, _, _, _]) [3, 0, 1, 2] (by decide) rfl hS8; have hL2 := BLay_any hT2 m hnn (.slice (some ⟨gu, 0, none⟩) b.length cu) b (OwB.rd (hT2.tail.tail.head : OwB w8 0 (.slice (some ⟨gu, 0, none⟩) b.length cu) b)) hdl)
            | (go_at_call 55; (with_reducible refine hL2.mono ?_); rintro e w9 ⟨rfl, pv9, hS9⟩)
            | fail)
          first | refine bodyPost_end (results_none rfl _ _ _) rfl ?_ | refine bodyPost_ret (results_none rfl _ _ _) rfl ?_
          exact ⟨⟨_, rfl⟩, pv8, pv9, layS S1 m b, Sep.pick (L := [_, _, _, _, _, _]) [3, 1, 0, 4] (by decide) rfl hS9⟩
        · clear hr
          go_upto_region 11 with (fail)
          clear b0 b3 b4 hob
          have hT1 : Sep w0 w2 (benchE gb gm pv S1 :: bytesE (.slice (some ⟨gu, 0, none⟩) b.length cu) b :: blkE pb 59 [.pointer (some ⟨gb, 0, none⟩), .pointer (some ⟨gb2, 0, none⟩), fv, c3, c4, c5, c6] :: benchE gb2 gm2 pv2 S1 :: intsE fv firsts :: blkE g 61 [.int .i64 k, .int .i64 f, .int .i64 n, .int .i64 fr, .int .i64 to_, v] :: L) := Sep.pick (L := [_, _, _, _]) [2, 0, 1, 3] (by decide) rfl hS4
          have hL1 := BLay_any hT1 m hnn (.slice (some ⟨gu, 0, none⟩) b.length cu) b (OwB.rd (hT1.tail.head : OwB w2 0 (.slice (some ⟨gu, 0, none⟩) b.length cu) b)) hdl
          have k0 := OBlk.cell' (show OBlk w2 pb 59 [.pointer (some ⟨gb, 0, none⟩), .pointer (some ⟨gb2, 0, none⟩), fv, c3, c4, c5, c6] from hT1.tail.tail.head) (j := 0) rfl
          go_wp2_with (first
            | (go_at_call 55; (with_reducible refine hL1.mono ?_); rintro e w8 ⟨rfl, pv8, hS8⟩; have k1 := OBlk.cell' (show OBlk w8 pb 59 [.pointer (some ⟨gb, 0, none⟩), .pointer (some ⟨gb2, 0, none⟩), fv, c3, c4, c5, c6] from hS8.tail.tail.head) (j := 1) rfl; have hT2 : Sep w0 w8 (benchE gb2 gm2 pv2 S1 :: benchE gb gm pv8 (layS S1 m b) :: bytesE (.slice (some ⟨gu, 0, none⟩) b.length cu) b :: blkE pb 59 [.pointer (some ⟨gb, 0, none⟩), .pointer (some ⟨gb2, 0, none⟩), fv, c3, c4, c5, c6] :: intsE fv firsts :: blkE g 61 [.int .i64 k, .int .i64 f, .int .i64 n, .int .i64 fr, .int .i64 to_, v] :: L) := Sep.pick (L := [_, _, _, _]) [3, 0, 1, 2] (by decide) rfl hS8; have hL2 := BLay_any hT2 m hnn (.slice (some ⟨gu, 0, none⟩) b.length cu) b (OwB.rd (hT2.tail.tail.head : OwB w8 0 (.slice (some ⟨gu, 0, none⟩) b.length cu) b)) hdl)
            | (go_at_call 55; (with_reducible refine hL2.mono ?_); rintro e w9 ⟨rfl, pv9, hS9⟩)
            | fail)
          first | refine bodyPost_end (results_none rfl _ _ _) rfl ?_ | refine bodyPost_ret (results_none rfl _ _ _) rfl ?_
          exact ⟨⟨_, rfl⟩, pv8, pv9, layS S1 m b, Sep.pick (L := [_, _, _, _, _, _]) [3, 1, 0, 4] (by decide) rfl hS9⟩
    · have e7 : (k == 7) = false := beq_eq_false_iff_ne.2 k7
      clear k7
      obtain ⟨N, hN⟩ : ∃ N, decN b = N := ⟨_, rfl⟩
      obtain ⟨D, hD⟩ : ∃ D, decD b = D := ⟨_, rfl⟩
      obtain ⟨Z, hZ⟩ : ∃ Z, decZ b = Z := ⟨_, rfl⟩
      have hDe := RSDecode_sep hS4 (OwB.rd hub) hN hD hZ
      clear hN hD hZ
      go_upto_region 8 with (first
        | (go_at_call 19; (with_reducible refine hDe.mono ?_); rintro e w3 ⟨ud, rfl, hS5⟩)
        | fail)
      clear hDe b0 b3 b4 hob hub hS4
      have hob : OBlk w3 g 61 [.int .i64 k, .int .i64 f, .int .i64 n, .int .i64 fr, .int .i64 to_, v] := hS5.tail.tail.tail.tail.tail.tail.head
      have b3 := hob.cell' (j := 3) rfl
      have hEn := RSEncode_sep hS5 fr (P := (b.length : Int)) (OwB.rd (hS5.head : OwB w3 0 ud D))
      obtain ⟨E, hE⟩ : ∃ E, spL fr D (b.length : Int) = E := ⟨_, rfl⟩
      have hel := spL_length fr D (b.length : Int)
      rw [hE] at hEn hel
      generalize spZ fr D (b.length : Int) = Y at *
      go_upto_region 9 with (first
        | (go_at_call 12; (with_reducible refine hEn.mono ?_); rintro e w4 ⟨ue, rfl, hS6⟩)
        | fail)
      have hS7 : Sep w0 w4 (bytesE ue E :: blkE pb 59 [.pointer (some ⟨gb, 0, none⟩), .pointer (some ⟨gb2, 0, none⟩), fv, c3, c4, c5, c6] :: benchE gb gm pv S1 :: benchE gb2 gm2 pv2 S1 :: intsE fv firsts :: blkE g 61 [.int .i64 k, .int .i64 f, .int .i64 n, .int .i64 fr, .int .i64 to_, v] :: L) := Sep.pick (L := [_, _, _, _, _, _, _, _]) [0, 3, 4, 5, 6, 7] (by decide) rfl hS6
      clear hEn hS5 hS6 hob b3 hE
      by_cases z1 : Z = 0
      · by_cases z2 : Y = 0
        · subst z1 z2
          go_upto_region 11 with (fail)
          have hT1 : Sep w0 w4 (benchE gb gm pv S1 :: bytesE ue E :: blkE pb 59 [.pointer (some ⟨gb, 0, none⟩), .pointer (some ⟨gb2, 0, none⟩), fv, c3, c4, c5, c6] :: benchE gb2 gm2 pv2 S1 :: intsE fv firsts :: blkE g 61 [.int .i64 k, .int .i64 f, .int .i64 n, .int .i64 fr, .int .i64 to_, v] :: L) := Sep.pick (L := [_, _, _, _]) [2, 0, 1, 3] (by decide) rfl hS7
          have hL1 := BLay_any hT1 m hnn ue E (OwB.rd (hT1.tail.head : OwB w4 0 ue E)) (by omega)
          have k0 := OBlk.cell' (show OBlk w4 pb 59 [.pointer (some ⟨gb, 0, none⟩), .pointer (some ⟨gb2, 0, none⟩), fv, c3, c4, c5, c6] from hT1.tail.tail.head) (j := 0) rfl
          go_wp2_with (first
            | (go_at_call 55; (with_reducible refine hL1.mono ?_); rintro e w8 ⟨rfl, pv8, hS8⟩; have k1 := OBlk.cell' (show OBlk w8 pb 59 [.pointer (some ⟨gb, 0, none⟩), .pointer (some ⟨gb2, 0, none⟩), fv, c3, c4, c5, c6] from hS8.tail.tail.head) (j := 1) rfl; have hT2 : Sep w0 w8 (benchE gb2 gm2 pv2 S1 :: benchE gb gm pv8 (layS S1 m E) :: bytesE ue E :: blkE pb 59 [.pointer (some ⟨gb, 0, none⟩), .pointer (some ⟨gb2, 0, none⟩), fv, c3, c4, c5, c6] :: intsE fv firsts :: blkE g 61 [.int .i64 k, .int .i64 f, .int .i64 n, .int .i64 fr, .int .i64 to_, v] :: L) := Sep.pick (L := [_, _, _, _]) [3, 0, 1, 2] (by decide) rfl hS8; have hL2 := BLay_any hT2 m hnn ue E (OwB.rd (hT2.tail.tail.head : OwB w8 0 ue E)) (by omega))
            | (go_at_call 55; (with_reducible refine hL2.mono ?_); rintro e w9 ⟨rfl, pv9, hS9⟩)
            | fail)
          first | refine bodyPost_end (results_none rfl _ _ _) rfl ?_ | refine bodyPost_ret (results_none rfl _ _ _) rfl ?_
          exact ⟨⟨_, rfl⟩, pv8, pv9, layS S1 m E, Sep.pick (L := [_, _, _, _, _, _]) [3, 1, 0, 4] (by decide) rfl hS9⟩
        · have e2 : (Y != 0) = true := by simp only [bne, beq_eq_false_iff_ne.2 z2]; rfl
          subst z1
          clear z2
          go_wp2_with fail
          first | refine bodyPost_end (results_none rfl _ _ _) rfl ?_ | refine bodyPost_ret (results_none rfl _ _ _) rfl ?_
          exact ⟨⟨_, rfl⟩, pv, pv2, S1, Sep.pick (L := [_, _, _, _, _, _]) [1, 2, 3, 4] (by decide) rfl hS7⟩
      · have e2 : (Z != 0) = true := by simp only [bne, beq_eq_false_iff_ne.2 z1]; rfl
        clear z1
        go_wp2_with fail
        first | refine bodyPost_end (results_none rfl _ _ _) rfl ?_ | refine bodyPost_ret (results_none rfl _ _ _) rfl ?_
        exact ⟨⟨_, rfl⟩, pv, pv2, S1, Sep.pick (L := [_, _, _, _, _, _]) [1, 2, 3, 4] (by decide) rfl hS7⟩
end
end Go.Proofs.Ytgnhakgfgdelpaa

-- espalierref09.Write: the walk.
namespace Go.Proofs.Ytgnhakgfgdelpaa
open Go.RowKit Go.Maps
theorem piece_cut (v : List UInt8) (h j : Nat) : (v.take (j * h + mCh v.length h j)).drop (j * h) = pieceF v h j := by
  unfold pieceF
  rw [List.drop_take, show j * h + mCh v.length h j - j * h = mCh v.length h j by omega]
section
variable {w0 w : World} {gb gm : Nat} {pv : Int → Option Value} {S : BS} {L : List Ent}
set_option maxRecDepth 100000 in
set_option maxHeartbeats 8000000 in
theorem RWrite_any (hS : Sep w0 w (benchE gb gm pv S :: L)) (x : Value) (v : List UInt8) (hx : RdIn L x v) :
    Calls Try.prog 63 #[.pointer (some ⟨gb, 0, none⟩), x] w fun e w' => e = .returned (.tuple #[.int .i64 (wrF S v).1, .int .i64 (wrF S v).2.1]) ∧ ∃ pv', Sep w0 w' (benchE gb gm pv' (wrF S v).2.2 :: L) := by
  have hv : RdB w x v := hS.tail.rdIn hx
  obtain ⟨A, c, rfl, hm⟩ := hv.form
  by_cases h1 : v.length < 1 ∨ 65536 < v.length
  · have HW : Hid (wrF S v = (0, 31, S)) := Lib.hid (wrF_bad h1)
    by_cases h2 : v.length < 1
    · have i1 : (v.length : Int) < 1 := by omega
      clear h1 h2
      go_enter Try.func63, Try.ntmps63
      go_wp2_with fail
      go_ret2
      rw [HW.out]
      exact ⟨rfl, _, hS⟩
    · have i1 : ¬ (v.length : Int) < 1 := by omega
      have i2 : 65536 < (v.length : Int) := by omega
      clear h1 h2
      go_enter Try.func63, Try.ntmps63
      go_wp2_with fail
      go_ret2
      rw [HW.out]
      exact ⟨rfl, _, hS⟩
  · have hE : (benchE gb gm pv S).p w := hS.head
    have hok := hE.2.2.1
    obtain ⟨hp1, hp2⟩ := isPowB_range hok.page
    have i1 : ¬ (v.length : Int) < 1 := by omega
    have i2 : ¬ 65536 < (v.length : Int) := by omega
    have hNb : nCh v.length (S.page - 16) ≤ 65536 := by
      have := pagesF_bound (p := S.page) (n := v.length) (by omega)
      have := (nCh_pages hok.page (show 1 ≤ v.length by omega)).1
      omega
    have hSz := BSize_any hE
    have hPg := RPages_any (S.page : Int) (v.length : Int) (by unfold i64w; omega) (by unfold i64w; omega) w
    rw [← (nCh_pages hok.page (show 1 ≤ v.length by omega)).1] at hPg
    have hSp := BSpare_any hE ((nCh v.length (S.page - 16) : Nat) : Int) (by unfold i64w; omega)
    have HWr := Lib.hid (wrF_ok hok.page h1)
    have hvl : 1 ≤ v.length := by omega
    clear h1
    obtain ⟨h, Hh⟩ : ∃ h : Nat, Hid (S.page - 16 = h) := ⟨_, Lib.hid rfl⟩
    obtain ⟨N, HN⟩ : ∃ N, Hid (nCh v.length h = N) := ⟨_, Lib.hid rfl⟩
    rw [Hh.out, HN.out] at hNb hPg hSp HWr
    cases hsp : spareF S (N : Int) with
    | false =>
      have HW : Hid (wrF S v = (0, 5, S)) := by show _ = _; rw [HWr.out, if_pos hsp]
      rw [hsp] at hSp
      clear hsp
      go_enter Try.func63, Try.ntmps63
      go_wp2_with (first
        | (go_at_call 65; (with_reducible refine hSz.mono ?_); rintro e w1 ⟨rfl, rfl⟩)
        | (go_at_call 11; (with_reducible refine hPg.mono ?_); rintro e w1 ⟨rfl, rfl⟩)
        | (go_at_call 69; (with_reducible refine hSp.mono ?_); rintro e w1 ⟨rfl, nq, rfl⟩)
        | fail)
      go_ret2
      rw [HW.out]
      exact ⟨rfl, _, hS.drewN nq⟩
    | true =>
      have HW : Hid (wrF S v = wrEnd v N (allocN N S [])) := by show _ = _; rw [HWr.out, if_neg (by rw [hsp]; simp)]
      rw [hsp] at hSp
      clear hsp HWr
      have hh1 : 1 ≤ h := by have := Hh.out; omega
      have hh2 : h ≤ 65536 := by have := Hh.out; omega
      have hNp : 1 ≤ N := by
        have := (nCh_lt (len := v.length) (k := 0) hh1).2 (by omega)
        have := HN.out
        omega
      go_enter Try.func63, Try.ntmps63
      go_upto_region 8 with (first
        | (go_at_call 65; (with_reducible refine hSz.mono ?_); rintro e w1 ⟨rfl, rfl⟩)
        | (go_at_call 11; (with_reducible refine hPg.mono ?_); rintro e w1 ⟨rfl, rfl⟩)
        | (go_at_call 69; (with_reducible refine hSp.mono ?_); rintro e w1 ⟨rfl, nq, rfl⟩)
        | fail)
      have hS2 := hS.drewN nq
      clear hS hv hE hSz hSp hPg
      go_loopw [7, 8] (fun u i wr => ∃ (k : Nat) (Sk : BS) (l : List Int) (pvk : Int → Option Value), k ≤ N ∧ i = .int .i64 (k : Int) ∧ l.length = k ∧ Hid (TakenAt S Sk l) ∧ Hid (allocN N S [] = allocN (N - k) Sk l) ∧
        Sep w0 wr (intsE u l :: benchE gb gm pvk Sk :: L)) (fun _ i _ => N - (intOf i).toNat)
      case atStart => exact ⟨0, S, [], pv, Nat.zero_le _, rfl, rfl, Lib.hid ⟨rfl, rfl, fun _ h => absurd h (by simp), fun _ h => absurd h (by simp)⟩, Lib.hid rfl, hS2.nilI⟩
      case round =>
        clear hS2
        obtain ⟨k, Sk, l, pvk, hk, rfl, hl, HT, HA, hSk⟩ := hrel
        by_cases hlt : k < N
        · have j1 : (k : Int) < (N : Int) := by omega
          have hAl := BAlloc_any hSk.sw1
          cases hf : allocF Sk with
          | none =>
            have HW2 : Hid (wrF S v = (0, 5, Sk)) := by show _ = _; rw [HW.out, allocN_stop hlt HA.out hf]; rfl
            have hz : allocZ Sk = (0, 5) := by unfold allocZ; rw [hf]
            have hs : allocS Sk = Sk := by unfold allocS; rw [hf]
            rw [hz, hs] at hAl
            clear hf hz hs
            go_wp2_with (first
              | (go_at_call 70; (with_reducible refine hAl.mono ?_); rintro e w3 ⟨rfl, pv3, hS3⟩)
              | fail)
            go_ret2
            rw [HW2.out]
            exact ⟨rfl, _, hS3.sw1.tail⟩
          | some n =>
            have HA2 := Lib.hid (allocN_step hlt HA.out hf)
            have hz : allocZ Sk = ((n : Int), 0) := by unfold allocZ; rw [hf]
            have hs : allocS Sk = Sk.put n (some (List.replicate Sk.page 0)) := by unfold allocS; rw [hf]
            have HSP := Lib.hid (allocF_spec hf)
            rw [hz, hs] at hAl
            have hsz : (l.length + 1) * 8 ≤ 140737488355328 := by omega
            clear hf hz hs
            go_wp2_with (first
              | (go_at_call 70; (with_reducible refine hAl.mono ?_); rintro e w3 ⟨rfl, pv3, hS3⟩)
              | (at_builtin; refine wp_append_I1 rfl (.tmp 47) (.tmp 49) rfl 0 _ _ rfl (show OwI w3 0 u7 l from hS3.tail.head) (n : Int) _ rfl hsz (Nat.zero_le _) ?_; intro u2 w4 hO4 hg4 hb4; have hS4 : Sep w0 w4 (intsE u2 (l ++ [(n : Int)]) :: benchE gb gm pv3 (Sk.put n (some (List.replicate Sk.page 0))) :: L) := hS3.sw1.appI hO4 hg4 (by rcases hb4 with e | e; exact .inl e; exact .inr ⟨_, e, by omega⟩); clear hO4 hg4 hb4)
              | fail)
            go_roundw
            case rel =>
              refine ⟨k + 1, _, l ++ [(n : Int)], pv3, by omega, by go_num, by simp; omega, Lib.hid (HT.out.put HSP.out.1 (by have := HSP.out.2.1; rw [HT.out.pages] at this; exact this) _), HA2, hS4⟩
            case measure => simp [intOf]; omega
        · obtain rfl : k = N := by omega
          have HW2 : Hid (wrF S v = (l.getD 0 0, 0, putTo Sk l v k)) := by show _ = _; rw [HW.out, HA.out, Nat.sub_self]; rfl
          clear HA HW
          have hpk : Sk.page = S.page := HT.out.page
          have ewh : IntKind.i64.wrap ((S.page : Int) - 16) = (h : Int) := by have := Hh.out; rw [IntKind.wrap_i64]; omega
          have hSz := fun W (hE : (benchE gb gm pvk Sk).p W) => BSize_any hE
          rw [hpk] at hSz
          clear hpk
          have hsz : (l.length + 1) * 8 ≤ 140737488355328 := by omega
          go_upto_region 17 with (first
            | (at_builtin; refine wp_append_I1 rfl (.tmp 51) (.tmp 52) rfl 0 _ _ rfl (show OwI wr 0 u7 l from hSk.head) (0 : Int) _ rfl hsz (Nat.zero_le _) ?_; intro u w4 hO4 hg4 hb4; have hS4 : Sep w0 w4 (intsE u (l ++ [0]) :: benchE gb gm pvk Sk :: L) := hSk.appI hO4 hg4 (by rcases hb4 with e | e; exact .inl e; exact .inr ⟨_, e, by omega⟩); clear hO4 hg4 hb4)
            | (go_at_call 65; (with_reducible refine (hSz _ hS4.tail.head).mono ?_); rintro e w1 ⟨rfl, rfl⟩)
            | fail)
          clear hSk ewh
          obtain ⟨g4, c4, n4, HK, rfl⟩ : ∃ g4 c4 n4, Hid (n4 = k + 1) ∧ u = .slice (some ⟨g4, 0, none⟩) n4 c4 := by
            have h : OwI w1 0 u (l ++ [0]) := hS4.head
            have := Own.some_ h (by simp)
            rw [List.length_append, hl] at this
            obtain ⟨a, b, e⟩ := this
            exact ⟨a, b, k + 1, Lib.hid rfl, e⟩
          go_loopw [12] (fun i wr => ∃ (j : Nat) (pvj : Int → Option Value), j ≤ k ∧ i = .int .i64 (j : Int) ∧
            Sep w0 wr (benchE gb gm pvj (putTo Sk l v j) :: intsE (.slice (some ⟨g4, 0, none⟩) n4 c4) (l ++ [0]) :: L)) (fun i _ => k - (intOf i).toNat)
          case atStart => exact ⟨0, pvk, Nat.zero_le _, rfl, hS4.sw1⟩
          case round =>
            clear hS4
            obtain ⟨j, pvj, hj, rfl, hSj⟩ := hrel
            have hIj : OwI wr 0 (.slice (some ⟨g4, 0, none⟩) n4 c4) (l ++ [0]) := hSj.tail.head
            have hlen : (l ++ [0]).length = k + 1 := by simp [hl]
            by_cases hlt2 : j < k
            · have hjl : j < l.length := by omega
              have hkn : j < nCh v.length h := by have := HN.out; omega
              have hrv : RdB wr (.slice A v.length c) v := hSj.tail.tail.rdIn hx
              have hjh := (nCh_lt hh1).1 hkn
              have hpk : Sk.page = S.page := HT.out.page
              obtain ⟨hr1, hr2⟩ := piece_rng hh1 hkn
              have hz := spZ_piece hok.page (nextP_rng HT.out hok.hi j) hr1 (by have := Hh.out; omega)
              have hl' : spL (nextP l j) (pieceF v h j) (S.page : Int) = laidS (nextP l j) (pieceF v h j) S.page := by unfold spL; rw [if_pos hz]; rfl
              obtain ⟨wz, ws⟩ := putTo_write (S := S) (S' := Sk) (l := l) (v := v) (k := j) (by rw [hpk]; exact hok.page) HT.out hjl (by rw [hpk, Hh.out]; exact hr2)
              rw [hpk, Hh.out] at wz ws
              have hnx := nextP_rng HT.out hok.hi j
              have hpr : l.getD j 0 ∈ l := by
                rw [List.getD_eq_getElem?_getD, List.getElem?_eq_getElem hjl]
                exact List.getElem_mem hjl
              have hpn := HT.out.rng _ hpr
              have hhi := hok.hi
              have hcn : ∀ W, OwI W 0 (.slice (some ⟨g4, 0, none⟩) n4 c4) (l ++ [0]) → W.cell? ⟨g4, j + 1, none⟩ = some (.int .i64 (nextP l j)) := fun W h => by rw [h.cell (j := j + 1) (by omega), next_at l j (by omega)]
              have hcp : ∀ W, OwI W 0 (.slice (some ⟨g4, 0, none⟩) n4 c4) (l ++ [0]) → W.cell? ⟨g4, j, none⟩ = some (.int .i64 (l.getD j 0)) := fun W h => by rw [h.cell (j := j) (by omega), page_at l j hjl]
              obtain ⟨lo, Hlo⟩ : ∃ lo : Nat, Hid (j * h = lo) := ⟨_, Lib.hid rfl⟩
              obtain ⟨to_, Hto⟩ : ∃ t : Nat, Hid (lo + mCh v.length h j = t) := ⟨_, Lib.hid rfl⟩
              have hmc : mCh v.length h j = min h (v.length - j * h) := rfl
              rw [Hlo.out] at hmc hjh
              have hto1 : lo ≤ to_ ∧ to_ ≤ v.length := by have := Hto.out; omega
              obtain ⟨A2, c2, q2, hck⟩ := hrv.run_lh lo to_ hto1.1 hto1.2
              have hpc : (v.take to_).drop lo = pieceF v h j := by rw [← Hto.out, ← Hlo.out]; exact piece_cut v h j
              rw [hpc] at hck
              have hE1 := RSEncode_any (nextP l j) (.slice A2 (to_ - lo) c2) (pieceF v h j) (S.page : Int) wr.drew hck.drew
              rw [hz, hl'] at hE1
              have hSd := hSj.drew
              have hSz2 := BSize_any hSd.head
              rw [(putTo_page Sk l v j).1, hpk] at hSz2
              have cn0 := hcn wr.drew hSd.tail.head
              have gl4 : g4 < wr.drew.heap.size := hSd.tail.lt g4 rfl
              have j1 : (j : Int) < (k : Int) := by omega
              have j2 : (0 : Int) ≤ (j : Int) + 1 := by omega
              have j3 : (j : Int) + 1 < (n4 : Int) := by have := HK.out; omega
              have ew1 : IntKind.i64.wrap ((j : Int) + 1) = (j : Int) + 1 := by rw [IntKind.wrap_i64]; omega
              have j4 : (j : Int) < (n4 : Int) := by have := HK.out; omega
              have j5 : (0 : Int) ≤ (lo : Int) := by omega
              have j6 : (lo : Int) ≤ (to_ : Int) := by omega
              have j7 : (to_ : Int) ≤ (v.length : Int) := by omega
              have em1 : (h : Int) * (j : Int) = (lo : Int) := by rw [← Hlo.out]; push_cast; exact Int.mul_comm _ _
              have em2 : (h : Int) * ((j : Int) + 1) = ((lo + h : Nat) : Int) := by rw [Int.mul_add, em1]; push_cast; omega
              have ewa : IntKind.i64.wrap ((h : Int) * (j : Int)) = (lo : Int) := by rw [em1, IntKind.wrap_i64]; omega
              have ewb : IntKind.i64.wrap ((h : Int) * ((j : Int) + 1)) = ((lo + h : Nat) : Int) := by rw [em2, IntKind.wrap_i64]; omega
              have emin : (if (v.length : Int) < ((lo + h : Nat) : Int) then (v.length : Int) else ((lo + h : Nat) : Int)) = (to_ : Int) := by
                have := Hto.out
                split <;> omega
              have HMIN := Lib.hid emin
              have hNx : i64w (l.getD j 0) := by unfold i64w; omega
              have hWq := fun (W : World) (pu : Value) (hS : Sep w0 W (benchE gb gm pvj (putTo Sk l v j) :: bytesE pu (laidS (nextP l j) (pieceF v h j) S.page) :: intsE (.slice (some ⟨g4, 0, none⟩) n4 c4) (l ++ [0]) :: L)) => BWrite_any hS (l.getD j 0) hNx pu _ (OwB.rd hS.tail.head)
              rw [wz, ws] at hWq
              clear hrv hck hpk hz hl' wz ws hnx hpr hpn hr1 hr2 hSz hIj hkn hNx hpc hmc hto1 em1 em2 emin
              generalize laidS (nextP l j) (pieceF v h j) S.page = pg at *
              generalize nextP l j = nx at *
              generalize l.getD j 0 = pj at *
              generalize ((lo + h : Nat) : Int) = t1 at *
              go_upto_region 20 with (fail)
              rw [HMIN.out]
              go_region_held3 (fun w' => w'.cell? ⟨g4, j + 1, none⟩ = some (.int .i64 nx))
                (first | exact cn0 | exact (hB7.cell (p := ⟨g4, j + 1, none⟩) gl4).trans cn0)
                (first
                  | (go_at_call 65; (with_reducible refine hSz2.mono ?_); rintro e w1 ⟨rfl, rfl⟩)
                  | (go_at_call 12; (with_reducible refine hE1.mono ?_); rintro e w7 ⟨pu, rfl, ho7, hB7⟩)
                  | fail)
              have hS7 := hSd.bytes hB7 ho7 (Nat.le_refl _)
              have cp7 := hcp w7 (hS7.tail.tail.head)
              have hW7 := hWq w7 pu hS7.sw1
              clear hWq cn0 gl4 hE1 hSz2 hSd hSj ho7 hB7
              go_wp2_with (first
                | (go_at_call 71; (with_reducible refine hW7.mono ?_); rintro e w8 ⟨rfl, pv8, hS8⟩)
                | fail)
              go_roundw
              case rel => exact ⟨j + 1, pv8, by omega, by go_num, hS8.sw1.tail⟩
              case measure => simp [intOf]; omega
            · obtain rfl : j = k := by omega
              have c0 : wr.cell? ⟨g4, 0, none⟩ = some (.int .i64 (l.getD 0 0)) := by
                rw [hIj.cell (j := 0) (by omega), page_at l 0 (by omega)]
              clear hIj hlen
              have i0 : (0 : Int) < (n4 : Int) := by have := HK.out; omega
              go_wp2_with fail
              go_ret2
              rw [HW2.out]
              exact ⟨rfl, _, hSj.sw1.tail⟩
end
end Go.Proofs.Ytgnhakgfgdelpaa
