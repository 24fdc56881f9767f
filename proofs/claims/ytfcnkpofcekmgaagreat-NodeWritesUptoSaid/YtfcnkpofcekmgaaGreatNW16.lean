/- Texts joined: packed.Decode; node.Encode, Decode, Fits, Fill; node.Half; Pieces picked by number; A block that is a piece.; A row of cells -/
import Derived.Test.YtfcnkpofcekmgaaGreatNW3
import Derived.Test.YtfcnkpofcekmgaaGreatNW4
import Derived.Test.YtfcnkpofcekmgaaGreatNW6
import Derived.Test.YtfcnkpofcekmgaaGreatNW8
import Derived.Test.YtfcnkpofcekmgaaGreatNW9
import Derived.Test.YtfcnkpofcekmgaaGreatNW11
import Derived.Test.YtfcnkpofcekmgaaGreatNW12
import Derived.Test.YtfcnkpofcekmgaaGreatNW14
import Derived.Test.YtfcnkpofcekmgaaGreatNW15
import Derived.Deep.CutBlock
import Derived.Lib.AppendZeros
import Derived.Lib.Overlaps
-- packed.Decode: the walk.
namespace Go.Proofs.YtfcnkpofcekmgaaGreat
open Go.RowKit
end Go.Proofs.YtfcnkpofcekmgaaGreat

-- node.Encode, Decode, Fits, Fill: walks.
namespace Go.Proofs.YtfcnkpofcekmgaaGreat
open Go.RowKit
set_option maxRecDepth 20000 in
set_option maxHeartbeats 1000000 in
theorem NdEnc_1 (kind : Int) (v : Value) (l : List CV) (P : Int) (hPr : i64r P) (w : World) (hl : RdCs w v l) (hn : l.length ≤ 2000000000000) :
    Calls Tryz.prog 25 #[.int .i64 1, .int .i64 kind, v, .int .i64 P] w fun e w' => ∃ u, e = .returned (.tuple #[u, .int .i64 (encZ kind (pcs l) P)]) ∧ OwB w' w.heap.size u (encL kind (pcs l) P) ∧ Below w.heap.size w w' := by
  have hsf := st_func
  have hl0 := hl
  obtain ⟨A, c, rfl, hm, hc⟩ := hl.slice
  clear hl hc
  go_enter Tryz.func25, Tryz.ntmps25
  go_upto_region 2 with (first
    | (go_at_call 38; (with_reducible refine (of_1 _).mono ?_); rintro e w1 ⟨rfl, hw1⟩)
    | fail)
  have hS := ((Sep.start w).below hw1).alloc 81 engL1
  unfold engL1 at *
  generalize hW2 : w1.alloc (.cells #[.func (.func 68) #[] #[], .func (.func 71) #[] #[], .func (.func 73) #[] #[], .func (.func 74) #[] #[], .func (.func 75) #[] #[]] 81) = w2 at *
  generalize w1.heap.size = g at *
  clear hW2
  obtain ⟨-, -, -, y3, -⟩ := (show OBlk w2 g 81 [.func (.func 68) #[] #[], .func (.func 71) #[] #[], .func (.func 73) #[] #[], .func (.func 74) #[] #[], .func (.func 75) #[] #[]] from hS.head).cells5'
  have hb2 := hS.belowOld (_v := w) (by simp)
  have hE := PEncZ kind _ l P hPr w2 (hl0.below hb2) hn
  obtain ⟨z, hz⟩ : ∃ z, encZ kind (pcs l) P = z := ⟨_, rfl⟩
  rw [hz] at hE
  have HZ := Lib.hid hz
  clear hS hw1 hz
  go_wp2_with fail
  refine hE.mono ?_
  rintro e w3 ⟨u, rfl, ho, hb⟩
  have ho' := OwB.base_le ho (b := w.heap.size) (fun g hg => Nat.le_trans hb2.size (Own.lt ho g hg).1)
  have hB := hb2.trans (hb.mono hb2.size)
  obtain ⟨U, uc, rfl⟩ := Own.slice ho
  clear ho hb hE
  go_wp2_with fail
  go_ret2
  rw [HZ.out]
  exact ⟨_, rfl, ho', hB⟩
set_option maxRecDepth 20000 in
set_option maxHeartbeats 1000000 in
theorem NdFit_1 (kind : Int) (v : Value) (l : List CV) (P : Int) (hPr : i64r P) (w : World) (hl : RdCs w v l) (hn : l.length ≤ 2000000000000) :
    Calls Tryz.prog 26 #[.int .i64 1, .int .i64 kind, v, .int .i64 P] w fun e w' => e = .returned (.bool (encZ kind (pcs l) P == 0)) ∧ Below w.heap.size w w' := by
  have hE := NdEnc_1 kind v l P hPr w hl hn
  obtain ⟨A, c, rfl, hm, hc⟩ := hl.slice
  obtain ⟨z, hz⟩ : ∃ z, encZ kind (pcs l) P = z := ⟨_, rfl⟩
  rw [hz] at hE
  have HZ := Lib.hid hz
  clear hl hc hz
  go_enter Tryz.func26, Tryz.ntmps26
  go_wp2_with (first
    | (go_at_call 25; (with_reducible refine hE.mono ?_); rintro e w3 ⟨u, rfl, ho, hb⟩; clear ho)
    | fail)
  go_ret
  rw [HZ.out]
  exact ⟨rfl, hb⟩
set_option maxRecDepth 20000 in
set_option maxHeartbeats 1000000 in
theorem NdFil_1 (kind : Int) (v : Value) (l : List CV) (P : Nat) (hp : isPowB (P : Int) = true) (w : World) (hl : RdCs w v l) (hf : Fit (pcs l)) (hz : sizeF (pcs l) * 256 ≤ 9223372036854775807) :
    Calls Tryz.prog 27 #[.int .i64 1, .int .i64 kind, v, .int .i64 (P : Int)] w fun e w' => e = .returned (.int .i64 ((sizeF (pcs l) * 256 / P : Nat) : Int)) ∧ Below w.heap.size w w' := by
  have hsf := st_func
  have hr := isPowB_range hp
  have hi := fun W => NdIsPage_any (P : Int) (by omega) W
  rw [hp] at hi
  have hl0 := hl
  obtain ⟨A, c, rfl, hm, hc⟩ := hl.slice
  clear hl hc hp
  go_enter Tryz.func27, Tryz.ntmps27
  go_upto_region 2 with (first
    | (go_at_call 38; (with_reducible refine (of_1 _).mono ?_); rintro e w1 ⟨rfl, hw1⟩)
    | fail)
  have hS := ((Sep.start w).below hw1).alloc 81 engL1
  unfold engL1 at *
  generalize hW2 : w1.alloc (.cells #[.func (.func 68) #[] #[], .func (.func 71) #[] #[], .func (.func 73) #[] #[], .func (.func 74) #[] #[], .func (.func 75) #[] #[]] 81) = w2 at *
  generalize w1.heap.size = g at *
  clear hW2
  obtain ⟨-, -, y2, -, -⟩ := (show OBlk w2 g 81 [.func (.func 68) #[] #[], .func (.func 71) #[] #[], .func (.func 73) #[] #[], .func (.func 74) #[] #[], .func (.func 75) #[] #[]] from hS.head).cells5'
  have hb2 := hS.belowOld (_v := w) (by simp)
  have hE := Size_any kind _ l w2 (hl0.below hb2) hf
  obtain ⟨z, hzz⟩ : ∃ z, sizeF (pcs l) = z := ⟨_, rfl⟩
  rw [hzz] at hE hz
  have HZ := Lib.hid hzz
  have e1 : IntKind.i64.wrap ((z : Int) * 256) = (z : Int) * 256 := by rw [IntKind.wrap_i64]; omega
  have e2 : IntKind.i64.wrap ((z : Int) * 256 / (P : Int)) = (z : Int) * 256 / (P : Int) := by
    have h1 : (z : Int) * 256 / (P : Int) = ((z * 256 / P : Nat) : Int) := by push_cast; rfl
    have h2 := Nat.div_le_self (z * 256) P
    have h3 : 0 ≤ (z : Int) * 256 / (P : Int) := by rw [h1]; exact Int.natCast_nonneg _
    have h4 : (z : Int) * 256 / (P : Int) ≤ 9223372036854775807 := by
      rw [h1]; exact Int.le_trans (Int.ofNat_le.2 h2) (by omega)
    rw [IntKind.wrap_i64]
    generalize (z : Int) * 256 / (P : Int) = q at *
    omega
  have e3 : ((P : Int) == 0) = false := beq_eq_false_iff_ne.2 (by omega)
  have e4 : ¬ (P : Int) = 0 := by omega
  clear hS hw1 hzz
  go_upto_region 4 with (first
    | (go_at_call 62; (with_reducible refine (hi _).mono ?_); rintro e w3 ⟨rfl, rfl⟩)
    | fail)
  go_wp2_with fail
  refine hE.mono ?_
  rintro e w3 ⟨rfl, hb⟩
  go_wp2_with fail
  go_ret
  have h9 : ((sizeF (pcs l) * 256 / P : Nat) : Int) = (z : Int) * 256 / (P : Int) := by rw [HZ.out]; push_cast; rfl
  rw [h9]
  exact ⟨rfl, hb2.trans (hb.mono hb2.size)⟩
set_option maxRecDepth 20000 in
set_option maxHeartbeats 1000000 in
theorem NdEnc_2 (kind : Int) (v : Value) (l : List CV) (P : Int) (hPr : i64r P) (w : World) (hl : RdCs w v l) (hn : l.length ≤ 2000000000000) :
    Calls Tryz.prog 25 #[.int .i64 2, .int .i64 kind, v, .int .i64 P] w fun e w' => ∃ u, e = .returned (.tuple #[u, .int .i64 (encKZ kind (pcs l) P)]) ∧ OwB w' w.heap.size u (encKL kind (pcs l) P) ∧ Below w.heap.size w w' := by
  have hsf := st_func
  have hl0 := hl
  obtain ⟨A, c, rfl, hm, hc⟩ := hl.slice
  clear hl hc
  go_enter Tryz.func25, Tryz.ntmps25
  go_upto_region 2 with (first
    | (go_at_call 38; (with_reducible refine (of_2 _).mono ?_); rintro e w1 ⟨rfl, hw1⟩)
    | fail)
  have hS := ((Sep.start w).below hw1).alloc 81 engL2
  unfold engL2 at *
  generalize hW2 : w1.alloc (.cells #[.func (.func 76) #[] #[], .func (.func 79) #[] #[], .func (.func 81) #[] #[], .func (.func 82) #[] #[], .func (.func 83) #[] #[]] 81) = w2 at *
  generalize w1.heap.size = g at *
  clear hW2
  obtain ⟨-, -, -, y3, -⟩ := (show OBlk w2 g 81 [.func (.func 76) #[] #[], .func (.func 79) #[] #[], .func (.func 81) #[] #[], .func (.func 82) #[] #[], .func (.func 83) #[] #[]] from hS.head).cells5'
  have hb2 := hS.belowOld (_v := w) (by simp)
  have hE := KEncZ kind _ l P hPr w2 (hl0.below hb2) hn
  obtain ⟨z, hz⟩ : ∃ z, encKZ kind (pcs l) P = z := ⟨_, rfl⟩
  rw [hz] at hE
  have HZ := Lib.hid hz
  clear hS hw1 hz
  go_wp2_with fail
  refine hE.mono ?_
  rintro e w3 ⟨u, rfl, ho, hb⟩
  have ho' := OwB.base_le ho (b := w.heap.size) (fun g hg => Nat.le_trans hb2.size (Own.lt ho g hg).1)
  have hB := hb2.trans (hb.mono hb2.size)
  obtain ⟨U, uc, rfl⟩ := Own.slice ho
  clear ho hb hE
  go_wp2_with fail
  go_ret2
  rw [HZ.out]
  exact ⟨_, rfl, ho', hB⟩
set_option maxRecDepth 20000 in
set_option maxHeartbeats 1000000 in
theorem NdFit_2 (kind : Int) (v : Value) (l : List CV) (P : Int) (hPr : i64r P) (w : World) (hl : RdCs w v l) (hn : l.length ≤ 2000000000000) :
    Calls Tryz.prog 26 #[.int .i64 2, .int .i64 kind, v, .int .i64 P] w fun e w' => e = .returned (.bool (encKZ kind (pcs l) P == 0)) ∧ Below w.heap.size w w' := by
  have hE := NdEnc_2 kind v l P hPr w hl hn
  obtain ⟨A, c, rfl, hm, hc⟩ := hl.slice
  obtain ⟨z, hz⟩ : ∃ z, encKZ kind (pcs l) P = z := ⟨_, rfl⟩
  rw [hz] at hE
  have HZ := Lib.hid hz
  clear hl hc hz
  go_enter Tryz.func26, Tryz.ntmps26
  go_wp2_with (first
    | (go_at_call 25; (with_reducible refine hE.mono ?_); rintro e w3 ⟨u, rfl, ho, hb⟩; clear ho)
    | fail)
  go_ret
  rw [HZ.out]
  exact ⟨rfl, hb⟩
set_option maxRecDepth 20000 in
set_option maxHeartbeats 1000000 in
theorem NdFil_2 (kind : Int) (v : Value) (l : List CV) (P : Nat) (hp : isPowB (P : Int) = true) (w : World) (hl : RdCs w v l) (hf : bigK (pcs l) ≤ 1152921504606846976) (hz : psizeF kind (pcs l) * 256 ≤ 9223372036854775807) :
    Calls Tryz.prog 27 #[.int .i64 2, .int .i64 kind, v, .int .i64 (P : Int)] w fun e w' => e = .returned (.int .i64 ((psizeF kind (pcs l) * 256 / P : Nat) : Int)) ∧ Below w.heap.size w w' := by
  have hsf := st_func
  have hr := isPowB_range hp
  have hi := fun W => NdIsPage_any (P : Int) (by omega) W
  rw [hp] at hi
  have hl0 := hl
  obtain ⟨A, c, rfl, hm, hc⟩ := hl.slice
  clear hl hc hp
  go_enter Tryz.func27, Tryz.ntmps27
  go_upto_region 2 with (first
    | (go_at_call 38; (with_reducible refine (of_2 _).mono ?_); rintro e w1 ⟨rfl, hw1⟩)
    | fail)
  have hS := ((Sep.start w).below hw1).alloc 81 engL2
  unfold engL2 at *
  generalize hW2 : w1.alloc (.cells #[.func (.func 76) #[] #[], .func (.func 79) #[] #[], .func (.func 81) #[] #[], .func (.func 82) #[] #[], .func (.func 83) #[] #[]] 81) = w2 at *
  generalize w1.heap.size = g at *
  clear hW2
  obtain ⟨-, -, y2, -, -⟩ := (show OBlk w2 g 81 [.func (.func 76) #[] #[], .func (.func 79) #[] #[], .func (.func 81) #[] #[], .func (.func 82) #[] #[], .func (.func 83) #[] #[]] from hS.head).cells5'
  have hb2 := hS.belowOld (_v := w) (by simp)
  have hE := KSize_any kind _ l w2 (hl0.below hb2) hf
  obtain ⟨z, hzz⟩ : ∃ z, psizeF kind (pcs l) = z := ⟨_, rfl⟩
  rw [hzz] at hE hz
  have HZ := Lib.hid hzz
  have e1 : IntKind.i64.wrap ((z : Int) * 256) = (z : Int) * 256 := by rw [IntKind.wrap_i64]; omega
  have e2 : IntKind.i64.wrap ((z : Int) * 256 / (P : Int)) = (z : Int) * 256 / (P : Int) := by
    have h1 : (z : Int) * 256 / (P : Int) = ((z * 256 / P : Nat) : Int) := by push_cast; rfl
    have h2 := Nat.div_le_self (z * 256) P
    have h3 : 0 ≤ (z : Int) * 256 / (P : Int) := by rw [h1]; exact Int.natCast_nonneg _
    have h4 : (z : Int) * 256 / (P : Int) ≤ 9223372036854775807 := by
      rw [h1]; exact Int.le_trans (Int.ofNat_le.2 h2) (by omega)
    rw [IntKind.wrap_i64]
    generalize (z : Int) * 256 / (P : Int) = q at *
    omega
  have e3 : ((P : Int) == 0) = false := beq_eq_false_iff_ne.2 (by omega)
  have e4 : ¬ (P : Int) = 0 := by omega
  clear hS hw1 hzz
  go_upto_region 4 with (first
    | (go_at_call 62; (with_reducible refine (hi _).mono ?_); rintro e w3 ⟨rfl, rfl⟩)
    | fail)
  go_wp2_with fail
  refine hE.mono ?_
  rintro e w3 ⟨rfl, hb⟩
  go_wp2_with fail
  go_ret
  have h9 : ((psizeF kind (pcs l) * 256 / P : Nat) : Int) = (z : Int) * 256 / (P : Int) := by rw [HZ.out]; push_cast; rfl
  rw [h9]
  exact ⟨rfl, hb2.trans (hb.mono hb2.size)⟩
set_option maxRecDepth 20000 in
set_option maxHeartbeats 1000000 in
theorem NdEnc_no (n kind : Int) (h1 : n ≠ 1) (h2 : n ≠ 2) (A : Option Addr) (m c : Nat) (P : Int) (w : World) :
    Calls Tryz.prog 25 #[.int .i64 n, .int .i64 kind, .slice A m c, .int .i64 P] w fun e w' => e = .returned (.tuple #[.slice none 0 0, .int .i64 80]) ∧ Below w.heap.size w w' := by
  have hf := of_no n h1 h2 w
  have hsn := st_nilFunc
  clear h1 h2
  go_enter Tryz.func25, Tryz.ntmps25
  go_wp2_with (first
    | (go_at_call 38; (with_reducible refine hf.mono ?_); rintro e w1 ⟨rfl, hw1⟩)
    | fail)
  go_ret2
  exact ⟨rfl, hw1.alloc hw1.size _⟩
set_option maxRecDepth 20000 in
set_option maxHeartbeats 1000000 in
theorem NdFit_no (n kind : Int) (h1 : n ≠ 1) (h2 : n ≠ 2) (A : Option Addr) (m c : Nat) (P : Int) (w : World) :
    Calls Tryz.prog 26 #[.int .i64 n, .int .i64 kind, .slice A m c, .int .i64 P] w fun e w' => e = .returned (.bool false) ∧ Below w.heap.size w w' := by
  have hE := NdEnc_no n kind h1 h2 A m c P w
  clear h1 h2
  go_enter Tryz.func26, Tryz.ntmps26
  go_wp2_with (first
    | (go_at_call 25; (with_reducible refine hE.mono ?_); rintro e w3 ⟨rfl, hb⟩)
    | fail)
  go_ret
  exact ⟨rfl, hb⟩
end Go.Proofs.YtfcnkpofcekmgaaGreat

-- node.Half: what it computes: plain laws.
namespace Go.Proofs.YtfcnkpofcekmgaaGreat
open Go.RowKit
def noKey (c : PC) : PC := { c with key := [] }
def rightF (kind : Int) (l : List PC) (k : Nat) : List PC := if kind = 3 then (match l.drop k with | [] => [] | c :: r => noKey c :: r) else l.drop k
def rightC (kind : Int) (l : List CV) (k : Nat) : List CV := if kind = 3 then (match l.drop k with | [] => [] | x :: r => ⟨.slice none 0 0, x.vv, noKey x.c⟩ :: r) else l.drop k
theorem pcs_rightC (kind : Int) (l : List CV) (k : Nat) : pcs (rightC kind l k) = rightF kind (pcs l) k := by
  unfold rightC rightF
  rw [← pcs_drop]
  split
  · cases l.drop k <;> rfl
  · rfl
theorem rightC_length (kind : Int) (l : List CV) (k : Nat) : (rightC kind l k).length = l.length - k := by
  unfold rightC
  split
  · cases h : l.drop k with
    | nil => have := congrArg List.length h; simp at this; simp; omega
    | cons x r => have := congrArg List.length h; simp at this; simp; omega
  · simp
theorem bigK_right (kind : Int) (l : List PC) (k : Nat) : bigK (rightF kind l k) ≤ bigK l := by
  have h := bigK_drop l k
  unfold rightF
  split
  · cases hd : l.drop k with
    | nil => simp [bigK]
    | cons c r =>
      rw [hd] at h
      simp only [bigK, noKey, List.length_nil] at h ⊢
      omega
  · exact h
theorem longs_big : ∀ (l : List PC), longsF l + 2 * l.length ≤ bigK l
  | [] => by simp [longsF, bigK]
  | c :: r => by
    have ih := longs_big r
    have h2 : longF c ≤ c.key.length + c.val.length + 11 := by unfold longF; split <;> omega
    simp only [longsF, bigK, List.length_cons]
    omega
theorem sizeF_big (l : List PC) : sizeF l ≤ 8 + bigK l := by
  have h1 := longs_big l
  have h2 := sizeF_eq l
  omega
theorem fit_big {l : List PC} (h : bigK l ≤ 1000000000000000000) : Fit l := ⟨by have := sizeF_big l; omega, fun c hc => by have := bigK_mem hc; omega⟩
theorem psizeF_big (kind : Int) {l : List PC} (h : bigK l ≤ 1000000000000000000) : psizeF kind l ≤ 10 + 3 * bigK l := by
  have hm : sharedF kind l ≤ bigK l := by
    rcases Nat.eq_zero_or_pos (sharedF kind l) with e | e
    · omega
    · obtain ⟨i, hi, hn⟩ := sharedF_pos e
      have h2 := (key_split (kind := kind) hi hn).1
      have h3 := bigK_mem (List.getElem_mem hi)
      omega
  have hz : psizeF kind l = 10 + sharedF kind l + 2 * l.length + (pbodyF kind (sharedF kind l) 0 l).length := rfl
  have hb : ∀ (i pre : Nat) (l : List PC), bigK l ≤ 1000000000000000000 → 2 * l.length + (pbodyF kind pre i l).length ≤ bigK l + 12 * l.length := by
    intro i pre l hl
    induction l generalizing i with
    | nil => simp [pbodyF, bigK]
    | cons c r ih =>
      have hl2 := hl
      simp only [bigK] at hl2
      have h1 := ih (i + 1) (by omega)
      have h2 : (pcF kind i c pre).length ≤ 33 + 10 + c.key.length + c.val.length := by
        have hrl : (restF kind i c.key pre).length ≤ c.key.length := by unfold restF; split <;> simp
        have u1 : (uintF (restF kind i c.key pre).length).length ≤ 10 := uintF_le10 (by omega)
        have u2 : (uintF c.val.length).length ≤ 10 := uintF_le10 (by omega)
        have u3 : (uintF (u64N c.page)).length ≤ 10 := uintF_le10 (u64N_lt _)
        have u4 : (uintF (u64N c.count)).length ≤ 10 := uintF_le10 (u64N_lt _)
        unfold pcF kvF
        split <;> (simp only [List.length_cons, List.length_append]; omega)
      simp only [pbodyF, bigK, List.length_cons, List.length_append]
      omega
  have h9 := hb 0 (sharedF kind l) l h
  have hln : 33 * l.length ≤ bigK l := by
    clear hz hm h9 h
    induction l with
    | nil => simp
    | cons c r ih => simp only [List.length_cons, bigK]; omega
  omega
/-! ### the search for a cut -/
section
variable (sz : List PC → Nat) (fit : List PC → Bool) (kind : Int) (l : List PC)
def hMost (k : Nat) : Nat := max (sz (l.take k)) (sz (rightF kind l k))
def hStep (k : Nat) (s : Nat × Nat) : Nat × Nat := if hMost sz kind l k < s.1 ∧ fit (l.take k) = true ∧ fit (rightF kind l k) = true then (hMost sz kind l k, k) else s
def hLoop : Nat → Nat → Nat × Nat → Nat × Nat
  | 0, _, s => s
  | m + 1, k, s => hLoop m (k + 1) (hStep sz fit kind l k s)
def halfS (P : Nat) : Nat × Nat := hLoop sz fit kind l (l.length - 3) 2 (P + 1, 0)
def halfA (P : Nat) : Nat := (halfS sz fit kind l P).2
def halfZ (P : Nat) : Int := if halfA sz fit kind l P = 0 then 61 else 0
end
theorem hLoop_le (sz : List PC → Nat) (fit : List PC → Bool) (kind : Int) (l : List PC) (m k : Nat) (s : Nat × Nat) : hLoop sz fit kind l (m + 1) k s = hLoop sz fit kind l m (k + 1) (hStep sz fit kind l k s) := rfl
end Go.Proofs.YtfcnkpofcekmgaaGreat

-- Pieces picked by number: any of the first ones, in any order; the others of these are let go.
namespace Go.Proofs.YtfcnkpofcekmgaaGreat
open Go.RowKit
def unitE : Ent := ⟨fun _ => False, fun _ => True, fun _ h => h⟩
theorem Sep.pick {w0 w : World} {L R : List Ent} (idx : List Nat) (hn : idx.Nodup) (hl : idx.all (fun i => Nat.blt i L.length) = true) (h : Sep w0 w (L ++ R)) : Sep w0 w (idx.map (fun i => L.getD i unitE) ++ R) := by
  have hlt : ∀ i ∈ idx, i < L.length := fun i hi => by
    have := List.all_eq_true.1 hl i hi
    exact Nat.le_of_ble_eq_true this
  have hg : ∀ i (hi : i < L.length), L.getD i unitE = L[i] := fun i hi => by
    rw [List.getD_eq_getElem?_getD, List.getElem?_eq_getElem hi]; rfl
  have ha := List.pairwise_append.1 h.apart
  have hp := List.pairwise_iff_getElem.1 ha.1
  refine ⟨h.same, fun E hE => ?_, List.pairwise_append.2 ⟨?_, ha.2.1, fun a hA b hb => ?_⟩⟩
  · rcases List.mem_append.1 hE with hE | hE
    · obtain ⟨i, hi, rfl⟩ := List.mem_map.1 hE
      rw [hg i (hlt i hi)]
      exact h.each _ (List.mem_append_left _ (List.getElem_mem _))
    · exact h.each E (List.mem_append_right _ hE)
  · rw [List.pairwise_map]
    refine List.Pairwise.imp_of_mem (fun {i j} hi hj hij => ?_) hn
    rw [hg i (hlt i hi), hg j (hlt j hj)]
    rcases Nat.lt_or_ge i j with h1 | h1
    · exact hp i j (hlt i hi) (hlt j hj) h1
    · intro g h2 h3
      exact hp j i (hlt j hj) (hlt i hi) (by omega) g h3 h2
  · obtain ⟨i, hi, rfl⟩ := List.mem_map.1 hA
    rw [hg i (hlt i hi)]
    exact ha.2.2 _ (List.getElem_mem _) b hb
end Go.Proofs.YtfcnkpofcekmgaaGreat

-- A block that is a piece.
namespace Go.Proofs.YtfcnkpofcekmgaaGreat
open Go.RowKit
theorem Sep.blk {w0 w : World} {g : Nat} {T : TypeId} {cs : List Value} {L : List Ent} (h : Sep w0 w (blkE g T cs :: L)) : OBlk w g T cs := h.head
end Go.Proofs.YtfcnkpofcekmgaaGreat

-- A row of cells: copies within it, zeros behind it, cleared; where slices of it lie.
namespace Go.Proofs.YtfcnkpofcekmgaaGreat
open Go.RowKit
set_option maxRecDepth 100000
abbrev cz : Value := .agg #[.slice none 0 0, .int .i64 0, .slice none 0 0, .int .i64 0, .int .i64 0]
theorem run_copy_5 (w : World) (ty : TypeId) (g : Nat) (T' : TypeId) (cs : List Value) (hg : OBlk w g T' cs)
    (dA : Option Addr) (dLen dCap off : Nat) (hd : 0 < dLen → dA = some ⟨g, off, none⟩) (hfit : off + dLen * 5 ≤ cs.length)
    (vx : Value) (m : Nat) (news : List Value) (hr : Rd w 5 vx m news) (h1 : ∀ u ∈ news.take (min m dLen * 5), u.oneCell' = true) :
    (Builtin.copy_ #[32, 32] ty #[.slice dA dLen dCap, vx]).run Tryz.prog w = .ok (goInt (min m dLen : Nat)) (w.setCells g off (news.take (min m dLen * 5))) := by
  obtain ⟨i, hi, hz0, hz1, hz2⟩ := info_parts cell_info
  obtain ⟨hl, A, c, rfl, hc1, hc2, hcells⟩ := hr
  have hmin : Nat.min m dLen = min m dLen := rfl
  by_cases h0 : min m dLen = 0
  · rw [h0]
    have hl0 : ∀ (x : Addr), (loadCells x 0).run Tryz.prog w = .ok #[] w := fun x => by simpa using run_loadCells_list (P := Tryz.prog) w x [] (by simp)
    cases dA <;> cases A <;> simp [Builtin.copy_, run_underlying Tryz.underlying32, sizeOf, typeInfo, hi, Builtin.lenOf, hmin, h0, Builtin.firstCells, storeCells, hl0, World.setCells]
  · obtain rfl := hd (by omega)
    obtain ⟨a, rfl, _⟩ := hcells 0 _ (List.getElem?_eq_getElem (by omega))
    have hnews : ∀ j u, (news.take (min m dLen * 5))[j]? = some u → w.cell? (a.add j) = some u := fun j u hj => by
      rw [List.getElem?_take] at hj
      split at hj
      · obtain ⟨a', he, h⟩ := hcells j u hj
        injection he with he
        subst he; exact h
      · cases hj
    have hlen : (news.take (min m dLen * 5)).length = min m dLen * 5 := by rw [List.length_take]; omega
    have hf := run_firstCells_some (P := Tryz.prog) w 5 (min m dLen) a m c (news.take (min m dLen * 5)) hlen hnews
    have hst := run_storeCells_cells (P := Tryz.prog) g off (news.take (min m dLen * 5)) 0 w
      (fun j hj => by rw [hg.cell]; simp; omega) (fun j hj => hg.frozen (by omega)) h1
    simp only [Nat.add_zero] at hst
    simp [Builtin.copy_, run_underlying Tryz.underlying32, sizeOf, typeInfo, hi, hz1, Builtin.lenOf, hmin, hf, hst]
section laws
variable {w : World} {ops : Array Oper} {rest : List Oper} {o : Oper} {a : Act} {Q : Exit → Act → World → Prop}
theorem wp_copy_5 (hgd : o.guard = none) (d s : Operand)
    (ho : o.op = .call { callee := .builtin .copy, args := #[d, s], argTypes := #[32, 32] })
    (g : Nat) (T' : TypeId) (cs : List Value) (hg : OBlk w g T' cs) (dA : Option Addr) (dLen dCap off : Nat) (hd' : a.eval d = .slice dA dLen dCap) (hd : 0 < dLen → dA = some ⟨g, off, none⟩) (hfit : off + dLen * 5 ≤ cs.length)
    (vx : Value) (m : Nat) (news : List Value) (hx : a.eval s = vx) (hr : Rd w 5 vx m news) (h1 : ∀ u ∈ news.take (min m dLen * 5), u.oneCell' = true)
    (h : ∀ w', OBlk w' g T' (splice cs off (news.take (min m dLen * 5))) → w.grownBy w' (some g) → wpList Tryz.prog ops Q rest (a.put o.dst (goInt (min m dLen : Nat))) w') : wpList Tryz.prog ops Q (o :: rest) a w := by
  refine wpList_plain hgd fun K hK => ?_
  have hrun := run_copy_5 w o.type g T' cs hg dA dLen dCap off hd hfit vx m news hr h1
  have hl := hr.1
  unfold Oper.wp
  simp [execOp, ho, resolve, invoke, builtin, hd', hx, hrun, Result.andThen]
  refine hK _ _ (h _ (OBlk.setCells _ _ _ _ hg ?_) (grownBy_setCells _ _ _ _))
  rw [List.length_take]; omega
theorem step_copy_5 {K : Act → World → Prop} {E : Prop} (hgd : o.guard = none) (d s : Operand)
    (ho : o.op = .call { callee := .builtin .copy, args := #[d, s], argTypes := #[32, 32] })
    (g : Nat) (T' : TypeId) (cs : List Value) (hg : OBlk w g T' cs) (dA : Option Addr) (dLen dCap off : Nat) (hd' : a.eval d = .slice dA dLen dCap) (hd : 0 < dLen → dA = some ⟨g, off, none⟩) (hfit : off + dLen * 5 ≤ cs.length)
    (vx : Value) (m : Nat) (news : List Value) (hx : a.eval s = vx) (hr : Rd w 5 vx m news) (h1 : ∀ u ∈ news.take (min m dLen * 5), u.oneCell' = true)
    (h : ∀ w', OBlk w' g T' (splice cs off (news.take (min m dLen * 5))) → w.grownBy w' (some g) → K (a.put o.dst (goInt (min m dLen : Nat))) w') :
    if Region.wanted o (yielded ops a.tmps) = true then Oper.wp Tryz.prog o a w K Q else E := by
  have hw : Region.wanted o (yielded ops a.tmps) = true := by simp [Region.wanted, hgd]
  rw [if_pos hw]
  have hrun := run_copy_5 w o.type g T' cs hg dA dLen dCap off hd hfit vx m news hr h1
  have hl := hr.1
  unfold Oper.wp
  simp [execOp, ho, resolve, invoke, builtin, hd', hx, hrun, Result.andThen]
  refine h _ (OBlk.setCells _ _ _ _ hg ?_) (grownBy_setCells _ _ _ _)
  rw [List.length_take]; omega
end laws
/-! ### where a slice of a row lies -/
theorem sl_h (g n c hi : Nat) (h : hi ≤ c) (w : World) : (Instr.slice 32 (.slice (some ⟨g, 0, none⟩) n c) none (some (.int .i64 (hi : Int))) none).run Tryz.prog w = .ok (.slice (some ⟨g, 0, none⟩) hi c) w := by
  have := run_slice_h (P := Tryz.prog) w 32 (some ⟨g, 0, none⟩) n c Cell_elem .i64 hi (by omega) (by omega)
  rw [this, Cell_sizeOf]
  simp [Result.andThen, sliced, Addr.add]
@[irreducible] def slA (g c lo : Nat) : Addr := if c = lo then ⟨g, 0, none⟩ else ⟨g, lo * 5, none⟩
theorem slA_eq {g c lo : Nat} (h : lo < c) : slA g c lo = ⟨g, lo * 5, none⟩ := by unfold slA; exact if_neg (by omega)
theorem slA_zero (g c : Nat) : slA g c 0 = ⟨g, 0, none⟩ := by unfold slA; split <;> rfl
theorem slA_run (g c lo : Nat) : (if c = lo then (some ⟨g, 0, none⟩ : Option Addr) else some ((⟨g, 0, none⟩ : Addr).add (lo * 5))) = some (slA g c lo) := by
  unfold slA
  split
  · rfl
  · rw [add_row, Nat.zero_add]
theorem sl_l (g n c lo : Nat) (h : lo ≤ n) (w : World) : (Instr.slice 32 (.slice (some ⟨g, 0, none⟩) n c) (some (.int .i64 (lo : Int))) none none).run Tryz.prog w = .ok (.slice (some (slA g c lo)) (n - lo) (c - lo)) w := by
  have := run_slice_l (P := Tryz.prog) w 32 (some ⟨g, 0, none⟩) n c Cell_elem .i64 lo (by omega) (by omega)
  rw [this, Cell_sizeOf, ← slA_run]
  simp [Result.andThen, sliced]
theorem sl_lO (A : Option Addr) (n c lo : Nat) (h : lo ≤ n) : ∃ X, ∀ w, (Instr.slice 32 (.slice A n c) (some (.int .i64 (lo : Int))) none none).run Tryz.prog w = .ok (.slice X (n - lo) (c - lo)) w := by
  refine ⟨if c = lo then A else A.map (·.add (lo * 5)), fun w => ?_⟩
  have := run_slice_l (P := Tryz.prog) w 32 A n c Cell_elem .i64 lo (by omega) (by omega)
  rw [this, Cell_sizeOf]
  simp [Result.andThen, sliced]
theorem OBlk.rd5 {w : World} {g c lo m : Nat} {T : TypeId} {cs : List Value} (h : OBlk w g T cs) (h1 : lo + m ≤ c) (h2 : c * 5 ≤ cs.length) (h3 : c ≤ maxLen) : Rd w 5 (.slice (some (slA g c lo)) m (c - lo)) m ((cs.drop (lo * 5)).take (m * 5)) := by
  refine ⟨by rw [List.length_take, List.length_drop]; omega, _, _, rfl, by omega, by omega, fun j u hj => ⟨_, rfl, ?_⟩⟩
  rw [List.getElem?_take] at hj
  split at hj
  · rename_i hlt
    rw [slA_eq (by omega), add_row, h.cell, ← List.getElem?_drop]
    exact hj
  · cases hj
/-! ### zeros behind a row that must grow -/
theorem run_append_grow_Z5 (w : World) (ty : TypeId) (base : Option Addr) (sLen sCap n : Nat) (olds : List Value) (hold : (Builtin.firstCells 5 sLen (.slice base sLen sCap)).run Tryz.prog w.drew = .ok olds.toArray w.drew) (h0 : ¬ n = 0) (hg : sCap < sLen + n) (h48 : (sLen + n) * 72 ≤ 140737488355328) :
    (Builtin.append_ #[32, 3] ty #[.slice base sLen sCap, .int .i64 (n : Int)]).run Tryz.prog w =
      .ok (.slice (some ⟨w.heap.size, 0, none⟩) (sLen + n) (grownCap w (sLen + n) sCap 43)) (w.drew.alloc (.cells ((olds ++ (Builtin.zeroCells cz.cells n).toList).toArray ++ Builtin.zeroCells cz.cells (grownCap w (sLen + n) sCap 43 - (sLen + n))) 43)) := by
  obtain ⟨i, hi, hz0, hz1, hz2⟩ := info_parts cell_info
  have hw : IntKind.i64.wrap (n : Int) = n := by rw [IntKind.wrap_i64]; omega
  have hneg : ¬ ((n : Int) < 0) := by omega
  have h48i : ¬ (281474976710656 < (n : Int) * 72) := by omega
  have hn : ¬ (sLen + n ≤ sCap) := by omega
  have h63' : ¬ (9223372036854775807 < ((sLen : Int) + (n : Int))) := by omega
  have hfit : Builtin.nextslicecap (sLen + n) sCap * 72 ≤ 281474976710656 := growslice_fits (by omega) (by omega)
  have h48' : ¬ (281474976710656 < Builtin.nextslicecap (sLen + n) sCap * 72) := by omega
  have hns : ¬ (n * 5 = 0) := by omega
  simp [hns, Builtin.append_, run_underlying Tryz.underlying32, run_underlying Tryz.underlying3, sizeOf, typeInfo, zeroValue, hi, hz0, hz1, hz2, asInt, asIntOf, hw, hneg, h48i, hn, h63', h48', Question.forced, hold, newRow, grownCap]
  congr 2
  apply Array.ext'
  simp [List.append_assoc]
section laws
variable {w : World} {ops : Array Oper} {rest : List Oper} {o : Oper} {a : Act} {Q : Exit → Act → World → Prop}
/-- append(s[:k], make([]Cell, n)...) where that is more than there is room for. -/
theorem wp_append_Z5 (hgd : o.guard = none) (s x : Operand)
    (ho : o.op = .call { callee := .builtin .append, args := #[s, x], argTypes := #[32, 3] })
    (base : Option Addr) (sLen sCap n : Nat) (olds : List Value) (hs : a.eval s = .slice base sLen sCap) (hr : Rd w 5 (.slice base sLen sCap) sLen olds) (X : Int) (hX : X = (n : Int)) (hx : a.eval x = .int .i64 X) (h0 : ¬ n = 0) (hg : sCap < sLen + n) (h48 : (sLen + n) * 72 ≤ 140737488355328) (N : Nat) (hN : sLen + n = N)
    (h : ∀ cap zs w', OBlk w' w.heap.size 43 (olds ++ zs) → N ≤ cap → cap ≤ maxLen → zs.length = (cap - sLen) * 5 → Below w.heap.size w w' → wpList Tryz.prog ops Q rest (a.put o.dst (.slice (some ⟨w.heap.size, 0, none⟩) N cap)) w') :
    wpList Tryz.prog ops Q (o :: rest) a w := by
  subst hX hN
  obtain ⟨hl, A, c, hv, hc1, hc2, hcells⟩ := hr
  injection hv with hA hn' hc
  subst hA hc
  have hold : (Builtin.firstCells 5 sLen (.slice base sLen sCap)).run Tryz.prog w.drew = .ok olds.toArray w.drew := by
    cases base with
    | none =>
      have hs0 : sLen = 0 := by
        rcases Nat.eq_zero_or_pos sLen with e | e
        · exact e
        · obtain ⟨_, he, _⟩ := hcells 0 _ (List.getElem?_eq_getElem (by omega))
          cases he
      subst hs0
      have : olds = [] := List.eq_nil_of_length_eq_zero (by simpa using hl)
      subst this
      simp [Builtin.firstCells]
    | some ad =>
      exact run_firstCells_some w.drew 5 sLen ad sLen sCap olds hl (fun j u hj => by
        obtain ⟨a', he, h⟩ := hcells j u hj
        injection he with he
        subst he; exact h)
  have hrun := run_append_grow_Z5 w o.type base sLen sCap n olds hold h0 hg h48
  have hge := grownCap_ge w (sLen + n) sCap 43
  have hcm : grownCap w (sLen + n) sCap 43 ≤ maxLen := grownCap_le_maxLen w (sLen + n) sCap 43 (by simp only [maxLen]; omega)
  refine Lib.wpList_append_run w hgd s x _ _ ho _ _ hs hx _ _ hrun (h _ ((Builtin.zeroCells cz.cells n).toList ++ (Builtin.zeroCells cz.cells (grownCap w (sLen + n) sCap 43 - (sLen + n))).toList) _ ?_ hge hcm ?_ ?_)
  · have := OBlk.new w.drew 43 ((olds ++ (Builtin.zeroCells cz.cells n).toList).toArray ++ Builtin.zeroCells cz.cells (grownCap w (sLen + n) sCap 43 - (sLen + n)))
    rw [Array.toList_append, List.toList_toArray, List.append_assoc] at this
    exact this
  · rw [List.length_append, Array.length_toList, Array.length_toList, size_zeroCells, size_zeroCells]
    show n * 5 + (grownCap w (sLen + n) sCap 43 - (sLen + n)) * 5 = _
    omega
  · exact ((Below.refl _ _).drew).alloc (Nat.le_refl _) _
end laws
/-! ### a cell cleared -/
end Go.Proofs.YtfcnkpofcekmgaaGreat
