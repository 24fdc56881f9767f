/- Texts joined: espalierref07.Encode; packed pages; node.Encode, Decode, Fits, Fill; node.Half -/
import Derived.Test.YtfcnkpofcekmgaaGreatNT8
import Derived.Test.YtfcnkpofcekmgaaGreatNT11
import Derived.Test.YtfcnkpofcekmgaaGreatNT13
import Derived.Test.YtfcnkpofcekmgaaGreatNT14
import Derived.Test.YtfcnkpofcekmgaaGreatNT19
import Derived.Test.YtfcnkpofcekmgaaGreatNT20
import Derived.Test.YtfcnkpofcekmgaaGreatNT21
import Derived.Test.YtfcnkpofcekmgaaGreatNT22
import Derived.Deep.RegionHeld3
-- espalierref07.Encode: the walk.
namespace Go.Proofs.YtfcnkpofcekmgaaGreat
open Go.RowKit
end Go.Proofs.YtfcnkpofcekmgaaGreat

-- packed pages: Encode of both sides, told alike.
namespace Go.Proofs.YtfcnkpofcekmgaaGreat
open Go.RowKit
/-! ### Encode -/
def encKZ (kind : Int) (l : List PC) (P : Int) : Int := if (isKindB kind && isPowB P) = true then encK kind l P.toNat else 1
def encKL (kind : Int) (l : List PC) (P : Int) : List UInt8 := if encKZ kind l P = 0 then laidK kind l P.toNat else []
theorem KEncZ (kind : Int) (v : Value) (l : List CV) (P : Int) (hPr : i64r P) (w : World) (hl : RdCs w v l) (hn : l.length ≤ 2000000000000) :
    Calls Tryz.prog 82 #[.int .i64 kind, v, .int .i64 P] w fun e w' => ∃ u, e = .returned (.tuple #[u, .int .i64 (encKZ kind (pcs l) P)]) ∧ OwB w' w.heap.size u (encKL kind (pcs l) P) ∧ Below w.heap.size w w' := by
  refine (KEncode_any kind v l P hPr w hl hn).mono ?_
  unfold EncKAt encKL encKZ
  rintro e w' ⟨hb, ⟨h1, rfl⟩ | ⟨h1, ⟨h2, rfl⟩ | ⟨h2, g, rfl, hg, ho⟩⟩⟩
  · rw [if_neg (by rw [h1]; simp), if_neg (by decide)]
    exact ⟨_, rfl, OwB.nil _ _, hb⟩
  · rw [if_pos h1, if_neg h2]
    exact ⟨_, rfl, OwB.nil _ _, hb⟩
  · rw [if_pos h1, if_pos h2, h2]
    rw [Bool.and_eq_true] at h1
    have hP := isPowB_range h1.2
    have hl := laidK_length (kind := kind) (encK_zero.1 h2).2
    have h3 := ho.owB' hg (by rw [hl]; simp only [maxLen]; omega)
    rw [hl] at h3
    exact ⟨_, rfl, h3, hb⟩
end Go.Proofs.YtfcnkpofcekmgaaGreat

-- node.Encode, Decode, Fits, Fill: walks.
namespace Go.Proofs.YtfcnkpofcekmgaaGreat
open Go.RowKit
set_option maxRecDepth 20000 in
set_option maxHeartbeats 1000000 in
theorem NdEnc_1 (kind : Int) (v : Value) (l : List CV) (P : Int) (hPr : i64r P) (w : World) (hl : RdCs w v l) (hn : l.length ≤ 2000000000000) :
    Calls Tryz.prog 25 #[.int .i64 1, .int .i64 kind, v, .int .i64 P] w fun e w' => ∃ u, e = .returned (.tuple #[u, .int .i64 (encZ kind (pcs l) P)]) ∧ OwB w' w.heap.size u (encL kind (pcs l) P) ∧ Below w.heap.size w w' := by
  have hsf := st_func
  have hl0 := hl
  obtain ⟨A, c, rfl, hm, hc⟩ := hl.slice
  clear hl hc
  go_enter Tryz.func25, Tryz.ntmps25
  go_upto_region 2 with (first
    | (go_at_call 38; (with_reducible refine (of_1 _).mono ?_); rintro e w1 ⟨rfl, hw1⟩)
    | fail)
  have hS := ((Sep.start w).below hw1).alloc 81 engL1
  unfold engL1 at *
  generalize hW2 : w1.alloc (.cells #[.func (.func 68) #[] #[], .func (.func 71) #[] #[], .func (.func 73) #[] #[], .func (.func 74) #[] #[], .func (.func 75) #[] #[]] 81) = w2 at *
  generalize w1.heap.size = g at *
  clear hW2
  obtain ⟨-, -, -, y3, -⟩ := (show OBlk w2 g 81 [.func (.func 68) #[] #[], .func (.func 71) #[] #[], .func (.func 73) #[] #[], .func (.func 74) #[] #[], .func (.func 75) #[] #[]] from hS.head).cells5'
  have hb2 := hS.belowOld (_v := w) (by simp)
  have hE := PEncZ kind _ l P hPr w2 (hl0.below hb2) hn
  obtain ⟨z, hz⟩ : ∃ z, encZ kind (pcs l) P = z := ⟨_, rfl⟩
  rw [hz] at hE
  have HZ := Lib.hid hz
  clear hS hw1 hz
  go_wp2_with fail
  refine hE.mono ?_
  rintro e w3 ⟨u, rfl, ho, hb⟩
  have ho' := OwB.base_le ho (b := w.heap.size) (fun g hg => Nat.le_trans hb2.size (Own.lt ho g hg).1)
  have hB := hb2.trans (hb.mono hb2.size)
  obtain ⟨U, uc, rfl⟩ := Own.slice ho
  clear ho hb hE
  go_wp2_with fail
  go_ret2
  rw [HZ.out]
  exact ⟨_, rfl, ho', hB⟩
set_option maxRecDepth 20000 in
set_option maxHeartbeats 1000000 in
theorem NdFit_1 (kind : Int) (v : Value) (l : List CV) (P : Int) (hPr : i64r P) (w : World) (hl : RdCs w v l) (hn : l.length ≤ 2000000000000) :
    Calls Tryz.prog 26 #[.int .i64 1, .int .i64 kind, v, .int .i64 P] w fun e w' => e = .returned (.bool (encZ kind (pcs l) P == 0)) ∧ Below w.heap.size w w' := by
  have hE := NdEnc_1 kind v l P hPr w hl hn
  obtain ⟨A, c, rfl, hm, hc⟩ := hl.slice
  obtain ⟨z, hz⟩ : ∃ z, encZ kind (pcs l) P = z := ⟨_, rfl⟩
  rw [hz] at hE
  have HZ := Lib.hid hz
  clear hl hc hz
  go_enter Tryz.func26, Tryz.ntmps26
  go_wp2_with (first
    | (go_at_call 25; (with_reducible refine hE.mono ?_); rintro e w3 ⟨u, rfl, ho, hb⟩; clear ho)
    | fail)
  go_ret
  rw [HZ.out]
  exact ⟨rfl, hb⟩
set_option maxRecDepth 20000 in
set_option maxHeartbeats 1000000 in
theorem NdEnc_2 (kind : Int) (v : Value) (l : List CV) (P : Int) (hPr : i64r P) (w : World) (hl : RdCs w v l) (hn : l.length ≤ 2000000000000) :
    Calls Tryz.prog 25 #[.int .i64 2, .int .i64 kind, v, .int .i64 P] w fun e w' => ∃ u, e = .returned (.tuple #[u, .int .i64 (encKZ kind (pcs l) P)]) ∧ OwB w' w.heap.size u (encKL kind (pcs l) P) ∧ Below w.heap.size w w' := by
  have hsf := st_func
  have hl0 := hl
  obtain ⟨A, c, rfl, hm, hc⟩ := hl.slice
  clear hl hc
  go_enter Tryz.func25, Tryz.ntmps25
  go_upto_region 2 with (first
    | (go_at_call 38; (with_reducible refine (of_2 _).mono ?_); rintro e w1 ⟨rfl, hw1⟩)
    | fail)
  have hS := ((Sep.start w).below hw1).alloc 81 engL2
  unfold engL2 at *
  generalize hW2 : w1.alloc (.cells #[.func (.func 76) #[] #[], .func (.func 79) #[] #[], .func (.func 81) #[] #[], .func (.func 82) #[] #[], .func (.func 83) #[] #[]] 81) = w2 at *
  generalize w1.heap.size = g at *
  clear hW2
  obtain ⟨-, -, -, y3, -⟩ := (show OBlk w2 g 81 [.func (.func 76) #[] #[], .func (.func 79) #[] #[], .func (.func 81) #[] #[], .func (.func 82) #[] #[], .func (.func 83) #[] #[]] from hS.head).cells5'
  have hb2 := hS.belowOld (_v := w) (by simp)
  have hE := KEncZ kind _ l P hPr w2 (hl0.below hb2) hn
  obtain ⟨z, hz⟩ : ∃ z, encKZ kind (pcs l) P = z := ⟨_, rfl⟩
  rw [hz] at hE
  have HZ := Lib.hid hz
  clear hS hw1 hz
  go_wp2_with fail
  refine hE.mono ?_
  rintro e w3 ⟨u, rfl, ho, hb⟩
  have ho' := OwB.base_le ho (b := w.heap.size) (fun g hg => Nat.le_trans hb2.size (Own.lt ho g hg).1)
  have hB := hb2.trans (hb.mono hb2.size)
  obtain ⟨U, uc, rfl⟩ := Own.slice ho
  clear ho hb hE
  go_wp2_with fail
  go_ret2
  rw [HZ.out]
  exact ⟨_, rfl, ho', hB⟩
set_option maxRecDepth 20000 in
set_option maxHeartbeats 1000000 in
theorem NdFit_2 (kind : Int) (v : Value) (l : List CV) (P : Int) (hPr : i64r P) (w : World) (hl : RdCs w v l) (hn : l.length ≤ 2000000000000) :
    Calls Tryz.prog 26 #[.int .i64 2, .int .i64 kind, v, .int .i64 P] w fun e w' => e = .returned (.bool (encKZ kind (pcs l) P == 0)) ∧ Below w.heap.size w w' := by
  have hE := NdEnc_2 kind v l P hPr w hl hn
  obtain ⟨A, c, rfl, hm, hc⟩ := hl.slice
  obtain ⟨z, hz⟩ : ∃ z, encKZ kind (pcs l) P = z := ⟨_, rfl⟩
  rw [hz] at hE
  have HZ := Lib.hid hz
  clear hl hc hz
  go_enter Tryz.func26, Tryz.ntmps26
  go_wp2_with (first
    | (go_at_call 25; (with_reducible refine hE.mono ?_); rintro e w3 ⟨u, rfl, ho, hb⟩; clear ho)
    | fail)
  go_ret
  rw [HZ.out]
  exact ⟨rfl, hb⟩
end Go.Proofs.YtfcnkpofcekmgaaGreat

-- node.Half: what it computes: plain laws.
namespace Go.Proofs.YtfcnkpofcekmgaaGreat
open Go.RowKit
def noKey (c : PC) : PC := { c with key := [] }
def rightF (kind : Int) (l : List PC) (k : Nat) : List PC := if kind = 3 then (match l.drop k with | [] => [] | c :: r => noKey c :: r) else l.drop k
def rightC (kind : Int) (l : List CV) (k : Nat) : List CV := if kind = 3 then (match l.drop k with | [] => [] | x :: r => ⟨.slice none 0 0, x.vv, noKey x.c⟩ :: r) else l.drop k
theorem pcs_rightC (kind : Int) (l : List CV) (k : Nat) : pcs (rightC kind l k) = rightF kind (pcs l) k := by
  unfold rightC rightF
  rw [← pcs_drop]
  split
  · cases l.drop k <;> rfl
  · rfl
theorem rightC_length (kind : Int) (l : List CV) (k : Nat) : (rightC kind l k).length = l.length - k := by
  unfold rightC
  split
  · cases h : l.drop k with
    | nil => have := congrArg List.length h; simp at this; simp; omega
    | cons x r => have := congrArg List.length h; simp at this; simp; omega
  · simp
theorem rightF_length (kind : Int) (l : List PC) (k : Nat) : (rightF kind l k).length = l.length - k := by
  unfold rightF
  split
  · cases h : l.drop k with
    | nil => have := congrArg List.length h; simp at this; simp; omega
    | cons x r => have := congrArg List.length h; simp at this; simp; omega
  · simp
theorem bigK_right (kind : Int) (l : List PC) (k : Nat) : bigK (rightF kind l k) ≤ bigK l := by
  have h := bigK_drop l k
  unfold rightF
  split
  · cases hd : l.drop k with
    | nil => simp [bigK]
    | cons c r =>
      rw [hd] at h
      simp only [bigK, noKey, List.length_nil] at h ⊢
      omega
  · exact h
theorem longs_big : ∀ (l : List PC), longsF l + 2 * l.length ≤ bigK l
  | [] => by simp [longsF, bigK]
  | c :: r => by
    have ih := longs_big r
    have h2 : longF c ≤ c.key.length + c.val.length + 11 := by unfold longF; split <;> omega
    simp only [longsF, bigK, List.length_cons]
    omega
theorem sizeF_big (l : List PC) : sizeF l ≤ 8 + bigK l := by
  have h1 := longs_big l
  have h2 := sizeF_eq l
  omega
theorem fit_big {l : List PC} (h : bigK l ≤ 1000000000000000000) : Fit l := ⟨by have := sizeF_big l; omega, fun c hc => by have := bigK_mem hc; omega⟩
theorem psizeF_big (kind : Int) {l : List PC} (h : bigK l ≤ 1000000000000000000) : psizeF kind l ≤ 10 + 3 * bigK l := by
  have hm : sharedF kind l ≤ bigK l := by
    rcases Nat.eq_zero_or_pos (sharedF kind l) with e | e
    · omega
    · obtain ⟨i, hi, hn⟩ := sharedF_pos e
      have h2 := (key_split (kind := kind) hi hn).1
      have h3 := bigK_mem (List.getElem_mem hi)
      omega
  have hz : psizeF kind l = 10 + sharedF kind l + 2 * l.length + (pbodyF kind (sharedF kind l) 0 l).length := rfl
  have hb : ∀ (i pre : Nat) (l : List PC), bigK l ≤ 1000000000000000000 → 2 * l.length + (pbodyF kind pre i l).length ≤ bigK l + 12 * l.length := by
    intro i pre l hl
    induction l generalizing i with
    | nil => simp [pbodyF, bigK]
    | cons c r ih =>
      have hl2 := hl
      simp only [bigK] at hl2
      have h1 := ih (i + 1) (by omega)
      have h2 : (pcF kind i c pre).length ≤ 33 + 10 + c.key.length + c.val.length := by
        have hrl : (restF kind i c.key pre).length ≤ c.key.length := by unfold restF; split <;> simp
        have u1 : (uintF (restF kind i c.key pre).length).length ≤ 10 := uintF_le10 (by omega)
        have u2 : (uintF c.val.length).length ≤ 10 := uintF_le10 (by omega)
        have u3 : (uintF (u64N c.page)).length ≤ 10 := uintF_le10 (u64N_lt _)
        have u4 : (uintF (u64N c.count)).length ≤ 10 := uintF_le10 (u64N_lt _)
        unfold pcF kvF
        split <;> (simp only [List.length_cons, List.length_append]; omega)
      simp only [pbodyF, bigK, List.length_cons, List.length_append]
      omega
  have h9 := hb 0 (sharedF kind l) l h
  have hln : 33 * l.length ≤ bigK l := by
    clear hz hm h9 h
    induction l with
    | nil => simp
    | cons c r ih => simp only [List.length_cons, bigK]; omega
  omega
/-! ### the search for a cut -/
section
variable (sz : List PC → Nat) (fit : List PC → Bool) (kind : Int) (l : List PC)
def hMost (k : Nat) : Nat := max (sz (l.take k)) (sz (rightF kind l k))
def hStep (k : Nat) (s : Nat × Nat) : Nat × Nat := if hMost sz kind l k < s.1 ∧ fit (l.take k) = true ∧ fit (rightF kind l k) = true then (hMost sz kind l k, k) else s
def hLoop : Nat → Nat → Nat × Nat → Nat × Nat
  | 0, _, s => s
  | m + 1, k, s => hLoop m (k + 1) (hStep sz fit kind l k s)
def halfS (P : Nat) : Nat × Nat := hLoop sz fit kind l (l.length - 3) 2 (P + 1, 0)
def halfA (P : Nat) : Nat := (halfS sz fit kind l P).2
def halfZ (P : Nat) : Int := if halfA sz fit kind l P = 0 then 61 else 0
end
theorem hLoop_le (sz : List PC → Nat) (fit : List PC → Bool) (kind : Int) (l : List PC) (m k : Nat) (s : Nat × Nat) : hLoop sz fit kind l (m + 1) k s = hLoop sz fit kind l m (k + 1) (hStep sz fit kind l k s) := rfl
end Go.Proofs.YtfcnkpofcekmgaaGreat
