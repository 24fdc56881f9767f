/- meta.numbers, places, Encode: walks. -/
import Derived.Test.YtdnfbjmapdgnnaaMetaCheck
import Derived.Test.YtdnfbjmapdgnnaaInkFixed
import Derived.Test.YtdnfbjmapdgnnaaInkSum
namespace Go.Proofs.Ytdnfbjmapdgnnaa
open Go.RowKit

theorem cells8 {w : World} {g : Nat} {T : TypeId} {a0 a1 a2 a3 a4 a5 a6 a7 : Value} (h : OBlk w g T [a0, a1, a2, a3, a4, a5, a6, a7]) :
    w.cell? ⟨g, 0, none⟩ = some a0 ∧ w.cell? ⟨g, 1, none⟩ = some a1 ∧ w.cell? ⟨g, 2, none⟩ = some a2 ∧ w.cell? ⟨g, 3, none⟩ = some a3 ∧
    w.cell? ⟨g, 4, none⟩ = some a4 ∧ w.cell? ⟨g, 5, none⟩ = some a5 ∧ w.cell? ⟨g, 6, none⟩ = some a6 ∧ w.cell? ⟨g, 7, none⟩ = some a7 :=
  ⟨h.cell 0, h.cell 1, h.cell 2, h.cell 3, h.cell 4, h.cell 5, h.cell 6, h.cell 7⟩
theorem cells7 {w : World} {g : Nat} {T : TypeId} {a0 a1 a2 a3 a4 a5 a6 : Value} (h : OBlk w g T [a0, a1, a2, a3, a4, a5, a6]) :
    w.cell? ⟨g, 0, none⟩ = some a0 ∧ w.cell? ⟨g, 1, none⟩ = some a1 ∧ w.cell? ⟨g, 2, none⟩ = some a2 ∧ w.cell? ⟨g, 3, none⟩ = some a3 ∧
    w.cell? ⟨g, 4, none⟩ = some a4 ∧ w.cell? ⟨g, 5, none⟩ = some a5 ∧ w.cell? ⟨g, 6, none⟩ = some a6 :=
  ⟨h.cell 0, h.cell 1, h.cell 2, h.cell 3, h.cell 4, h.cell 5, h.cell 6⟩

theorem numbers_any (eg pg tx rt ct fr ls hi : Int) (w : World) :
    Calls Try.prog 26 #[.agg #[.int .i64 eg, .int .i64 pg, .int .i64 tx, .int .i64 rt, .int .i64 ct, .int .i64 fr, .int .i64 ls, .int .i64 hi]] w fun e w' =>
      e = .returned (.agg #[.int .i64 pg, .int .i64 tx, .int .i64 rt, .int .i64 ct, .int .i64 fr, .int .i64 ls, .int .i64 hi]) ∧ Below w.heap.size w w' := by
  go_enter Try.func26, Try.ntmps26
  go_wp2
  exact bodyPost_ret (v := .agg #[.int .i64 pg, .int .i64 tx, .int .i64 rt, .int .i64 ct, .int .i64 fr, .int .i64 ls, .int .i64 hi]) (by simp [results, Try.results26, go_sem]) rfl
    ⟨rfl, ((Below.refl _ _).alloc (Nat.le_refl _) _).alloc (by simp) _⟩
abbrev placesV : Value := .agg #[.int .i64 8, .int .i64 4, .int .i64 12, .int .i64 8, .int .i64 20, .int .i64 4, .int .i64 24, .int .i64 4, .int .i64 28, .int .i64 4, .int .i64 32, .int .i64 4, .int .i64 36, .int .i64 4]
theorem places_any (w : World) :
    Calls Try.prog 27 #[] w fun e w' => e = .returned placesV ∧ Below w.heap.size w w' := by
  go_enter Try.func27, Try.ntmps27
  go_wp2
  exact bodyPost_ret (v := placesV) (by simp [results, Try.results27, go_sem]) rfl
    ⟨rfl, (Below.refl _ _).alloc (Nat.le_refl _) _⟩

/-- The parts of a meta page ahead of the zeros. -/
def metaParts (eg pg tx rt ct fr ls hi : Nat) : List (List UInt8) :=
  [fixedF pg 4, fixedF tx 8, fixedF rt 4, fixedF ct 4, fixedF fr 4, fixedF ls 4, fixedF hi 4]
def metaPre (eg pg tx rt ct fr ls hi : Nat) (k : Nat) : List UInt8 := [1, UInt8.ofNat eg, 0, 0, 69, 83, 80, 76] ++ ((metaParts eg pg tx rt ct fr ls hi).take k).flatten
def metaBody (eg pg tx rt ct fr ls hi : Nat) : List UInt8 := metaPre eg pg tx rt ct fr ls hi 7 ++ List.replicate (pg - 44) 0
def encF (eg pg tx rt ct fr ls hi : Nat) : List UInt8 := metaBody eg pg tx rt ct fr ls hi ++ fixedF (sumF (metaBody eg pg tx rt ct fr ls hi)) 4

set_option maxRecDepth 100000 in
set_option maxHeartbeats 1000000 in
theorem Encode_bad (eg pg tx rt ct fr ls hi : Int) (hok : okB eg pg tx rt ct fr ls hi = false) (w : World) :
    Calls Try.prog 9 #[.agg #[.int .i64 eg, .int .i64 pg, .int .i64 tx, .int .i64 rt, .int .i64 ct, .int .i64 fr, .int .i64 ls, .int .i64 hi]] w fun e w' =>
      e = .returned (.tuple #[.slice none 0 0, .int .i64 1]) ∧ Below w.heap.size w w' := by
  have hC := fun w => Check_any eg pg tx rt ct fr ls hi w
  rw [hok] at hC
  simp only [cond_false] at hC
  have HC := Lib.hid hC
  clear hC hok
  go_enter Try.func9, Try.ntmps9
  go_wp2_with (go_at_call 8; refine (HC.out _).mono ?_; rintro e w1 ⟨rfl, hw1⟩)
  go_ret2
  exact ⟨rfl, ((Below.refl _ _).alloc (Nat.le_refl _) _).trans (hw1.mono (by simp))⟩
/-! ### The page, part by part -/
section
variable (eg pg tx rt ct fr ls hi : Nat)
def placeAt : Nat → Nat | 0 => 8 | 1 => 12 | 2 => 20 | 3 => 24 | 4 => 28 | 5 => 32 | 6 => 36 | _ => 40
def placeW : Nat → Nat | 1 => 8 | _ => 4
def metaNum : Nat → Nat | 0 => pg | 1 => tx | 2 => rt | 3 => ct | 4 => fr | 5 => ls | _ => hi
theorem metaPre_len (k : Nat) (hk : k < 7) : (metaPre eg pg tx rt ct fr ls hi k).length = placeAt k := by
  rcases (by omega : k = 0 ∨ k = 1 ∨ k = 2 ∨ k = 3 ∨ k = 4 ∨ k = 5 ∨ k = 6) with rfl | rfl | rfl | rfl | rfl | rfl | rfl <;>
    simp [metaPre, metaParts, fixedF_length, placeAt]
theorem placeAt_succ (k : Nat) (hk : k < 7) : placeAt (k + 1) = placeAt k + placeW k := by
  rcases (by omega : k = 0 ∨ k = 1 ∨ k = 2 ∨ k = 3 ∨ k = 4 ∨ k = 5 ∨ k = 6) with rfl | rfl | rfl | rfl | rfl | rfl | rfl <;> rfl
theorem metaPre_len7 : (metaPre eg pg tx rt ct fr ls hi 7).length = 40 := by simp [metaPre, metaParts, fixedF_length]
theorem metaPre_succ (k : Nat) (hk : k < 7) : metaPre eg pg tx rt ct fr ls hi (k + 1) = metaPre eg pg tx rt ct fr ls hi k ++ fixedF (metaNum pg tx rt ct fr ls hi k) (placeW k) := by
  rcases (by omega : k = 0 ∨ k = 1 ∨ k = 2 ∨ k = 3 ∨ k = 4 ∨ k = 5 ∨ k = 6) with rfl | rfl | rfl | rfl | rfl | rfl | rfl <;>
    simp [metaPre, metaParts, placeW, metaNum]
end
theorem splice_zeros (pre x : List UInt8) (n o : Nat) (ho : pre.length = o) (hx : x.length ≤ n) :
    splice (pre ++ List.replicate n 0) o x = (pre ++ x) ++ List.replicate (n - x.length) 0 := by
  subst ho
  unfold splice
  rw [List.take_left, List.drop_append, List.drop_of_length_le (by omega), List.nil_append, show pre.length + x.length - pre.length = x.length by omega, List.drop_replicate]
  simp
theorem enc_head (eg pg tx rt ct fr ls hi : Nat) (h : 512 ≤ pg) : splice (((List.replicate pg (0 : UInt8)).set 0 1).set 1 (UInt8.ofNat eg)) 4 [69, 83, 80, 76] = metaPre eg pg tx rt ct fr ls hi 0 ++ List.replicate (pg - placeAt 0) 0 := by
  obtain ⟨n, rfl⟩ : ∃ n, pg = n + 4 := ⟨pg - 4, by omega⟩
  have e : ((List.replicate (n + 4) (0 : UInt8)).set 0 1).set 1 (UInt8.ofNat eg) = [1, UInt8.ofNat eg, 0, 0] ++ List.replicate n 0 := rfl
  rw [e, splice_zeros [1, UInt8.ofNat eg, 0, 0] [69, 83, 80, 76] n 4 rfl (by simp; omega)]
  simp [metaPre, placeAt]
theorem places_at (k : Nat) (hk : k < 7) (w : World) : (Instr.index 51 placesV (.int .i64 (k : Int))).run Try.prog w = .ok (.agg #[.int .i64 (placeAt k : Nat), .int .i64 (placeW k : Nat)]) w := by
  rcases (by omega : k = 0 ∨ k = 1 ∨ k = 2 ∨ k = 3 ∨ k = 4 ∨ k = 5 ∨ k = 6) with rfl | rfl | rfl | rfl | rfl | rfl | rfl <;> kernel_rfl
theorem okB_bounds {eg pg tx rt ct fr ls hi : Nat} (h : okB eg pg tx rt ct fr ls hi = true) :
    (1 ≤ eg ∧ eg ≤ 2) ∧ (512 ≤ pg ∧ pg ≤ 65536) ∧ tx ≤ 1099511627776 ∧ rt ≤ 65536 ∧ ct ≤ 65536 ∧ fr ≤ 65536 ∧ ls ≤ 65536 ∧ (2 ≤ hi ∧ hi ≤ 65536) := by
  simp only [okB, linkB, Bool.and_eq_true] at h
  obtain ⟨⟨⟨⟨⟨⟨h1, h2⟩, h3⟩, h4⟩, ⟨⟨h5, h6⟩, _⟩⟩, h7⟩, h8⟩ := h
  have h1 := of_decide_eq_true h1
  have h2 : isPow pg := of_decide_eq_true h2
  have h3 := of_decide_eq_true h3
  have h4 := of_decide_eq_true h4
  have h5 := of_decide_eq_true h5
  have h6 := of_decide_eq_true h6
  have h7 := of_decide_eq_true h7
  have h8 := of_decide_eq_true h8
  unfold isPow at h2
  omega
theorem metaNum_le {eg pg tx rt ct fr ls hi : Nat} (h : okB eg pg tx rt ct fr ls hi = true) (k : Nat) : metaNum pg tx rt ct fr ls hi k ≤ 1099511627776 := by
  have := okB_bounds h
  rcases k with _ | _ | _ | _ | _ | _ | _ | k <;> simp only [metaNum] <;> omega
end Go.Proofs.Ytdnfbjmapdgnnaa
