/- What bytes say as a meta page. -/
import Derived.Test.YtdnfbjmapdgnnaaMetaEncA
import Derived.Test.YtdnfbjmapdgnnaaInkReadFixed
namespace Go.Proofs.Ytdnfbjmapdgnnaa
open Go.RowKit

/-- The j-th number of a page, as an int. -/
def fldI (l : List UInt8) (j : Nat) : Int := IntKind.i64.wrap (numF ((l.drop (placeAt j)).take (placeW j)) : Nat)
def engI (l : List UInt8) : Int := ((l.getD 1 0).toNat : Int)
def okL (l : List UInt8) : Bool := okB (engI l) (fldI l 0) (fldI l 1) (fldI l 2) (fldI l 3) (fldI l 4) (fldI l 5) (fldI l 6)
def encL (l : List UInt8) : List UInt8 := encF (engI l).toNat (fldI l 0).toNat (fldI l 1).toNat (fldI l 2).toNat (fldI l 3).toNat (fldI l 4).toNat (fldI l 5).toNat (fldI l 6).toNat
/-- Are the bytes a meta page? -/
def isMeta (l : List UInt8) : Bool := decide (512 ≤ l.length ∧ l.length ≤ 65536) && (okL l && decide (encL l = l))
/-- The meta's cells. -/
def metaV (l : List UInt8) : List Value := [.int .i64 (engI l), .int .i64 (fldI l 0), .int .i64 (fldI l 1), .int .i64 (fldI l 2), .int .i64 (fldI l 3), .int .i64 (fldI l 4), .int .i64 (fldI l 5), .int .i64 (fldI l 6)]
abbrev zeroV : List Value := [.int .i64 0, .int .i64 0, .int .i64 0, .int .i64 0, .int .i64 0, .int .i64 0, .int .i64 0, .int .i64 0]
theorem encF_length {eg pg tx rt ct fr ls hi : Nat} (h : 512 ≤ pg) : (encF eg pg tx rt ct fr ls hi).length = pg := by
  unfold encF metaBody
  rw [List.length_append, List.length_append, metaPre_len7, List.length_replicate, fixedF_length]; omega
theorem engI_wrap (l : List UInt8) : IntKind.i64.wrap (engI l) = engI l := by
  have : (l.getD 1 0).toNat < 256 := (l.getD 1 0).toNat_lt
  unfold engI; rw [IntKind.wrap_i64]; omega
theorem fldI_range (l : List UInt8) (j : Nat) : -9223372036854775808 ≤ fldI l j ∧ fldI l j ≤ 9223372036854775807 := by
  unfold fldI; rw [IntKind.wrap_i64]; omega
/-- The numbers of a page that may be, as natural numbers. -/
theorem okL_nat {l : List UInt8} (h : okL l = true) : ∃ eg pg tx rt ct fr ls hi : Nat, engI l = eg ∧ fldI l 0 = pg ∧ fldI l 1 = tx ∧ fldI l 2 = rt ∧ fldI l 3 = ct ∧ fldI l 4 = fr ∧ fldI l 5 = ls ∧ fldI l 6 = hi ∧
    encL l = encF eg pg tx rt ct fr ls hi ∧ okB eg pg tx rt ct fr ls hi = true := by
  have h0 := h
  simp only [okL, okB, linkB, Bool.and_eq_true] at h
  obtain ⟨⟨⟨⟨⟨⟨h1, h2⟩, h3⟩, h4⟩, ⟨⟨h5, h6⟩, _⟩⟩, h7⟩, h8⟩ := h
  have h1 := of_decide_eq_true h1
  have h2 : isPow _ := of_decide_eq_true h2
  have h3 := of_decide_eq_true h3
  have h4 := of_decide_eq_true h4
  have h5 := of_decide_eq_true h5
  have h6 := of_decide_eq_true h6
  have h7 := of_decide_eq_true h7
  have h8 := of_decide_eq_true h8
  unfold isPow at h2
  refine ⟨(engI l).toNat, (fldI l 0).toNat, (fldI l 1).toNat, (fldI l 2).toNat, (fldI l 3).toNat, (fldI l 4).toNat, (fldI l 5).toNat, (fldI l 6).toNat, ?_, ?_, ?_, ?_, ?_, ?_, ?_, ?_, rfl, ?_⟩
  any_goals omega
  unfold okL at h0
  rw [Int.toNat_of_nonneg (by omega), Int.toNat_of_nonneg (by omega), Int.toNat_of_nonneg (by omega), Int.toNat_of_nonneg (by omega), Int.toNat_of_nonneg (by omega), Int.toNat_of_nonneg (by omega), Int.toNat_of_nonneg (by omega), Int.toNat_of_nonneg (by omega)]
  exact h0
theorem set8 {w : World} {g : Nat} {T : TypeId} {b0 b1 b2 b3 b4 b5 b6 b7 : Value} (h : OBlk w g T [b0, b1, b2, b3, b4, b5, b6, b7]) (a0 a1 a2 a3 a4 a5 a6 a7 : Value) :
    OBlk ((((((((w.setCell ⟨g, 0, none⟩ a0).setCell ⟨g, 1, none⟩ a1).setCell ⟨g, 2, none⟩ a2).setCell ⟨g, 3, none⟩ a3).setCell ⟨g, 4, none⟩ a4).setCell ⟨g, 5, none⟩ a5).setCell ⟨g, 6, none⟩ a6).setCell ⟨g, 7, none⟩ a7) g T [a0, a1, a2, a3, a4, a5, a6, a7] := ((((((((h.set 0 a0).set 1 a1).set 2 a2).set 3 a3).set 4 a4).set 5 a5).set 6 a6).set 7 a7)
theorem far8 {w : World} {g g' : Nat} {T : TypeId} {cs : List Value} (h : OBlk w g' T cs) (hg : g' ≠ g) (a0 a1 a2 a3 a4 a5 a6 a7 : Value) :
    OBlk ((((((((w.setCell ⟨g, 0, none⟩ a0).setCell ⟨g, 1, none⟩ a1).setCell ⟨g, 2, none⟩ a2).setCell ⟨g, 3, none⟩ a3).setCell ⟨g, 4, none⟩ a4).setCell ⟨g, 5, none⟩ a5).setCell ⟨g, 6, none⟩ a6).setCell ⟨g, 7, none⟩ a7) g' T cs := ((((((((h.far (p := ⟨g, 0, none⟩) hg a0).far (p := ⟨g, 1, none⟩) hg a1).far (p := ⟨g, 2, none⟩) hg a2).far (p := ⟨g, 3, none⟩) hg a3).far (p := ⟨g, 4, none⟩) hg a4).far (p := ⟨g, 5, none⟩) hg a5).far (p := ⟨g, 6, none⟩) hg a6).far (p := ⟨g, 7, none⟩) hg a7)
theorem below8 {B g : Nat} {w0 w : World} (h : Below B w0 w) (hg : B ≤ g) (a0 a1 a2 a3 a4 a5 a6 a7 : Value) :
    Below B w0 ((((((((w.setCell ⟨g, 0, none⟩ a0).setCell ⟨g, 1, none⟩ a1).setCell ⟨g, 2, none⟩ a2).setCell ⟨g, 3, none⟩ a3).setCell ⟨g, 4, none⟩ a4).setCell ⟨g, 5, none⟩ a5).setCell ⟨g, 6, none⟩ a6).setCell ⟨g, 7, none⟩ a7) := ((((((((h.setCell (p := ⟨g, 0, none⟩) hg a0).setCell (p := ⟨g, 1, none⟩) hg a1).setCell (p := ⟨g, 2, none⟩) hg a2).setCell (p := ⟨g, 3, none⟩) hg a3).setCell (p := ⟨g, 4, none⟩) hg a4).setCell (p := ⟨g, 5, none⟩) hg a5).setCell (p := ⟨g, 6, none⟩) hg a6).setCell (p := ⟨g, 7, none⟩) hg a7)
def DecPost (l : List UInt8) (w : World) (e : Ending) (w' : World) : Prop :=
  e = .returned (.tuple #[.agg (bif isMeta l then metaV l else zeroV).toArray, .int .i64 (bif isMeta l then 0 else 50)]) ∧ Below w.heap.size w w'
/-- The array of the numbers, k of them read. -/
def decVals (l : List UInt8) (k : Nat) : List Value := (List.range 7).map fun j => .int .i64 (if j < k then fldI l j else 0)
theorem decVals_set (l : List UInt8) (k : Nat) (hk : k < 7) : (decVals l k).set k (.int .i64 (fldI l k)) = decVals l (k + 1) := by
  unfold decVals
  apply List.ext_getElem?
  intro i
  simp only [List.getElem?_set, List.getElem?_map, List.length_map, List.length_range]
  by_cases h : k = i
  · subst h
    simp [hk]
  · by_cases hi : i < 7
    · rw [if_neg h, List.getElem?_range hi]
      simp only [Option.map_some]
      congr 2
      by_cases h2 : i < k
      · rw [if_pos h2, if_pos (by omega)]
      · rw [if_neg h2, if_neg (by omega)]
    · rw [if_neg h, List.getElem?_eq_none (by simp; omega)]; rfl
theorem decVals_len (l : List UInt8) (k : Nat) : (decVals l k).length = 7 := by simp [decVals]
theorem decVals_at (l : List UInt8) (k : Nat) (hk : k < 7) : (decVals l k)[k]? = some (.int .i64 0) := by
  unfold decVals
  rw [List.getElem?_map, List.getElem?_range hk]
  simp
theorem decVals_seven (l : List UInt8) : decVals l 7 = [.int .i64 (fldI l 0), .int .i64 (fldI l 1), .int .i64 (fldI l 2), .int .i64 (fldI l 3), .int .i64 (fldI l 4), .int .i64 (fldI l 5), .int .i64 (fldI l 6)] := rfl
theorem decVals_zero (l : List UInt8) : decVals l 0 = [.int .i64 0, .int .i64 0, .int .i64 0, .int .i64 0, .int .i64 0, .int .i64 0, .int .i64 0] := rfl
end Go.Proofs.Ytdnfbjmapdgnnaa
