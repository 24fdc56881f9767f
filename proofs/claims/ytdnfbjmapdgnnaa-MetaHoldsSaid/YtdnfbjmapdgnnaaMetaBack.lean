/- The plain law: a meta page as Encode writes it reads as what was written. -/
import Derived.Test.YtdnfbjmapdgnnaaMetaDecA
namespace Go.Proofs.Ytdnfbjmapdgnnaa
open Go.RowKit

theorem numF_fixedF (n k : Nat) (h : n < 256 ^ k) : numF (fixedF n k) = n := by
  induction k generalizing n with
  | zero => simp [fixedF, numF]; simp at h; omega
  | succ k ih =>
    rw [Nat.pow_succ] at h
    have hd : n / 256 < 256 ^ k := Nat.div_lt_of_lt_mul (by rw [Nat.mul_comm]; exact h)
    rw [fixedF, numF_snoc, ih _ hd, UInt8.toNat_ofNat']
    omega
theorem encF_split (eg pg tx rt ct fr ls hi k : Nat) (hk : k < 7) : ∃ rest, encF eg pg tx rt ct fr ls hi = metaPre eg pg tx rt ct fr ls hi k ++ (fixedF (metaNum pg tx rt ct fr ls hi k) (placeW k) ++ rest) := by
  have h7 : ∃ rest, metaPre eg pg tx rt ct fr ls hi 7 = metaPre eg pg tx rt ct fr ls hi (k + 1) ++ rest := by
    refine ⟨((metaParts eg pg tx rt ct fr ls hi).drop (k + 1)).flatten, ?_⟩
    unfold metaPre
    rw [List.append_assoc, ← List.flatten_append, List.take_append_drop, List.take_of_length_le (by simp [metaParts])]
  obtain ⟨r, hr⟩ := h7
  refine ⟨r ++ (List.replicate (pg - 44) 0 ++ fixedF (sumF (metaBody eg pg tx rt ct fr ls hi)) 4), ?_⟩
  unfold encF
  conv => lhs; arg 1; unfold metaBody
  rw [hr, metaPre_succ (hk := hk)]
  simp only [List.append_assoc]
theorem metaNum_w {eg pg tx rt ct fr ls hi : Nat} (h : okB eg pg tx rt ct fr ls hi = true) (k : Nat) (hk : k < 7) : metaNum pg tx rt ct fr ls hi k < 256 ^ placeW k := by
  have hb := okB_bounds h
  rcases (by omega : k = 0 ∨ k = 1 ∨ k = 2 ∨ k = 3 ∨ k = 4 ∨ k = 5 ∨ k = 6) with rfl | rfl | rfl | rfl | rfl | rfl | rfl <;>
    simp only [metaNum, placeW] <;> omega
theorem fldI_encF {eg pg tx rt ct fr ls hi : Nat} (h : okB eg pg tx rt ct fr ls hi = true) (k : Nat) (hk : k < 7) : fldI (encF eg pg tx rt ct fr ls hi) k = (metaNum pg tx rt ct fr ls hi k : Nat) := by
  obtain ⟨r, hr⟩ := encF_split eg pg tx rt ct fr ls hi k hk
  have hl := metaPre_len eg pg tx rt ct fr ls hi k hk
  unfold fldI
  rw [hr, ← hl, List.drop_left, List.take_left' (fixedF_length _ _), numF_fixedF _ _ (metaNum_w h k hk)]
  have := metaNum_le h k
  rw [IntKind.wrap_i64]
  omega
theorem engI_encF {eg pg tx rt ct fr ls hi : Nat} (h : okB eg pg tx rt ct fr ls hi = true) : engI (encF eg pg tx rt ct fr ls hi) = eg := by
  have hb := (okB_bounds h).1
  have : (encF eg pg tx rt ct fr ls hi).getD 1 0 = UInt8.ofNat eg := by simp [encF, metaBody, metaPre]
  unfold engI
  rw [this, u8_byte]
  omega
theorem metaV_encF {eg pg tx rt ct fr ls hi : Nat} (h : okB eg pg tx rt ct fr ls hi = true) :
    metaV (encF eg pg tx rt ct fr ls hi) = [.int .i64 (eg : Int), .int .i64 (pg : Int), .int .i64 (tx : Int), .int .i64 (rt : Int), .int .i64 (ct : Int), .int .i64 (fr : Int), .int .i64 (ls : Int), .int .i64 (hi : Int)] := by
  unfold metaV
  rw [engI_encF h, fldI_encF h 0 (by omega), fldI_encF h 1 (by omega), fldI_encF h 2 (by omega), fldI_encF h 3 (by omega), fldI_encF h 4 (by omega), fldI_encF h 5 (by omega), fldI_encF h 6 (by omega)]
  rfl
theorem encL_encF {eg pg tx rt ct fr ls hi : Nat} (h : okB eg pg tx rt ct fr ls hi = true) : encL (encF eg pg tx rt ct fr ls hi) = encF eg pg tx rt ct fr ls hi := by
  unfold encL
  rw [engI_encF h, fldI_encF h 0 (by omega), fldI_encF h 1 (by omega), fldI_encF h 2 (by omega), fldI_encF h 3 (by omega), fldI_encF h 4 (by omega), fldI_encF h 5 (by omega), fldI_encF h 6 (by omega)]
  rfl
theorem okL_encF {eg pg tx rt ct fr ls hi : Nat} (h : okB eg pg tx rt ct fr ls hi = true) : okL (encF eg pg tx rt ct fr ls hi) = true := by
  unfold okL
  rw [engI_encF h, fldI_encF h 0 (by omega), fldI_encF h 1 (by omega), fldI_encF h 2 (by omega), fldI_encF h 3 (by omega), fldI_encF h 4 (by omega), fldI_encF h 5 (by omega), fldI_encF h 6 (by omega)]
  exact h
theorem okB_page {eg pg tx rt ct fr ls hi : Nat} (h : okB eg pg tx rt ct fr ls hi = true) : 512 ≤ pg ∧ pg ≤ 65536 := by
  have := okB_bounds h
  omega
theorem isMeta_encF {eg pg tx rt ct fr ls hi : Nat} (h : okB eg pg tx rt ct fr ls hi = true) : isMeta (encF eg pg tx rt ct fr ls hi) = true := by
  have := okB_page h
  unfold isMeta
  rw [okL_encF h, encL_encF h, encF_length this.1]
  simp [this]
/-- A page that is a meta page is the page of what it reads as. -/
theorem isMeta_enc {l : List UInt8} (h : isMeta l = true) : ∃ eg pg tx rt ct fr ls hi : Nat, okB eg pg tx rt ct fr ls hi = true ∧ l = encF eg pg tx rt ct fr ls hi := by
  simp only [isMeta, Bool.and_eq_true] at h
  obtain ⟨eg, pg, tx, rt, ct, fr, ls, hi, h1, h2, h3, h4, h5, h6, h7, h8, he, hok⟩ := okL_nat h.2.1
  have := of_decide_eq_true h.2.2
  exact ⟨eg, pg, tx, rt, ct, fr, ls, hi, hok, this.symm.trans he⟩
end Go.Proofs.Ytdnfbjmapdgnnaa
