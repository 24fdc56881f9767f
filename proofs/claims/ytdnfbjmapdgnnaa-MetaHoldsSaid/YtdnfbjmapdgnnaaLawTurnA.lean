/- A meta page that is turned within four neighbouring bytes is none. -/
import Derived.Test.YtdnfbjmapdgnnaaLawHoldA
import Derived.Test.YtdnfbjmapdgnnaaBurst
namespace Go.Proofs.Ytdnfbjmapdgnnaa
open Go.RowKit
theorem u8_xor (x y : UInt8) : bits .xor .u8 (x.toNat : Int) (y.toNat : Int) = ((x ^^^ y).toNat : Int) := by
  have hx := x.toNat_lt
  have hy := y.toNat_lt
  have h1 : (BitVec.ofInt 8 (x.toNat : Int)).toNat = x.toNat := by rw [BitVec.toNat_ofInt]; omega
  have h2 : (BitVec.ofInt 8 (y.toNat : Int)).toNat = y.toNat := by rw [BitVec.toNat_ofInt]; omega
  show IntKind.u8.wrap ((BitVec.ofInt 8 (x.toNat : Int) ^^^ BitVec.ofInt 8 (y.toNat : Int)).toNat : Int) = _
  rw [BitVec.toNat_xor, h1, h2, UInt8.toNat_xor]
  have h3 : x.toNat ^^^ y.toNat < 2 ^ 8 := Nat.xor_lt_two_pow hx hy
  rw [IntKind.wrap_u8]
  omega
theorem fixedF4_inj {a b : Nat} (ha : a < 4294967296) (hb : b < 4294967296) (h : fixedF a 4 = fixedF b 4) : a = b := by
  have h1 := numF_fixedF a 4 (by omega)
  have h2 := numF_fixedF b 4 (by omega)
  rw [h] at h1; omega
/-- The two parts of a meta page. -/
theorem isMeta_parts {l : List UInt8} (h : isMeta l = true) : ∃ B, l = B ++ fixedF (sumF B) 4 ∧ B.length + 4 = l.length := by
  obtain ⟨eg, pg, tx, rt, ct, fr, ls, hi, hok, rfl⟩ := isMeta_enc h
  exact ⟨metaBody eg pg tx rt ct fr ls hi, rfl, by unfold encF; rw [List.length_append, fixedF_length]⟩
theorem turn_body {l t : List UInt8} {p : Nat} (h : isMeta l = true) (h4 : t.length ≤ 4) (hp : p + t.length + 4 ≤ l.length) (ht : anyNZ t = true) : isMeta (turnF l p t) = false := by
  rcases tf (isMeta (turnF l p t)) with h2 | h2
  case inr => exact h2
  exfalso
  obtain ⟨B, hB, hl⟩ := isMeta_parts h
  obtain ⟨B', hB', hl'⟩ := isMeta_parts h2
  have hlen := turnF_length l p t (by omega)
  have e : turnF l p t = turnF B p t ++ fixedF (sumF B) 4 := by
    rw [hB]; exact turnF_left B _ p t (by omega)
  rw [e] at hB'
  have hBl := turnF_length B p t (by omega)
  obtain ⟨e1, e2⟩ := List.append_inj hB' (by omega)
  have e3 := fixedF4_inj (sumF_lt _) (sumF_lt _) e2
  rw [← e1] at e3
  exact anyNZ_true ht (sumF_turn B p t h4 (by omega) e3.symm)
theorem turn_sum {l t : List UInt8} {p : Nat} (h : isMeta l = true) (hp : l.length ≤ p + 4) (hpt : p + t.length ≤ l.length) (ht : anyNZ t = true) : isMeta (turnF l p t) = false := by
  rcases tf (isMeta (turnF l p t)) with h2 | h2
  case inr => exact h2
  exfalso
  obtain ⟨B, hB, hl⟩ := isMeta_parts h
  obtain ⟨B', hB', hl'⟩ := isMeta_parts h2
  have hlen := turnF_length l p t (by omega)
  obtain ⟨r, rfl⟩ : ∃ r, p = B.length + r := ⟨p - B.length, by omega⟩
  have e : turnF l (B.length + r) t = B ++ turnF (fixedF (sumF B) 4) r t := by
    rw [hB]; exact turnF_right B _ r t
  rw [e] at hB'
  obtain ⟨e1, e2⟩ := List.append_inj hB' (by omega)
  rw [← e1] at e2
  have hf := fixedF_length (sumF B) 4
  exact anyNZ_true ht (turnF_self _ r t (by omega) e2)
end Go.Proofs.Ytdnfbjmapdgnnaa
