/- Pages of long values: what is written, how it is read: plain laws. -/
import Derived.Test.YtgnhakgfgdelpaaPlnF
import Derived.Test.YtgnhakgfgdelpaaPow
namespace Go.Proofs.Ytgnhakgfgdelpaa
def i64w (n : Int) : Prop := -9223372036854775808 ≤ n ∧ n ≤ 9223372036854775807
def spZ (next : Int) (d : List UInt8) (P : Int) : Int := if isPowB P = false ∨ (next ≠ 0 ∧ (next < 2 ∨ 65536 ≤ next)) then 1 else if d.length = 0 ∨ P - 16 < (d.length : Int) then 31 else 0
def preS (next : Int) (d : List UInt8) (P : Nat) : List UInt8 := 4 :: 0 :: 0 :: 0 :: (fixedF next.toNat 4 ++ (fixedF d.length 4 ++ (d ++ List.replicate (P - 16 - d.length) 0)))
def laidS (next : Int) (d : List UInt8) (P : Nat) : List UInt8 := preS next d P ++ fixedF (sumF (preS next d P)) 4
def spL (next : Int) (d : List UInt8) (P : Int) : List UInt8 := if spZ next d P = 0 then laidS next d P.toNat else []
theorem spZ_zero {next : Int} {d : List UInt8} {P : Int} (h : spZ next d P = 0) : isPowB P = true ∧ (next = 0 ∨ (2 ≤ next ∧ next < 65536)) ∧ 1 ≤ d.length ∧ (d.length : Int) + 16 ≤ P ∧ 512 ≤ P ∧ P ≤ 65536 := by
  unfold spZ at h
  split at h
  · cases h
  · rename_i h1
    split at h
    · cases h
    · rename_i h2
      have hp : isPowB P = true := by
        cases e : isPowB P with
        | true => rfl
        | false => exact absurd (.inl e) h1
      have := isPowB_range hp
      refine ⟨hp, ?_, by omega, by omega, this.1, this.2⟩
      rcases (by omega : next < 0 ∨ 0 ≤ next) with h3 | h3
      · exact absurd (.inr ⟨by omega, by omega⟩) h1
      · by_cases h4 : next = 0
        · exact .inl h4
        · right
          constructor
          · rcases (by omega : next < 2 ∨ 2 ≤ next) with h5 | h5
            · exact absurd (.inr ⟨h4, .inl h5⟩) h1
            · exact h5
          · rcases (by omega : next < 65536 ∨ 65536 ≤ next) with h5 | h5
            · exact h5
            · exact absurd (.inr ⟨h4, .inr h5⟩) h1
theorem spZ_range (next : Int) (d : List UInt8) (P : Int) : 0 ≤ spZ next d P ∧ spZ next d P ≤ 31 := by
  unfold spZ; split
  · simp
  · split <;> simp
theorem preS_length {next : Int} {d : List UInt8} {P : Nat} (h : d.length + 16 ≤ P) : (preS next d P).length = P - 4 := by
  unfold preS
  simp only [List.length_cons, List.length_append, fixedF_length, List.length_replicate]; omega
theorem laidS_length {next : Int} {d : List UInt8} {P : Nat} (h : d.length + 16 ≤ P) : (laidS next d P).length = P := by
  unfold laidS
  rw [List.length_append, preS_length h, fixedF_length]; omega
theorem spL_length (next : Int) (d : List UInt8) (P : Int) : (spL next d P).length ≤ 65536 := by
  unfold spL
  split
  · rename_i h
    have := spZ_zero h
    rw [laidS_length (by omega)]; omega
  · simp
/-- What a spill page says. -/
def isSp (b : List UInt8) (next : Int) (d : List UInt8) : Prop := spZ next d (b.length : Int) = 0 ∧ laidS next d b.length = b
theorem parse_laidS {next : Int} {d : List UInt8} {P : Nat} (h : spZ next d (P : Int) = 0) : (numAt (laidS next d P) 4 4 : Int) = next ∧ numAt (laidS next d P) 8 4 = d.length ∧ ((laidS next d P).drop 12).take d.length = d := by
  obtain ⟨h1, h2, h3, h4, h5, h6⟩ := spZ_zero h
  have hB : laidS next d P = (4 :: 0 :: 0 :: 0 :: (fixedF next.toNat 4 ++ (fixedF d.length 4 ++ (d ++ List.replicate (P - 16 - d.length) 0)))) ++ fixedF (sumF (preS next d P)) 4 := rfl
  refine ⟨?_, ?_, ?_⟩
  · have : numAt (laidS next d P) 4 4 = next.toNat := by
      refine numAt_mid (pre := [4, 0, 0, 0]) (rest := (fixedF d.length 4 ++ (d ++ List.replicate (P - 16 - d.length) 0)) ++ fixedF (sumF (preS next d P)) 4) (by rw [hB]; simp) rfl (by show _ < 4294967296; omega)
    rw [this]; omega
  · refine numAt_mid (pre := 4 :: 0 :: 0 :: 0 :: fixedF next.toNat 4) (rest := (d ++ List.replicate (P - 16 - d.length) 0) ++ fixedF (sumF (preS next d P)) 4) (by rw [hB]; simp) (by simp [fixedF_length]) (by show _ < 4294967296; omega)
  · refine take_mid (pre := 4 :: 0 :: 0 :: 0 :: (fixedF next.toNat 4 ++ fixedF d.length 4)) (rest := List.replicate (P - 16 - d.length) 0 ++ fixedF (sumF (preS next d P)) 4) (by rw [hB]; simp) (by simp [fixedF_length]) rfl
theorem isSp_parse {b : List UInt8} {next : Int} {d : List UInt8} (h : isSp b next d) : (numAt b 4 4 : Int) = next ∧ numAt b 8 4 = d.length ∧ (b.drop 12).take d.length = d := by
  obtain ⟨h1, h2⟩ := h
  have := parse_laidS h1
  rw [h2] at this
  exact this
/-- How many pages a value takes. -/
def pagesF (page n : Int) : Int := if isPowB page = false ∨ n < 1 then 0 else (n - 1) / (page - 16) + 1
end Go.Proofs.Ytgnhakgfgdelpaa
