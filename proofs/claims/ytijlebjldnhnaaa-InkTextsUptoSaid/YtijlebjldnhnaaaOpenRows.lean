/- An argument of type [][]byte. -/
import Derived.Test.YtijlebjldnhnaaaClose2
import Derived.Deep.Matrix
namespace Go.Proofs.Ytijlebjldnhnaaa
open Go.RowKit Go.WideShapes Go.ChangeShapes Go.Joins Go.Deep
section
variable {H : Type} {enc : TypeId × Value → H} {W : World}
theorem cells_L : Try.prog.cellsOf 24 = 1 := by kernel_rfl
theorem weightsAll_mem {P : Program} {e : TypeId} : ∀ {l : List (DataW H)} {d : DataW H}, d ∈ l → ∀ n ∈ d.weights P e, n ∈ DataW.weightsAll P e l
  | x :: l, d, hd, n, hn => by
    simp only [DataW.weightsAll, List.mem_append]
    rcases List.mem_cons.mp hd with rfl | hd
    · exact Or.inl hn
    · exact Or.inr (weightsAll_mem hd n hn)
def rowB (Z : Nat → List Int) (L : Nat → Nat) (r : Nat) : List UInt8 := ((Z r).take (L r)).map fun z => UInt8.ofNat z.toNat
theorem rowB_len {Z : Nat → List Int} {L C : Nat → Nat} {r : Nat} (h1 : L r ≤ C r) (h2 : (Z r).length = C r) : (rowB Z L r).length = L r := by simp [rowB]; omega
/-- One row. -/
theorem rowB_rd {A : Nat → Option Addr} {L C : Nat → Nat} {Z : Nat → List Int} {r : Nat} (h1 : L r ≤ C r) (h2 : C r ≤ maxLen) (h3 : (Z r).length = C r) (h4 : ∀ n ∈ Z r, (Lit.int .u8 n).wf = true) (h5 : A r = none → C r = 0)
    (h6 : ∀ a', A r = some a' → 0 ≤ a'.block ∧ ∀ c, c < C r → W.cell? (a'.add c) = some (.int .u8 ((Z r).getD c 0))) : RdB W (.slice (A r) (L r) (C r)) (rowB Z L r) := by
  have hlen := rowB_len (Z := Z) h1 h3
  refine ⟨A r, C r, by rw [hlen], by rw [hlen]; exact h1, h2, fun j hj => ?_⟩
  rw [hlen] at hj
  have hjz : j < (Z r).length := by omega
  cases ha : A r with
  | none => have := h5 ha; omega
  | some a =>
    refine ⟨a, rfl, ?_⟩
    rw [(h6 a ha).2 j (by omega)]
    have hw := h4 _ (List.getElem_mem hjz)
    have hg : (Z r).getD j 0 = (Z r)[j] := by simp [List.getD, hjz]
    rw [hg]
    simp [Lit.wf, IntKind.min, IntKind.max, IntKind.signed, IntKind.bits] at hw
    simp [rowB]
    omega
theorem open_rowsB {base : Nat} {v : Value} {d : DataW H} {p : List MemPlace} {ts : List TypeId} {ds : List (DataW H)} {j : Nat} (hv : Value.okWide Try.prog W .any base 44 v) (h : DataW.Trod enc Try.prog W 0 (fun _ => true) true 44 v d p)
    (hsz : (DataW.weightsEach Try.prog ts ds).all (· ≤ reachBytes) = true) (ht : ts[j]? = some 44) (hd : ds[j]? = some d) :
    ∃ ls : List (List UInt8), RdL W v ls ∧ ∀ l ∈ ls, l.length ≤ 140737488351232 := by
  obtain ⟨a0, len, cap, rfl⟩ := okWide_slice Try.underlying44 hv
  obtain ⟨fuel, hf⟩ := h
  rcases open_int_rows Try.underlying44 Try.underlying24 Try.underlying5 cells_L cells_u8 hf with ⟨hcs, _⟩ | ⟨a, len', cap', A, L, C, Z, hcs, _, hl, hm, hx, hr⟩
  · simp [Value.cells] at hcs
    obtain ⟨rfl, rfl, rfl⟩ := hcs
    exact ⟨[], ⟨[], Rd.nil, rfl, fun i hi => by simp at hi⟩, by simp⟩
  · simp [Value.cells] at hcs
    obtain ⟨rfl, rfl, rfl⟩ := hcs
    simp only [Prod.mk.injEq] at hx
    obtain ⟨rfl, _⟩ := hx
    refine ⟨(List.range len).map (rowB Z L), ⟨(List.range len).map fun r => .slice (A r) (L r) (C r), ⟨by simp, some a, cap, by simp, by simp; exact hl, hm, fun k u hk => ?_⟩, by simp, fun i hi => ?_⟩, fun l hl' => ?_⟩
    · have hkl : k < len := by
        have := (List.getElem?_eq_some_iff.mp hk).1
        simpa using this
      refine ⟨a, rfl, ?_⟩
      rw [(hr k (by omega)).1]
      simpa [hkl] using hk
    · have hil : i < len := by simpa using hi
      refine ⟨.slice (A i) (L i) (C i), by simp [hil], ?_⟩
      obtain ⟨_, h1, h2, h3, h4, h5, h6⟩ := hr i (by omega)
      simpa using rowB_rd h1 h2 h3 h4 h5 h6
    · obtain ⟨r, hr1, rfl⟩ := List.mem_map.mp hl'
      have hrl : r < len := by simpa using hr1
      obtain ⟨_, h1, h2, h3, h4, h5, h6⟩ := hr r (by omega)
      rw [rowB_len h1 h3]
      cases ha : A r with
      | none => have := h5 ha; omega
      | some ar =>
        have hmem : intRow (H := H) .u8 (A r) (L r) (Z r) ∈ (List.range len).map fun r => intRow (H := H) .u8 (A r) (L r) (Z r) := List.mem_map.mpr ⟨r, hr1, rfl⟩
        have hw : ((Z r).length) * Try.prog.bytesOf 5 ∈ (intRow (H := H) .u8 (A r) (L r) (Z r)).weights Try.prog 24 := by
          rw [ha]
          simp only [intRow, DataW.weights, Try.underlying24]
          refine List.mem_cons.mpr (Or.inl ?_)
          simp only [lits, List.length_map, List.length_take, List.length_drop]
          congr 1
          omega
        have h7 := weightsAll_mem hmem _ hw
        have h8 : (Z r).length * Try.prog.bytesOf 5 ≤ reachBytes := by
          have := List.all_eq_true.1 hsz _ (DataW.weights_mem_each ht hd _ (by
            simp only [DataW.weights, Try.underlying44]
            exact List.mem_cons.mpr (Or.inr (List.mem_append.mpr (Or.inl h7)))))
          simpa using this
        rw [bytes_u8, Nat.mul_one, h3] at h8
        simp only [reachBytes] at h8
        omega
end
end Go.Proofs.Ytijlebjldnhnaaa
