/- Texts joined: node's functions and the document's, for any engine, kind and size; Slices of cells; plain.Page's Insert, Set, Remove beside the document's; plain.Page.refused; A page that is worked on, in words of pieces.; A plain page; plain.Page.Insert, in words of pieces; plain.Page.Set, in words of pieces -/
import Derived.Test.YtfcnkpofcekmgaaGreatNW4
import Derived.Test.YtfcnkpofcekmgaaGreatNW6
import Derived.Test.YtfcnkpofcekmgaaGreatNW7
import Derived.Test.YtfcnkpofcekmgaaGreatNW8
import Derived.Test.YtfcnkpofcekmgaaGreatNW16
import Derived.Test.YtfcnkpofcekmgaaGreatNW17
import Derived.Test.YtfcnkpofcekmgaaGreatNW18
import Derived.Test.YtfcnkpofcekmgaaGreatNW20
-- node's functions and the document's, for any engine, kind and size: told alike.
namespace Go.Proofs.YtfcnkpofcekmgaaGreat
open Go.RowKit
def encNZ (n kind : Int) (l : List PC) (P : Int) : Int := if n = 1 then encZ kind l P else if n = 2 then encKZ kind l P else 80
def encNL (n kind : Int) (l : List PC) (P : Int) : List UInt8 := if n = 1 then encL kind l P else if n = 2 then encKL kind l P else []
def fillN (n kind : Int) (l : List PC) (P : Int) : Int := if isPowB P = true then (if n = 1 then ((szN1 kind l * 256 / P.toNat : Nat) : Int) else if n = 2 then ((szN2 kind l * 256 / P.toNat : Nat) : Int) else 0) else 0
def halfP (n kind : Int) (l : List PC) (P : Int) : Int × Int :=
  if n = 1 then (if (kind = 2 ∨ kind = 3) ∧ isPowB P = true then (((halfA (szN1 kind) (fitN1 kind P.toNat) kind l P.toNat : Nat) : Int), halfZ (szN1 kind) (fitN1 kind P.toNat) kind l P.toNat) else (0, 1))
  else if n = 2 then (if (kind = 2 ∨ kind = 3) ∧ isPowB P = true then (((halfA (szN2 kind) (fitN2 kind P.toNat) kind l P.toNat : Nat) : Int), halfZ (szN2 kind) (fitN2 kind P.toNat) kind l P.toNat) else (0, 1))
  else (0, 80)
def mostKN (P : Int) : Int := if isPowB P = true then ((P.toNat / 8 : Nat) : Int) else 0
def mostVN (P : Int) : Int := if isPowB P = true then ((P.toNat / 16 * 3 : Nat) : Int) else 0
theorem encNL_length (n kind : Int) (l : List PC) (P : Int) : (encNL n kind l P).length ≤ 65536 := by
  unfold encNL
  split
  · exact encL_length kind l P
  · split
    · exact encKL_length kind l P
    · simp
section
variable (n kind : Int) (v : Value) (l : List CV) (P : Int) (w : World)
theorem NEncN (hPr : i64r P) (hl : RdCs w v l) (hn : l.length ≤ 2000000000000) :
    Calls Tryz.prog 25 #[.int .i64 n, .int .i64 kind, v, .int .i64 P] w fun e w' => ∃ u, e = .returned (.tuple #[u, .int .i64 (encNZ n kind (pcs l) P)]) ∧ OwB w' w.heap.size u (encNL n kind (pcs l) P) ∧ Below w.heap.size w w' := by
  unfold encNZ encNL
  by_cases h1 : n = 1
  · subst h1
    rw [if_pos rfl, if_pos rfl]
    exact NdEnc_1 kind v l P hPr w hl hn
  · rw [if_neg h1, if_neg h1]
    by_cases h2 : n = 2
    · subst h2
      rw [if_pos rfl, if_pos rfl]
      exact NdEnc_2 kind v l P hPr w hl hn
    · rw [if_neg h2, if_neg h2]
      obtain ⟨A, c, rfl, hm, hc⟩ := hl.slice
      refine (NdEnc_no n kind h1 h2 A _ c P w).mono ?_
      rintro e w' ⟨rfl, hb⟩
      exact ⟨_, rfl, OwB.nil _ _, hb⟩
theorem RNEncN (hl : RdCs w v l) (hn : l.length ≤ 2000000000000) :
    Calls Tryz.prog 30 #[.int .i64 n, .int .i64 kind, v, .int .i64 P] w fun e w' => ∃ u, e = .returned (.tuple #[u, .int .i64 (encNZ n kind (pcs l) P)]) ∧ OwB w' w.heap.size u (encNL n kind (pcs l) P) ∧ Below w.heap.size w w' := by
  unfold encNZ encNL
  by_cases h1 : n = 1
  · subst h1
    rw [if_pos rfl, if_pos rfl]
    refine (RNEnc_1 kind v l P w hl hn).mono ?_
    unfold REncAt encL encZ
    rintro e w' ⟨hb, ⟨h1, rfl⟩ | ⟨h1, ⟨h2, rfl⟩ | ⟨h2, u, rfl, ho⟩⟩⟩
    · rw [if_neg (by rw [h1]; simp), if_neg (by decide)]
      exact ⟨_, rfl, OwB.nil _ _, hb⟩
    · rw [if_pos h1, if_neg h2]
      exact ⟨_, rfl, OwB.nil _ _, hb⟩
    · rw [if_pos h1, if_pos h2, h2]
      exact ⟨_, rfl, ho, hb⟩
  · rw [if_neg h1, if_neg h1]
    by_cases h2 : n = 2
    · subst h2
      rw [if_pos rfl, if_pos rfl]
      refine (RNEnc_2 kind v l P w hl hn).mono ?_
      unfold REncKAt encKL encKZ
      rintro e w' ⟨hb, ⟨h1, rfl⟩ | ⟨h1, ⟨h2, rfl⟩ | ⟨h2, u, rfl, ho⟩⟩⟩
      · rw [if_neg (by rw [h1]; simp), if_neg (by decide)]
        exact ⟨_, rfl, OwB.nil _ _, hb⟩
      · rw [if_pos h1, if_neg h2]
        exact ⟨_, rfl, OwB.nil _ _, hb⟩
      · rw [if_pos h1, if_pos h2, h2]
        exact ⟨_, rfl, ho, hb⟩
    · rw [if_neg h2, if_neg h2]
      obtain ⟨A, c, rfl, hm, hc⟩ := hl.slice
      refine (RNEnc_no n kind h1 h2 A _ c P w).mono ?_
      rintro e w' ⟨rfl, hb⟩
      exact ⟨_, rfl, OwB.nil _ _, hb⟩
theorem NFitN (hPr : i64r P) (hl : RdCs w v l) (hn : l.length ≤ 2000000000000) :
    Calls Tryz.prog 26 #[.int .i64 n, .int .i64 kind, v, .int .i64 P] w fun e w' => e = .returned (.bool (encNZ n kind (pcs l) P == 0)) ∧ Below w.heap.size w w' := by
  unfold encNZ
  by_cases h1 : n = 1
  · subst h1
    rw [if_pos rfl]
    exact NdFit_1 kind v l P hPr w hl hn
  · rw [if_neg h1]
    by_cases h2 : n = 2
    · subst h2
      rw [if_pos rfl]
      exact NdFit_2 kind v l P hPr w hl hn
    · rw [if_neg h2]
      obtain ⟨A, c, rfl, hm, hc⟩ := hl.slice
      exact NdFit_no n kind h1 h2 A _ c P w
theorem pow_nat {P : Int} (hp : isPowB P = true) : ∃ Q : Nat, P = (Q : Int) := ⟨P.toNat, by have := isPowB_range hp; omega⟩
theorem NFilN (hPr : i64r P) (hl : RdCs w v l) (hb : bigK (pcs l) ≤ 100000000000000) :
    Calls Tryz.prog 27 #[.int .i64 n, .int .i64 kind, v, .int .i64 P] w fun e w' => e = .returned (.int .i64 (fillN n kind (pcs l) P)) ∧ Below w.heap.size w w' := by
  unfold fillN
  cases hp : isPowB P with
  | true =>
    obtain ⟨Q, rfl⟩ := pow_nat hp
    rw [if_pos rfl, Int.toNat_natCast]
    by_cases h1 : n = 1
    · subst h1
      rw [if_pos rfl]
      have hz := sizeF_big (pcs l)
      exact NdFil_1 kind v l Q hp w hl (fit_big (by omega)) (by omega)
    · rw [if_neg h1]
      by_cases h2 : n = 2
      · subst h2
        rw [if_pos rfl]
        have hz := psizeF_big kind (show bigK (pcs l) ≤ 1000000000000000000 by omega)
        exact NdFil_2 kind v l Q hp w hl (by omega) (by omega)
      · rw [if_neg h2]
        obtain ⟨A, c, rfl, hm, hc⟩ := hl.slice
        exact NdFil_no n kind h1 h2 A _ c _ w
  | false =>
    rw [if_neg (by decide)]
    obtain ⟨A, c, rfl, hm, hc⟩ := hl.slice
    by_cases h1 : n = 1
    · subst h1; exact NdFil_bad_1 kind P hPr hp A _ c w
    · by_cases h2 : n = 2
      · subst h2; exact NdFil_bad_2 kind P hPr hp A _ c w
      · exact NdFil_no n kind h1 h2 A _ c _ w
theorem RNFilN (hl : RdCs w v l) (hn : l.length ≤ 2000000000000) (hb : bigK (pcs l) ≤ 100000000000000) :
    Calls Tryz.prog 31 #[.int .i64 n, .int .i64 kind, v, .int .i64 P] w fun e w' => e = .returned (.int .i64 (fillN n kind (pcs l) P)) ∧ Below w.heap.size w w' := by
  unfold fillN
  cases hp : isPowB P with
  | true =>
    obtain ⟨Q, rfl⟩ := pow_nat hp
    rw [if_pos rfl, Int.toNat_natCast]
    by_cases h1 : n = 1
    · subst h1
      rw [if_pos rfl]
      exact RNFil_1 kind v l Q hp w hl hn hb
    · rw [if_neg h1]
      by_cases h2 : n = 2
      · subst h2
        rw [if_pos rfl]
        exact RNFil_2 kind v l Q hp w hl hn hb
      · rw [if_neg h2]
        obtain ⟨A, c, rfl, hm, hc⟩ := hl.slice
        exact RNFil_no n kind h1 h2 A _ c _ w
  | false =>
    rw [if_neg (by decide)]
    obtain ⟨A, c, rfl, hm, hc⟩ := hl.slice
    by_cases h1 : n = 1
    · subst h1; exact RNFil_bad_1 kind P hp A _ c w
    · by_cases h2 : n = 2
      · subst h2; exact RNFil_bad_2 kind P hp A _ c w
      · exact RNFil_no n kind h1 h2 A _ c _ w
theorem kp_bad {kind P : Int} (h : ¬ ((kind = 2 ∨ kind = 3) ∧ isPowB P = true)) : (kind ≠ 2 ∧ kind ≠ 3) ∨ isPowB P = false := by
  cases hp : isPowB P with
  | false => exact .inr rfl
  | true =>
    rw [hp] at h
    exact .inl ⟨fun e => h ⟨.inl e, rfl⟩, fun e => h ⟨.inr e, rfl⟩⟩
theorem NHalfN (hPr : i64r P) (hl : RdCs w v l) (hn : l.length * 72 ≤ 140737488355328) (hb : bigK (pcs l) ≤ 100000000000000) :
    Calls Tryz.prog 28 #[.int .i64 n, .int .i64 kind, v, .int .i64 P] w fun e w' => e = .returned (.tuple #[.int .i64 (halfP n kind (pcs l) P).1, .int .i64 (halfP n kind (pcs l) P).2]) ∧ Below w.heap.size w w' := by
  unfold halfP
  by_cases h1 : n = 1
  · subst h1
    rw [if_pos rfl]
    by_cases hk : (kind = 2 ∨ kind = 3) ∧ isPowB P = true
    · rw [if_pos hk]
      obtain ⟨hk, hp⟩ := hk
      obtain ⟨Q, rfl⟩ := pow_nat hp
      rw [Int.toNat_natCast]
      rcases hk with rfl | rfl
      · exact NdHalf_1_2 v l Q hp w hl hn (by omega)
      · exact NdHalf_1_3 v l Q hp w hl hn (by omega)
    · rw [if_neg hk]
      obtain ⟨A, c, rfl, hm, hc⟩ := hl.slice
      exact NdHalf_bad_1 kind P A _ c (kp_bad hk) hPr w
  · rw [if_neg h1]
    by_cases h2 : n = 2
    · subst h2
      rw [if_pos rfl]
      by_cases hk : (kind = 2 ∨ kind = 3) ∧ isPowB P = true
      · rw [if_pos hk]
        obtain ⟨hk, hp⟩ := hk
        obtain ⟨Q, rfl⟩ := pow_nat hp
        rw [Int.toNat_natCast]
        rcases hk with rfl | rfl
        · exact NdHalf_2_2 v l Q hp w hl hn (by omega)
        · exact NdHalf_2_3 v l Q hp w hl hn (by omega)
      · rw [if_neg hk]
        obtain ⟨A, c, rfl, hm, hc⟩ := hl.slice
        exact NdHalf_bad_2 kind P A _ c (kp_bad hk) hPr w
    · rw [if_neg h2]
      obtain ⟨A, c, rfl, hm, hc⟩ := hl.slice
      exact NdHalf_no n kind h1 h2 A _ c P w
theorem RNHalfN (hl : RdCs w v l) (hn : l.length * 72 ≤ 140737488355328) (hb : bigK (pcs l) ≤ 100000000000000) :
    Calls Tryz.prog 32 #[.int .i64 n, .int .i64 kind, v, .int .i64 P] w fun e w' => e = .returned (.tuple #[.int .i64 (halfP n kind (pcs l) P).1, .int .i64 (halfP n kind (pcs l) P).2]) ∧ Below w.heap.size w w' := by
  unfold halfP
  by_cases h1 : n = 1
  · subst h1
    rw [if_pos rfl]
    by_cases hk : (kind = 2 ∨ kind = 3) ∧ isPowB P = true
    · rw [if_pos hk]
      obtain ⟨hk, hp⟩ := hk
      obtain ⟨Q, rfl⟩ := pow_nat hp
      rw [Int.toNat_natCast]
      rcases hk with rfl | rfl
      · exact RNHalf_1_2 v l Q hp w hl hn hb
      · exact RNHalf_1_3 v l Q hp w hl hn hb
    · rw [if_neg hk]
      obtain ⟨A, c, rfl, hm, hc⟩ := hl.slice
      exact RNHalf_bad_1 kind P A _ c (kp_bad hk) w
  · rw [if_neg h1]
    by_cases h2 : n = 2
    · subst h2
      rw [if_pos rfl]
      by_cases hk : (kind = 2 ∨ kind = 3) ∧ isPowB P = true
      · rw [if_pos hk]
        obtain ⟨hk, hp⟩ := hk
        obtain ⟨Q, rfl⟩ := pow_nat hp
        rw [Int.toNat_natCast]
        rcases hk with rfl | rfl
        · exact RNHalf_2_2 v l Q hp w hl hn hb
        · exact RNHalf_2_3 v l Q hp w hl hn hb
      · rw [if_neg hk]
        obtain ⟨A, c, rfl, hm, hc⟩ := hl.slice
        exact RNHalf_bad_2 kind P A _ c (kp_bad hk) w
    · rw [if_neg h2]
      obtain ⟨A, c, rfl, hm, hc⟩ := hl.slice
      exact RNHalf_no n kind h1 h2 A _ c P w
end
theorem NMostK (P : Int) (hPr : i64r P) (w : World) : Calls Tryz.prog 33 #[.int .i64 P] w fun e w' => e = .returned (.int .i64 (mostKN P)) ∧ w = w' := by
  unfold mostKN
  cases hp : isPowB P with
  | true =>
    obtain ⟨Q, rfl⟩ := pow_nat hp
    rw [if_pos rfl, Int.toNat_natCast]
    exact NdMostKey_ok Q hp w
  | false => rw [if_neg (by decide)]; exact NdMostKey_no P hPr hp w
theorem NMostV (P : Int) (hPr : i64r P) (w : World) : Calls Tryz.prog 35 #[.int .i64 P] w fun e w' => e = .returned (.int .i64 (mostVN P)) ∧ w = w' := by
  unfold mostVN
  cases hp : isPowB P with
  | true =>
    obtain ⟨Q, rfl⟩ := pow_nat hp
    rw [if_pos rfl, Int.toNat_natCast]
    exact NdMostValue_ok Q hp w
  | false => rw [if_neg (by decide)]; exact NdMostValue_no P hPr hp w
theorem RNMostK (P : Int) (hPr : i64r P) (w : World) : Calls Tryz.prog 34 #[.int .i64 P] w fun e w' => e = .returned (.int .i64 (mostKN P)) ∧ w = w' := by
  unfold mostKN
  cases hp : isPowB P with
  | true =>
    obtain ⟨Q, rfl⟩ := pow_nat hp
    rw [if_pos rfl, Int.toNat_natCast]
    exact RNMostKey_ok Q hp w
  | false => rw [if_neg (by decide)]; exact RNMostKey_no P hPr hp w
theorem RNMostV (P : Int) (hPr : i64r P) (w : World) : Calls Tryz.prog 36 #[.int .i64 P] w fun e w' => e = .returned (.int .i64 (mostVN P)) ∧ w = w' := by
  unfold mostVN
  cases hp : isPowB P with
  | true =>
    obtain ⟨Q, rfl⟩ := pow_nat hp
    rw [if_pos rfl, Int.toNat_natCast]
    exact RNMostValue_ok Q hp w
  | false => rw [if_neg (by decide)]; exact RNMostValue_no P hPr hp w
end Go.Proofs.YtfcnkpofcekmgaaGreat

-- Slices of cells: pieces of them, append of pieces.
namespace Go.Proofs.YtfcnkpofcekmgaaGreat
open Go.RowKit
/-! ### a key's place among rising ones -/
end Go.Proofs.YtfcnkpofcekmgaaGreat

-- plain.Page's Insert, Set, Remove beside the document's: plain laws.
namespace Go.Proofs.YtfcnkpofcekmgaaGreat
theorem with_ins_size (l : List PC) {i : Nat} (c : PC) (hi : i ≤ l.length) : sizeF (withF l i 0 c) = sizeF l + (2 + longF c) := by
  have e : longsF l = longsF (l.take i) + longsF (l.drop i) := by rw [← longsF_append, List.take_append_drop]
  unfold withF
  rw [sizeF_eq, sizeF_eq, longsF_append]
  simp only [longsF, List.length_append, List.length_cons, List.length_take, List.length_drop, Nat.add_zero]
  omega
/-- A page that is worked on. -/
structure Wk (kind : Int) (P : Nat) (l : List PC) : Prop where
  rise : Rising l
  may : ∀ c ∈ l, mayP kind P c = true
  size : sizeF l ≤ P
theorem Wk.enc {kind : Int} {P : Nat} {l : List PC} (h : Wk kind P l) : encE kind l P = 0 := encE_zero.2 ⟨scan_rise h.may (by simp) h.rise, h.size⟩
/-- What Insert (gone 0) and Set (gone 1) tell, at a place that is there. -/
def putE (kind : Int) (P : Nat) (l : List PC) (i gone : Nat) (c : PC) : Int :=
  if mayP kind P c = false then 62
  else if 0 ≤ leftO l i c ∨ 0 ≤ rightO l (i + gone) c then 63
  else if P < sizeF (withF l i gone c) then 61 else 0
theorem Wk.put {kind : Int} {P : Nat} {l : List PC} (h : Wk kind P l) {i gone : Nat} {c : PC} (hi : i + gone ≤ l.length) (h0 : putE kind P l i gone c = 0) : Wk kind P (withF l i gone c) := by
  unfold putE at h0
  split at h0
  · cases h0
  · rename_i hm
    split at h0
    · cases h0
    · rename_i ho
      split at h0
      · cases h0
      · rename_i hz
        refine ⟨(with_rises h.rise hi).2 ⟨fun h1 => ?_, fun h1 => ?_⟩, fun d hd => ?_, by omega⟩
        · have : ¬ _ := fun e => ho (.inl e)
          unfold leftO at this
          rw [dif_pos ⟨h1, by omega⟩] at this
          omega
        · have : ¬ _ := fun e => ho (.inr e)
          unfold rightO at this
          rw [dif_pos h1] at this
          omega
        · unfold withF at hd
          rcases List.mem_append.1 hd with hd | hd
          · exact h.may d (List.mem_of_mem_take hd)
          · rcases List.mem_cons.1 hd with rfl | hd
            · simpa using hm
            · exact h.may d (List.mem_of_mem_drop hd)
/-- What Insert and Set tell and leave, at any place. -/
def insZ (kind : Int) (P : Nat) (l : List PC) (i : Int) (gone : Nat) (c : PC) : Int := if i < 0 ∨ (l.length : Int) - gone < i then 64 else putE kind P l i.toNat gone c
def insL (kind : Int) (P : Nat) (l : List PC) (i : Int) (gone : Nat) (c : PC) : List PC := if insZ kind P l i gone c = 0 then withF l i.toNat gone c else l
theorem insL_ne {kind : Int} {P : Nat} {l : List PC} {i : Int} {gone : Nat} {c : PC} (h : insZ kind P l i gone c ≠ 0) : insL kind P l i gone c = l := if_neg h
theorem insL_eq {kind : Int} {P : Nat} {l : List PC} {i : Int} {gone : Nat} {c : PC} (h : insZ kind P l i gone c = 0) : insL kind P l i gone c = withF l i.toNat gone c := if_pos h
theorem insZ_out {kind : Int} {P : Nat} {l : List PC} {i : Int} {gone : Nat} {c : PC} (h : i < 0 ∨ (l.length : Int) - gone < i) : insZ kind P l i gone c = 64 := if_pos h
theorem insZ_in {kind : Int} {P : Nat} {l : List PC} {i gone : Nat} {c : PC} (h : i + gone ≤ l.length) : insZ kind P l (i : Int) gone c = putE kind P l i gone c := by
  unfold insZ
  rw [if_neg (by omega)]; rfl
theorem putE_zero_may {kind : Int} {P : Nat} {l : List PC} {i gone : Nat} {c : PC} (h : putE kind P l i gone c = 0) : mayP kind P c = true := by
  unfold putE at h
  split at h
  · cases h
  · rename_i hm; simpa using hm
theorem putE_ins {kind : Int} {P : Nat} {l : List PC} {i : Nat} {c : PC} (hi : i ≤ l.length) : putE kind P l i 0 c = if mayP kind P c = false then 62 else if 0 ≤ leftO l i c ∨ 0 ≤ rightO l i c then 63 else if (P : Int) < (sizeF l : Nat) - 0 + 2 + (longF c : Int) then 61 else 0 := by
  unfold putE
  rw [with_ins_size l c hi]
  simp only [Nat.add_zero]
  congr 2
  congr 1
  exact propext ⟨fun h => by omega, fun h => by omega⟩
theorem Wk.ins {kind : Int} {P : Nat} {l : List PC} (h : Wk kind P l) (i : Int) (gone : Nat) (c : PC) : Wk kind P (insL kind P l i gone c) := by
  by_cases hz : insZ kind P l i gone c = 0
  · rw [insL_eq hz]
    have hin : ¬ (i < 0 ∨ (l.length : Int) - gone < i) := fun e => by rw [insZ_out e] at hz; cases hz
    unfold insZ at hz
    rw [if_neg hin] at hz
    exact h.put (by omega) hz
  · rw [insL_ne hz]; exact h
theorem Wk.len {kind : Int} {P : Nat} {l : List PC} (h : Wk kind P l) (hP : P ≤ 65536) : l.length ≤ 32768 := by
  have := h.size
  rw [sizeF_eq] at this
  omega
end Go.Proofs.YtfcnkpofcekmgaaGreat

-- plain.Page.refused: the walk.
namespace Go.Proofs.YtfcnkpofcekmgaaGreat
open Go.RowKit
theorem RdCs.key_atW {w : World} {A : Option Addr} {m c i : Nat} {l : List CV} (h : RdCs w (.slice A m c) l) (hi : i < l.length) :
    ∃ ad B b, A = some ad ∧ w.cell? (ad.add (i * 5)) = some (.slice B l[i].c.key.length b) ∧ RdB w (.slice B l[i].c.key.length b) l[i].c.key := by
  obtain ⟨ad, rfl, c0, -⟩ := h.at_ hi
  have hx := (h.ok _ (List.getElem_mem hi)).k
  obtain ⟨B, b, he, -⟩ := hx.form
  rw [he] at hx c0
  exact ⟨ad, B, b, rfl, c0, hx⟩
set_option maxRecDepth 100000 in
set_option maxHeartbeats 2000000 in
theorem refused_any {w : World} {p : Nat} {kind : Int} {P : Nat} {used : Int} {v : Value} {l : List CV} (h : PgAt w p kind P used v l) (hP : P ≤ 65536) (x : CV) (hx : x.ok w) (hxl : x.c.key.length + x.c.val.length ≤ 4611686018427387904) (i j : Nat) (hi : i ≤ l.length) (hj : j ≤ l.length) (less : Int) (hu : 0 ≤ used) (hu2 : used ≤ 65536) (hless : 0 ≤ less) (hless2 : less ≤ 65536) :
    Calls Tryz.prog 208 #[.pointer (some ⟨p, 0, none⟩), .int .i64 (i : Int), .int .i64 (j : Int), cellV x, .int .i64 less] w fun e w' =>
      e = .returned (.int .i64 (if mayP kind P x.c = false then 62 else if 0 ≤ leftO (pcs l) i x.c ∨ 0 ≤ rightO (pcs l) j x.c then 63 else if (P : Int) < used - less + 2 + (longF x.c : Int) then 61 else 0)) ∧ Below w.heap.size w w' := by
  have hlq : mayP kind P x.c = true → longF x.c ≤ 65536 := fun hm => longF_le (may_ok hm) hP
  obtain ⟨A, ca, B, cb, key, ck, val, pg, ct, rfl, hk1, hk2⟩ := CV.form hx
  obtain ⟨L, lc, rfl, hm, hc⟩ := h.rd.slice
  have hA : Below w.heap.size w (w.alloc (.cells #[.slice A key.length ca, .int .i64 ck, .slice B val.length cb, .int .i64 pg, .int .i64 ct] 43)) := (Below.refl _ _).alloc (Nat.le_refl _) _
  have hC := OBlk.new' w 43 [.slice A key.length ca, .int .i64 ck, .slice B val.length cb, .int .i64 pg, .int .i64 ct]
  have hB := h.blk.alloc (.cells #[.slice A key.length ca, .int .i64 ck, .slice B val.length cb, .int .i64 pg, .int .i64 ct] 43)
  have hx1 := hx.below hA
  have hL := h.rd.below hA
  have hma := fun W => may_any ⟨.slice A key.length ca, .slice B val.length cb, ⟨key, ck, val, pg, ct⟩⟩ kind P hP W
  have hlo := fun W => long_any ⟨.slice A key.length ca, .slice B val.length cb, ⟨key, ck, val, pg, ct⟩⟩ W
  have hkv' : key.length + val.length ≤ 9223372036854775000 := by have : key.length + val.length ≤ 4611686018427387904 := hxl; omega
  unfold cellV at hma hlo ⊢
  have hlo2 : ∀ W, CV.ok W ⟨.slice A key.length ca, .slice B val.length cb, ⟨key, ck, val, pg, ct⟩⟩ → Calls Tryz.prog 128 #[.agg #[.slice A key.length ca, .int .i64 ck, .slice B val.length cb, .int .i64 pg, .int .i64 ct]] W fun e w' => e = .returned (.int .i64 (longF ⟨key, ck, val, pg, ct⟩ : Nat)) ∧ Below W.heap.size W w' := fun W hW => hlo W hW hkv'
  have HM := Lib.hid hma
  have HL := Lib.hid hlo2
  obtain ⟨lO, hlO⟩ : ∃ q, leftO (pcs l) i ⟨key, ck, val, pg, ct⟩ = q := ⟨_, rfl⟩
  obtain ⟨rO, hrO⟩ : ∃ q, rightO (pcs l) j ⟨key, ck, val, pg, ct⟩ = q := ⟨_, rfl⟩
  obtain ⟨mB, hmB⟩ : ∃ q, mayP kind P ⟨key, ck, val, pg, ct⟩ = q := ⟨_, rfl⟩
  have hlq' : mB = true → longF ⟨key, ck, val, pg, ct⟩ ≤ 65536 := by rw [← hmB]; exact hlq
  show Calls Tryz.prog _ _ w fun e w' => e = .returned (.int .i64 (if mayP kind P ⟨key, ck, val, pg, ct⟩ = false then 62 else if 0 ≤ leftO (pcs l) i ⟨key, ck, val, pg, ct⟩ ∨ 0 ≤ rightO (pcs l) j ⟨key, ck, val, pg, ct⟩ then 63 else if (P : Int) < used - less + 2 + (longF ⟨key, ck, val, pg, ct⟩ : Int) then 61 else 0)) ∧ Below w.heap.size w w'
  rw [hlO, hrO, hmB]
  have HLO : Hid ((i = 0 ∧ lO = -1) ∨ ∃ k, i = k + 1 ∧ ∃ h : k < l.length, lO = ordC l[k].c.key key) := Lib.hid (by
    rcases Nat.eq_zero_or_pos i with e | e
    · exact .inl ⟨e, by rw [← hlO, e, leftO_zero]⟩
    · obtain ⟨k, rfl⟩ : ∃ k, i = k + 1 := ⟨i - 1, by omega⟩
      refine .inr ⟨k, rfl, by omega, ?_⟩
      rw [← hlO, leftO_succ _ (by rw [pcs_length]; omega), pcs_at (by omega)])
  have HRO : Hid ((j = l.length ∧ rO = -1) ∨ ∃ h : j < l.length, rO = ordC key l[j].c.key) := Lib.hid (by
    by_cases e : j < l.length
    · refine .inr ⟨e, ?_⟩
      rw [← hrO, rightO_in _ (by rw [pcs_length]; omega), pcs_at e]
    · exact .inl ⟨by omega, by rw [← hrO, rightO_end _ (by rw [pcs_length]; omega)]⟩)
  have HXK := Lib.hid hx1.k
  clear hlo hma hlo2 h hx hlq hxl hlO hrO
  have hpl := hB.lt
  obtain ⟨Z, hZ⟩ : ∃ Z : Int, (if mB = false then 62 else if 0 ≤ lO ∨ 0 ≤ rO then 63 else if (P : Int) < used - less + 2 + (longF ⟨key, ck, val, pg, ct⟩ : Int) then 61 else 0) = Z := ⟨_, rfl⟩
  rw [hZ]
  have HZ := Lib.hid hZ
  clear hZ
  generalize longF ⟨key, ck, val, pg, ct⟩ = lo at *
  go_enter Tryz.func208, Tryz.ntmps208
  go_upto_region 1 with (fail)
  generalize (w.alloc (.cells #[.slice A key.length ca, .int .i64 ck, .slice B val.length cb, .int .i64 pg, .int .i64 ct] 43)) = w1 at *
  obtain ⟨c0, c1, c2, c3, c4⟩ := cells5 hC
  obtain ⟨b0, b1, b2, b3⟩ := cells4 hB
  have hcl := hC.lt
  go_cut [11] (fun s wx => s = .bool (!mB) ∧ Below w1.heap.size w1 wx)
  case first =>
    go_region_held3 (fun w' => w'.cell? ⟨w.heap.size, 0, none⟩ = some (.slice A key.length ca) ∧ w'.cell? ⟨w.heap.size, 1, none⟩ = some (.int .i64 ck) ∧ w'.cell? ⟨w.heap.size, 2, none⟩ = some (.slice B val.length cb) ∧ w'.cell? ⟨w.heap.size, 3, none⟩ = some (.int .i64 pg) ∧ w'.cell? ⟨w.heap.size, 4, none⟩ = some (.int .i64 ct) ∧ w'.cell? ⟨p, 0, none⟩ = some (.int .i64 kind) ∧ w'.cell? ⟨p, 1, none⟩ = some (.int .i64 (P : Int)))
      (first
        | exact ⟨c0, c1, c2, c3, c4, b0, b1⟩
        | (obtain ⟨d0, d1, d2, d3, d4⟩ := cells5 (hC.drew.below hw2 hcl); obtain ⟨f0, f1, _, _⟩ := cells4 (hB.drew.below hw2 hpl); exact ⟨d0, d1, d2, d3, d4, f0, f1⟩))
      (first
        | (go_at_call 129; refine (HM.out _ (hx1.below ((Below.refl _ _).drew))).mono ?_; rw [hmB]; rintro e w2 ⟨rfl, hw2⟩)
        | fail)
    go_wp2_with fail
    go_meet
    exact ⟨rfl, (Below.refl _ _).drew.trans hw2⟩
  case rest =>
    obtain ⟨rfl, hw2⟩ := hcut
    have hB2 := hB.below hw2 hpl
    have hA2 := hA.trans (hw2.mono hA.size)
    cases mB with
    | false =>
      have e : Z = 62 := by rw [← HZ.out]; rfl
      subst e
      go_wp2_with fail
      go_ret
      exact ⟨rfl, hA2⟩
    | true =>
      have hC2 := hC.below hw2 hcl
      have hx2 := hx1.below hw2
      have hL2 := hL.below hw2
      have hxk2 := HXK.out.below hw2 (Nat.le_refl _)
      have hlo1 : lo ≤ 65536 := hlq' rfl
      clear c0 c1 c2 c3 c4 b0 b1 b2 b3 hC hB hx1 hL hA hw2 hlq'
      obtain ⟨c0, c1, c2, c3, c4⟩ := cells5 hC2
      obtain ⟨b0, b1, b2, b3⟩ := cells4 hB2
      have hcl2 := hC2.lt
      have hpl2 := hB2.lt
      go_upto_region 3 with (fail)
      go_cut [23] (fun s wx => s = .bool (decide (0 ≤ lO)) ∧ Below wc.heap.size wc wx)
      case first =>
        rcases HLO.out with ⟨rfl, rfl⟩ | ⟨k, rfl, hk, rfl⟩
        · go_region
          go_wp2_with fail
          go_meet
          exact ⟨rfl, (Below.refl _ _).drew⟩
        · obtain ⟨ad, K, kc, rfl, q0, hkr⟩ := hL2.key_atW hk
          have j1 : (0 : Int) ≤ (k : Int) := by omega
          have j2 : (k : Int) < (l.length : Int) := by omega
          have j4 : IntKind.i64.wrap (k : Int) = (k : Int) := by rw [IntKind.wrap_i64]; omega
          have j5 : (0 : Int) < (k : Int) + 1 := by omega
          have hcmp := fun m => Compare_any _ _ _ _ (wc.drewN m) (show RdB (wc.drewN m) _ _ from hkr) (show RdB (wc.drewN m) _ _ from hxk2)
          simp only at hcmp
          have HCM := Lib.hid hcmp
          clear hcmp
          generalize ordC l[k].c.key key = oc at *
          generalize l[k].c.key = lk at *
          go_region_held3 (fun w' => w'.cell? (ad.add (k * 5)) = some (.slice K lk.length kc) ∧ w'.cell? ⟨w.heap.size, 0, none⟩ = some (.slice A key.length ca) ∧ w'.cell? ⟨p, 3, none⟩ = some (.slice (some ad) l.length lc))
            (first | exact ⟨q0, c0, b3⟩)
            (first
              | (go_at_call 130; refine (HCM.out 1).mono ?_; rintro e w7 ⟨rfl, rfl⟩)
              | fail)
          go_wp2_with fail
          go_meet
          exact ⟨rfl, (Below.refl _ _).drew⟩
      case rest =>
        obtain ⟨rfl, hw3⟩ := hcut
        have hC3 := hC2.below hw3 hcl2
        have hB3 := hB2.below hw3 hpl2
        have hA3 := hA2.trans (hw3.mono hA2.size)
        by_cases hlO : 0 ≤ lO
        · rw [show decide (0 ≤ lO) = true from decide_eq_true hlO]
          have e : Z = 63 := by rw [← HZ.out, if_neg (by simp), if_pos (Or.inl hlO)]
          subst e
          clear hlO
          go_wp2_with fail
          go_ret
          exact ⟨rfl, hA3⟩
        · have hx3 := hx2.below hw3
          have hL3 := hL2.below hw3
          have hxk3 := hxk2.below hw3 (Nat.le_refl _)
          rw [show decide (0 ≤ lO) = false from decide_eq_false hlO]
          have H1 := Lib.hid hlO
          clear c0 c1 c2 c3 c4 b0 b1 b2 b3 hC2 hB2 hx2 hL2 hA2 hw3 hlO HLO hxk2
          obtain ⟨c0, c1, c2, c3, c4⟩ := cells5 hC3
          obtain ⟨b0, b1, b2, b3⟩ := cells4 hB3
          have hcl3 := hC3.lt
          have hpl3 := hB3.lt
          go_upto_region 4 with (fail)
          go_cut [23] (fun s wx => s = .bool (decide (0 ≤ rO)) ∧ Below wc.heap.size wc wx)
          case first =>
            rcases HRO.out with ⟨rfl, rfl⟩ | ⟨hj2, rfl⟩
            · have j5 : ¬ (l.length : Int) < (l.length : Int) := by omega
              go_region
              go_wp2_with fail
              go_meet
              exact ⟨rfl, (Below.refl _ _).drew⟩
            · obtain ⟨ad, K, kc, rfl, q0, hkr⟩ := hL3.key_atW hj2
              have j1 : (0 : Int) ≤ (j : Int) := by omega
              have j2 : (j : Int) < (l.length : Int) := by omega
              have hcmp := fun m => Compare_any _ _ _ _ (wc.drewN m) (show RdB (wc.drewN m) _ _ from hxk3) (show RdB (wc.drewN m) _ _ from hkr)
              simp only at hcmp
              have HCM := Lib.hid hcmp
              clear hcmp
              generalize ordC key l[j].c.key = oc at *
              generalize l[j].c.key = lk at *
              go_region_held3 (fun w' => w'.cell? (ad.add (j * 5)) = some (.slice K lk.length kc) ∧ w'.cell? ⟨w.heap.size, 0, none⟩ = some (.slice A key.length ca) ∧ w'.cell? ⟨p, 3, none⟩ = some (.slice (some ad) l.length lc))
                (first | exact ⟨q0, c0, b3⟩)
                (first
                  | (go_at_call 130; refine (HCM.out 1).mono ?_; rintro e w7 ⟨rfl, rfl⟩)
                  | fail)
              go_wp2_with fail
              go_meet
              exact ⟨rfl, (Below.refl _ _).drew⟩
          case rest =>
            obtain ⟨rfl, hw4⟩ := hcut
            have hC4 := hC3.below hw4 hcl3
            have hB4 := hB3.below hw4 hpl3
            have hA4 := hA3.trans (hw4.mono hA3.size)
            by_cases hrO : 0 ≤ rO
            · rw [show decide (0 ≤ rO) = true from decide_eq_true hrO]
              have e : Z = 63 := by rw [← HZ.out, if_neg (by simp), if_pos (Or.inr hrO)]
              subst e
              clear hrO
              go_wp2_with fail
              go_ret
              exact ⟨rfl, hA4⟩
            · have hx4 := hx3.below hw4
              rw [show decide (0 ≤ rO) = false from decide_eq_false hrO]
              have H2 := Lib.hid hrO
              clear c0 c1 c2 c3 c4 b0 b1 b2 b3 hC3 hB3 hx3 hL3 hA3 hw4 hrO HRO hxk3
              obtain ⟨c0, c1, c2, c3, c4⟩ := cells5 hC4
              obtain ⟨b0, b1, b2, b3⟩ := cells4 hB4
              have hcl4 := hC4.lt
              have hpl4 := hB4.lt
              have i1 : IntKind.i64.wrap (used - less) = used - less := by rw [IntKind.wrap_i64]; omega
              have i2 : IntKind.i64.wrap (used - less + 2) = used - less + 2 := by rw [IntKind.wrap_i64]; omega
              have i3 : IntKind.i64.wrap (used - less + 2 + (lo : Int)) = used - less + 2 + (lo : Int) := by rw [IntKind.wrap_i64]; omega
              go_upto_region 6 with (fail)
              go_region_held3 (fun w' => w'.cell? ⟨w.heap.size, 0, none⟩ = some (.slice A key.length ca) ∧ w'.cell? ⟨w.heap.size, 1, none⟩ = some (.int .i64 ck) ∧ w'.cell? ⟨w.heap.size, 2, none⟩ = some (.slice B val.length cb) ∧ w'.cell? ⟨w.heap.size, 3, none⟩ = some (.int .i64 pg) ∧ w'.cell? ⟨w.heap.size, 4, none⟩ = some (.int .i64 ct) ∧ w'.cell? ⟨p, 1, none⟩ = some (.int .i64 (P : Int)) ∧ w'.cell? ⟨p, 2, none⟩ = some (.int .i64 used))
                (first
                  | exact ⟨c0, c1, c2, c3, c4, b1, b2⟩
                  | (obtain ⟨d0, d1, d2, d3, d4⟩ := cells5 (OBlk.below (w := wc.drew) hC4 hw5 hcl4); obtain ⟨_, f1, f2, _⟩ := cells4 (OBlk.below (w := wc.drew) hB4 hw5 hpl4); exact ⟨d0, d1, d2, d3, d4, f1, f2⟩))
                (first
                  | (go_at_call 128; refine (HL.out _ (hx4.below ((Below.refl _ _).drew))).mono ?_; rintro e w5 ⟨rfl, hw5⟩)
                  | fail)
              have hA5 := hA4.trans (((Below.refl wc.heap.size wc).drew.trans hw5).mono hA4.size)
              by_cases hz : (P : Int) < used - less + 2 + (lo : Int)
              · have e : Z = 61 := by rw [← HZ.out, if_neg (by simp), if_neg (fun e => by have h1 := H1.out; have h2 := H2.out; omega), if_pos hz]
                subst e
                go_wp2_with fail
                go_ret
                exact ⟨rfl, hA5⟩
              · have e : Z = 0 := by rw [← HZ.out, if_neg (by simp), if_neg (fun e => by have h1 := H1.out; have h2 := H2.out; omega), if_neg hz]
                subst e
                go_wp2_with fail
                go_ret
                exact ⟨rfl, hA5⟩
end Go.Proofs.YtfcnkpofcekmgaaGreat

-- A page that is worked on, in words of pieces.
namespace Go.Proofs.YtfcnkpofcekmgaaGreat
open Go.RowKit
theorem pcs_with (l : List CV) (i gone : Nat) (y : CV) : pcs (l.take i ++ y :: l.drop (i + gone)) = withF (pcs l) i gone y.c := by
  unfold withF
  rw [pcs_append, pcs_take, ← pcs_drop]; rfl
section
variable {w0 w w' : World} {L : List Ent} {u v : Value} {l : List CV} {y : CV} {i : Nat}
/-- own, in words of pieces. -/
theorem own_sep (h : Sep w0 w L) (x : CV) (hx : x.ok w) (h1 : x.c.key.length ≤ 140737488355328) (h2 : x.c.val.length ≤ 140737488355328) :
    Calls Tryz.prog 207 #[cellV x] w fun e w' => ∃ y : CV, e = .returned (cellV y) ∧ y.c = x.c ∧ Sep w0 w' (bytesE y.kv y.c.key :: bytesE y.vv y.c.val :: L) := by
  refine (own_any x w hx h1 h2).mono ?_
  rintro e w' ⟨y, rfl, hc, hk, hv, ha, hb⟩
  rw [← hc] at hk hv
  refine ⟨y, rfl, hc, ((h.below hb).cons (E := bytesE y.vv y.c.val) (OwB.low hv (Nat.zero_le _)) (fun g hg => (Own.lt hv g hg).2) (fun A hA g hg hAg => ?_)).cons (E := bytesE y.kv y.c.key) (OwB.low hk (Nat.zero_le _)) (fun g hg => (Own.lt hk g hg).2) (fun A hA g hg hAg => ?_)⟩
  · have h3 := (h.each A hA).2 g hAg
    have h4 := (Own.lt hv g hg).1
    omega
  · rcases List.mem_cons.1 hA with rfl | hA
    · have := ha g g hg hAg; omega
    · have h3 := (h.each A hA).2 g hAg
      have h4 := (Own.lt hk g hg).1
      omega
end
/-- The page's pieces. -/
theorem Sep.pgOpen {w0 w : World} {L : List Ent} {p P : Nat} {kind used : Int} {u : Value} {l : List CV} (h : Sep w0 w (pgE p kind P used u l :: L)) :
    Sep w0 w (blkE p 144 [.int .i64 kind, .int .i64 (P : Int), .int .i64 used, u] :: ownE 43 5 u l.length (flatC l) :: (cellsE l ++ L)) := by
  have h1 : Sep w0 w (blkE p 144 [.int .i64 kind, .int .i64 (P : Int), .int .i64 used, u] :: csE u l :: L) := h.unpack
  exact (Sep.unpack (D := ownE 43 5 u l.length (flatC l) :: cellsE l) h1.sw1).perm List.perm_middle
theorem Sep.pgShut {w0 w : World} {L : List Ent} {p P : Nat} {kind used : Int} {u : Value} {l : List CV} (h : Sep w0 w (blkE p 144 [.int .i64 kind, .int .i64 (P : Int), .int .i64 used, u] :: csE u l :: L)) : Sep w0 w (pgE p kind P used u l :: L) := Sep.pack (D := [_, _]) h
theorem Sep.pgClose {w0 w : World} {L : List Ent} {p P : Nat} {kind used : Int} {u : Value} {l : List CV} (h : Sep w0 w (blkE p 144 [.int .i64 kind, .int .i64 (P : Int), .int .i64 used, u] :: ownE 43 5 u l.length (flatC l) :: (cellsE l ++ L))) : Sep w0 w (pgE p kind P used u l :: L) :=
  Sep.pgShut ((Sep.pack (D := ownE 43 5 u l.length (flatC l) :: cellsE l) (h.perm (List.perm_middle (l₁ := ownE 43 5 u l.length (flatC l) :: cellsE l)).symm)).sw1)
/-- What Insert, Set, Remove tell and leave. -/
def PgPost (w0 : World) (L : List Ent) (p P : Nat) (kind z : Int) (lp : List PC) (e : Ending) (w' : World) : Prop :=
  ∃ u' l', e = .returned (.int .i64 z) ∧ pcs l' = lp ∧ RngC l' ∧ Sep w0 w' (pgE p kind P (sizeF (pcs l') : Nat) u' l' :: L)
end Go.Proofs.YtfcnkpofcekmgaaGreat

-- A plain page: Kind, Bytes: walks in words of pieces.
namespace Go.Proofs.YtfcnkpofcekmgaaGreat
open Go.RowKit
section
variable {w0 w : World} {L : List Ent} {r p P : Nat} {kind : Int} {u : Value} {l : List CV}
theorem Sep.pgAt (hS : Sep w0 w (pgE p kind P (sizeF (pcs l) : Nat) u l :: L)) (hr : RngC l) : PgAt w p kind P (sizeF (pcs l) : Nat) u l := by
  have hS1 := hS.pgOpen
  exact ⟨hS1.head, hS1.openRd (u := u) (l := l) (by simp) (fun E hE => by simp [hE]) hr⟩
theorem PBytes_sep (hS : Sep w0 w (pgE p kind P (sizeF (pcs l) : Nat) u l :: L)) (hr : RngC l) (hk : Wk kind P (pcs l)) (hkd : isKindB kind = true) (hP1 : 512 ≤ P) (hP : P ≤ 65536) :
    Calls Tryz.prog 198 #[.pointer (some ⟨p, 0, none⟩)] w fun e w' => ∃ v, e = .returned v ∧ Sep w0 w' (bytesE v (laidF kind (pcs l) P) :: pgE p kind P (sizeF (pcs l) : Nat) u l :: L) := by
  have h := hS.pgAt hr
  refine (PBytes_any p kind P _ u l w h.blk h.rd hkd hP1 hP (fun c hc => may_ok (hk.may c hc)) hk.size).mono ?_
  rintro e w' ⟨v, rfl, ho, hb⟩
  exact ⟨v, rfl, hS.bytes hb ho (Nat.le_refl _)⟩
end
end Go.Proofs.YtfcnkpofcekmgaaGreat

-- plain.Page.Insert, in words of pieces: the walk.
namespace Go.Proofs.YtfcnkpofcekmgaaGreat
open Go.RowKit
theorem OwnAt7 {w0 w : World} {M : List Ent} {v : Value} {n : Nat} {xs : List Value} (h : Sep w0 w (ownE 43 5 v n xs :: M)) : Own w 0 43 5 v n xs := h.head
set_option maxRecDepth 100000 in
set_option maxHeartbeats 2000000 in
theorem PInsert_sep {w0 w : World} {L : List Ent} {p P : Nat} {kind : Int} {u : Value} {l : List CV} (hS : Sep w0 w (pgE p kind P (sizeF (pcs l) : Nat) u l :: L)) (hr : RngC l) (hk : Wk kind P (pcs l)) (hP : P ≤ 65536) (x : CV) (hx : XIn L x) (i : Int) (hi64 : i64r i) :
    Calls Tryz.prog 201 #[.pointer (some ⟨p, 0, none⟩), .int .i64 i, cellV x] w (PgPost w0 L p P kind (insZ kind P (pcs l) i 0 x.c) (insL kind P (pcs l) i 0 x.c)) := by
  have hlen := hk.len hP
  rw [pcs_length] at hlen
  have hsz := hk.size
  have hS0 := hS.pgOpen
  have hS1 := hS0.alloc 43 [x.kv, .int .i64 x.c.kind, x.vv, .int .i64 x.c.page, .int .i64 x.c.count]
  have hxm : ∀ E ∈ L, E ∈ (blkE w.heap.size 43 [x.kv, .int .i64 x.c.kind, x.vv, .int .i64 x.c.page, .int .i64 x.c.count] :: blkE p 144 [.int .i64 kind, .int .i64 (P : Int), .int .i64 (sizeF (pcs l) : Nat), u] :: ownE 43 5 u l.length (flatC l) :: (cellsE l ++ L)) := fun E hE => by simp [hE]
  have hx1 := hx.ok hS1 hxm
  have hrd := hS1.openRd (u := u) (l := l) (by simp) (fun E hE => by simp [hE]) hr
  obtain ⟨U, uc, rfl, hm, hc⟩ := hrd.slice
  have hbp : OBlk _ p 144 [.int .i64 kind, .int .i64 (P : Int), .int .i64 (sizeF (pcs l) : Nat), .slice U l.length uc] := hS1.tail.head
  obtain ⟨b0, b1, b2, b3⟩ := cells4 hbp
  by_cases hin : i < 0 ∨ (l.length : Int) < i
  · have hz : insZ kind P (pcs l) i 0 x.c = 64 := insZ_out (by rw [pcs_length]; omega)
    rw [hz]
    have HL2 : Hid (pcs l = insL kind P (pcs l) i 0 x.c) := Lib.hid (by rw [insL_ne (by rw [hz]; omega)])
    have hS2 := hS1.tail
    clear hz hS1 hx1 hrd hbp hxm hS hS0
    unfold cellV
    rcases hin with h | h
    · go_enter Tryz.func201, Tryz.ntmps201
      go_wp2_with fail
      go_ret
      exact ⟨_, l, rfl, HL2.out, hr, hS2.pgClose⟩
    · have h' : ¬ i < 0 := by omega
      go_enter Tryz.func201, Tryz.ntmps201
      go_wp2_with fail
      go_ret
      exact ⟨_, l, rfl, HL2.out, hr, hS2.pgClose⟩
  · obtain ⟨k, rfl⟩ : ∃ k : Nat, i = (k : Int) := ⟨i.toNat, by omega⟩
    have hkl : k ≤ l.length := by omega
    have hz : insZ kind P (pcs l) (k : Int) 0 x.c = putE kind P (pcs l) k 0 x.c := insZ_in (by rw [pcs_length]; omega)
    have hrf := refused_any (w := w.alloc (.cells [x.kv, .int .i64 x.c.kind, x.vv, .int .i64 x.c.page, .int .i64 x.c.count].toArray 43)) ⟨hbp, hrd⟩ hP x hx1 (by have := hx.s1; have := hx.s2; omega) k k hkl hkl 0 (by omega) (by omega) (by omega) (by omega)
    rw [← putE_ins (by rw [pcs_length]; exact hkl), ← hz] at hrf
    have HL2 : Hid (insZ kind P (pcs l) (k : Int) 0 x.c ≠ 0 → pcs l = insL kind P (pcs l) (k : Int) 0 x.c) := Lib.hid (fun e => by rw [insL_ne e])
    have HL3 : Hid (insZ kind P (pcs l) (k : Int) 0 x.c = 0 → (∀ y : CV, y.c = x.c → pcs (l.take k ++ y :: l.drop k) = insL kind P (pcs l) (k : Int) 0 x.c) ∧ (∀ y : CV, y.c = x.c → ((sizeF (pcs (l.take k ++ y :: l.drop k)) : Nat) : Int) = (sizeF (pcs l) : Nat) + (2 + (longF x.c : Int))) ∧ longF x.c ≤ 65536) := Lib.hid (fun e => by
      refine ⟨fun y hy => ?_, fun y hy => ?_, ?_⟩
      · rw [insL_eq e]
        have := pcs_with l k 0 y
        rw [Nat.add_zero, hy] at this
        exact this
      · have := pcs_with l k 0 y
        rw [Nat.add_zero, hy] at this
        rw [this, with_ins_size _ _ (by rw [pcs_length]; exact hkl)]
        omega
      · exact longF_le (may_ok (putE_zero_may (by rw [← hz]; exact e))) hP)
    generalize insZ kind P (pcs l) (k : Int) 0 x.c = Z at *
    generalize insL kind P (pcs l) (k : Int) 0 x.c = lp at *
    have HZ0 : ∃ s, Hid (sizeF (pcs l) = s) ∧ sizeF (pcs l) = s := ⟨_, Lib.hid rfl, rfl⟩
    obtain ⟨sz, HSZ, hsz2⟩ := HZ0
    simp only [hsz2] at hsz hS1 hrf hbp b2 HL3 hx1 hxm
    clear hsz2
    have hlo : ∀ W, x.ok W → Calls Tryz.prog 128 #[cellV x] W fun e w' => e = .returned (.int .i64 (longF x.c : Nat)) ∧ Below W.heap.size W w' := fun W hW => long_any x W hW (by have := hx.s1; have := hx.s2; omega)
    have i1 : ¬ (k : Int) < 0 := by omega
    have i2 : ¬ (l.length : Int) < (k : Int) := by omega
    clear hz hin hS hS0 hk hrd
    obtain ⟨KA, ka, VA, va, key, ck, val, pg, ct, rfl, -, -⟩ := CV.form hx1
    simp only at hx1 hS1 HL2 HL3 hxm hrf hlo ⊢
    unfold cellV at hrf hlo ⊢
    simp only at hrf hlo ⊢
    have HLO := Lib.hid hlo
    have HX := Lib.hid hx
    clear hlo hx
    generalize longF ⟨key, ck, val, pg, ct⟩ = lo at *
    go_enter Tryz.func201, Tryz.ntmps201
    go_upto_region 4 with (first
      | (go_at_call 208; (with_reducible refine hrf.mono ?_); rintro e w2 ⟨rfl, hw2⟩)
      | fail)
    have hS2 := hS1.below hw2
    clear hrf hS1 hw2 hbp b0 b1 b2 b3 hx1
    by_cases hZ : Z = 0
    · subst hZ
      have HL4 := Lib.hid (HL3.out rfl)
      have hlo6 := HL4.out.2.2
      clear HL3 HL2
      have hC2 : OBlk w2 w.heap.size 43 [.slice KA key.length ka, .int .i64 ck, .slice VA val.length va, .int .i64 pg, .int .i64 ct] := hS2.head
      have hB2 : OBlk w2 p 144 [.int .i64 kind, .int .i64 (P : Int), .int .i64 (sz : Int), .slice U l.length uc] := hS2.tail.head
      have hx2 := HX.out.ok hS2 (fun E hE => by simp [hE])
      have hpz := hB2.lt
      have hcz := hC2.lt
      obtain ⟨b0, b1, b2, b3⟩ := cells4 hB2
      obtain ⟨c0, c1, c2, c3, c4⟩ := cells5 hC2
      have f2 := hB2.frozen (j := 2) (by simp)
      have i2 : IntKind.i64.wrap ((sz : Int) + ((2 : Int) + (lo : Int))) = (sz : Int) + ((2 : Int) + (lo : Int)) := by rw [IntKind.wrap_i64]; omega
      have i3 : IntKind.i64.wrap ((2 : Int) + (lo : Int)) = (2 : Int) + (lo : Int) := by rw [IntKind.wrap_i64]; omega
      go_upto_region 6 with (fail)
      obtain ⟨bx, hbx⟩ : ∃ b, w.heap.size = b := ⟨_, rfl⟩
      rw [hbx] at hS2 hC2 hcz c0 c1 c2 c3 c4 ⊢
      clear hbx
      go_cut [] (fun wx => Sep w0 wx (blkE p 144 [.int .i64 kind, .int .i64 (P : Int), .int .i64 ((sz : Int) + (2 + (lo : Int))), .slice U l.length uc] :: blkE bx 43 [.slice KA key.length ka, .int .i64 ck, .slice VA val.length va, .int .i64 pg, .int .i64 ct] :: ownE 43 5 (.slice U l.length uc) l.length (flatC l) :: (cellsE l ++ L)))
      case first =>
        go_region_law
          (first
            | (go_simp; go_at_call 128; refine (HLO.out _ (hx2.below ((Below.refl _ _).drew))).mono ?_; rintro e w3 ⟨rfl, hw3⟩; have hS3 := hS2.drew.below hw3; have hB3 := hB2.drew.below hw3 hpz; obtain ⟨d0, d1, d2, d3⟩ := cells4 hB3; have g2 := hB3.frozen (j := 2) (by simp))
            | fail)
        all_goals
          go_wp2_with fail
          go_meet
          exact hS3.sw1.setCell 2 (.int .i64 ((sz : Int) + (2 + (lo : Int))))
      case rest =>
        have hS5 := hcut
        clear hcut hS2 hC2 hB2 hx2 hpz hcz b0 b1 b2 b3 c0 c1 c2 c3 c4 f2 HLO
        have hB5 : OBlk wc p 144 [.int .i64 kind, .int .i64 (P : Int), .int .i64 ((sz : Int) + (2 + (lo : Int))), .slice U l.length uc] := hS5.head
        have hC5 : OBlk wc bx 43 [.slice KA key.length ka, .int .i64 ck, .slice VA val.length va, .int .i64 pg, .int .i64 ct] := hS5.tail.head
        obtain ⟨b0, b1, b2, b3⟩ := cells4 hB5
        obtain ⟨c0, c1, c2, c3, c4⟩ := cells5 hC5
        have f3 := hB5.frozen (j := 3) (by simp)
        have hx5 := HX.out.ok hS5.drew (fun E hE => by simp [hE])
        have hO := own_sep hS5.drew _ hx5 HX.out.s1 HX.out.s2
        unfold cellV at hO
        simp only at hO
        clear hB5 hC5
        go_upto_region 7 with (fail)
        go_region_law
          (first
            | (go_simp; go_at_call 207; refine hO.mono ?_; rintro e w6 ⟨⟨ykv, yvv, yc⟩, rfl, hyc, hS6⟩; simp only at hyc; subst hyc; obtain ⟨K2, kc, rfl⟩ := Own.slice (show OwB w6 0 ykv key from hS6.head); obtain ⟨V2, vc, rfl⟩ := Own.slice (show OwB w6 0 yvv val from hS6.tail.head); have hB6 : OBlk w6 p 144 [.int .i64 kind, .int .i64 (P : Int), .int .i64 ((sz : Int) + (2 + (lo : Int))), .slice U l.length uc] := hS6.tail.tail.head; obtain ⟨d0, d1, d2, d3⟩ := cells4 (hB6.alloc (.cells #[.slice K2 key.length kc, .int .i64 ck, .slice V2 val.length vc, .int .i64 pg, .int .i64 ct] 43)); obtain ⟨e0, e1, e2, e3⟩ := cells4 hB6; have hrd6 := hS6.openRd (u := .slice U l.length uc) (l := l) (by simp) (fun E hE => by simp [hE]) hr; have hI := InsertS_any (w := w6) (u := .slice U l.length uc) (l := l) (hS6.of_mem (E := ownE 43 5 (.slice U l.length uc) l.length (flatC l)) (by simp)) (flatC_one hrd6.ok) ⟨.slice K2 key.length kc, .slice V2 val.length vc, ⟨key, ck, val, pg, ct⟩⟩ (cells_one (show OwB w6 0 (.slice K2 key.length kc) key from hS6.head) (show OwB w6 0 (.slice V2 val.length vc) val from hS6.tail.head)) (by omega) k hkl; simp only at hI)
            | (go_simp; go_at_call 209; (with_reducible refine hI.mono ?_); rintro e w7 hI7; obtain ⟨v7, rfl, hS7⟩ := Sep.insAt (show Sep w0 w6 (ownE 43 5 (.slice U l.length uc) l.length (flatC l) :: bytesE (.slice K2 key.length kc) key :: bytesE (.slice V2 val.length vc) val :: blkE p 144 [.int .i64 kind, .int .i64 (P : Int), .int .i64 ((sz : Int) + (2 + (lo : Int))), .slice U l.length uc] :: blkE bx 43 [.slice KA key.length ka, .int .i64 ck, .slice VA val.length va, .int .i64 pg, .int .i64 ct] :: (cellsE l ++ L)) from Sep.sw4 hS6) hI7; obtain ⟨B7, c7, rfl⟩ := Own.slice (OwnAt7 hS7); have hlN : (l.take k ++ (⟨.slice K2 key.length kc, .slice V2 val.length vc, ⟨key, ck, val, pg, ct⟩⟩ : CV) :: l.drop k).length = l.length + 1 := (by simp only [List.length_append, List.length_cons, List.length_take, List.length_drop]; omega); simp only [hlN] at hS7; have HLN := Lib.hid hlN; clear hlN; have hB7 : OBlk w7 p 144 [.int .i64 kind, .int .i64 (P : Int), .int .i64 ((sz : Int) + (2 + (lo : Int))), .slice U l.length uc] := hS7.tail.tail.tail.head; obtain ⟨x0, x1, x2, x3⟩ := cells4 hB7; have g3 := hB7.frozen (j := 3) (by simp))
            | fail)
        all_goals
          have hS8 := (Sep.sw3 hS7).setCell 3 (.slice B7 (l.length + 1) c7)
          simp only [List.set_cons_succ, List.set_cons_zero] at hS8
          have hS9 := Sep.csIns HLN.out (Sep.push3 (Sep.pick (L := [_, _, _, _, _]) [2, 3, 1, 0] (by decide) rfl hS8))
          have HS9 := Lib.hid (Sep.pgShut hS9.sw1)
          clear hS9 hS8 hS7 hS6 hI
          go_wp2_with fail
          go_ret
          refine ⟨.slice B7 (l.length + 1) c7, l.take k ++ (⟨.slice K2 key.length kc, .slice V2 val.length vc, ⟨key, ck, val, pg, ct⟩⟩ : CV) :: l.drop k, rfl, HL4.out.1 _ rfl, hr.with_ (y := ⟨.slice K2 key.length kc, .slice V2 val.length vc, ⟨key, ck, val, pg, ct⟩⟩) ⟨HX.out.r1, HX.out.r2, HX.out.r3⟩ _ _, ?_⟩
          have h9 := HS9.out
          have e9 := HL4.out.2.1 (⟨.slice K2 key.length kc, .slice V2 val.length vc, ⟨key, ck, val, pg, ct⟩⟩ : CV) rfl
          rw [← e9] at h9
          rw [show k + (l.length - k + 1) = l.length + 1 by omega]
          exact h9
    · have HZ := Lib.hid hZ
      go_wp2_with fail
      go_ret
      refine ⟨.slice U l.length uc, l, rfl, HL2.out HZ.out, hr, ?_⟩
      rw [HSZ.out]
      exact hS2.tail.pgClose
end Go.Proofs.YtfcnkpofcekmgaaGreat

-- plain.Page.Set, in words of pieces: the walk.
namespace Go.Proofs.YtfcnkpofcekmgaaGreat
open Go.RowKit
end Go.Proofs.YtfcnkpofcekmgaaGreat
