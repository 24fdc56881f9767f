/- espalierlaw09: reading, freeing what was written: plain laws for awake and SpillBack. -/
import Derived.Test.YtgnhakgfgdelpaaSpLaw2
namespace Go.Proofs.Ytgnhakgfgdelpaa
open Go.RowKit
section
variable {S : BS} {l : List Int} {v : List UInt8}
theorem nCh_self_take (hok : okB S) (h : HoldsV S l v) : l.take (nCh v.length (S.page - 16)) = l ∧ v.take (nCh v.length (S.page - 16) * (S.page - 16)) = v := by
  obtain ⟨hp1, hp2⟩ := isPowB_range hok.page
  refine ⟨by rw [← h.len, List.take_length], List.take_of_length_le ?_⟩
  have := nCh_lt (len := v.length) (h := S.page - 16) (k := nCh v.length (S.page - 16)) (by omega)
  omega
theorem allCh_law (hok : okB S) (h : HoldsV S l v) (h1 : 1 ≤ v.length) (h2 : v.length ≤ 65536) : ∃ S', allCh S (l.getD 0 0) v.length = (0, l, v, S') ∧ Like S S' := by
  obtain ⟨S', e, hS'⟩ := chF_law hok h (Nat.le_refl _) h2
  refine ⟨S', ?_, hS'⟩
  unfold allCh
  rw [if_pos (by unfold sizeB; rw [decide_eq_true (by omega), decide_eq_true (by omega)]; rfl), Int.toNat_natCast, e, (nCh_self_take hok h).1, (nCh_self_take hok h).2]
theorem sliceCh_law (hok : okB S) (h : HoldsV S l v) (h1 : 1 ≤ v.length) (h2 : v.length ≤ 65536) {lo hi : Nat} (h3 : lo ≤ hi) (h4 : hi ≤ v.length) : ∃ S', sliceCh S (l.getD 0 0) v.length lo hi = (0, [], (v.take hi).drop lo, S') ∧ Like S S' := by
  have hs : sizeB (v.length : Int) = true := by unfold sizeB; rw [decide_eq_true (by omega), decide_eq_true (by omega)]; rfl
  by_cases he : lo = hi
  · subst he
    refine ⟨S, ?_, Like.refl S⟩
    unfold sliceCh
    rw [if_neg (by rw [hs]; simp), if_neg (by omega), if_pos rfl, List.drop_take]
    simp
  · obtain ⟨S', e, hS'⟩ := chF_law hok h h4 h2
    refine ⟨S', ?_, hS'⟩
    unfold sliceCh
    rw [if_neg (by rw [hs]; simp), if_neg (by omega), if_neg (by omega), Int.toNat_natCast, Int.toNat_natCast, e, if_pos rfl]
    obtain ⟨hp1, hp2⟩ := isPowB_range hok.page
    have h5 := nCh_lt (len := hi) (h := S.page - 16) (k := nCh hi (S.page - 16)) (by omega)
    show (0, [], List.drop lo (List.take hi (List.take _ v)), S') = _
    rw [List.take_take, Nat.min_eq_left (by omega)]
theorem sliceCh_bad {first n from_ to_ : Int} (h : sizeB n = true) (hb : from_ < 0 ∨ to_ < from_ ∨ n < to_) : sliceCh S first n from_ to_ = (1, [], [], S) := by
  unfold sliceCh
  rw [if_neg (by rw [h]; simp), if_pos hb]
theorem freeCh_law (hok : okB S) (h : HoldsV S l v) (h1 : 1 ≤ v.length) (h2 : v.length ≤ 65536) : ∃ S', freeCh S (l.getD 0 0) v.length = (0, S') ∧ S'.page = S.page ∧ S'.pages = S.pages ∧ okB S' ∧ (∀ n ∈ l, S'.held n = none) ∧ ∀ n, n ∉ l → S'.held n = S.held n := by
  obtain ⟨S1, e, hS1⟩ := allCh_law hok h h1 h2
  have hh : ∀ n ∈ l, S1.held n ≠ none := fun n hn => by
    obtain ⟨i, hi, rfl⟩ := List.getElem_of_mem hn
    rw [(h.like hS1).held i hi]; simp
  obtain ⟨S', k1, -, k3, k4, k5, k6, k7⟩ := freeAll_law l 0 S1 (hS1.ok hok) h.nodup hh
  refine ⟨S', ?_, k3.trans hS1.page, k4.trans hS1.pages, k5, k6, fun n hn => by rw [k7 n hn, hS1.held]⟩
  unfold freeCh
  rw [e]
  show freeAll l 0 S1 = _
  rw [k1]
  simp
end
/-! ### awake's own -/
def v500 : List UInt8 := (List.replicate 500 0).set 499 7
theorem v500_len : v500.length = 500 := by unfold v500; rw [List.length_set, List.length_replicate]
theorem v500_end : (v500.take 500).drop 499 = [7] := by decide +kernel
def S500 : BS := emptyB 1 512 9
theorem S500_ok : okB S500 := emptyB_ok (by decide)
theorem aw_write : ∃ l S1, wrF S500 v500 = (2, 0, S1) ∧ HoldsV S1 l v500 ∧ okB S1 ∧ l.getD 0 0 = 2 ∧ S1.page = 512 ∧ l.length = 2 ∧ ∀ n, n ∉ l → S1.held n = none := by
  obtain ⟨l, S1, e, hH, hA⟩ := wrF_law (S := S500) (v := v500) S500_ok (by rw [v500_len]; omega) (by rw [v500_len]; omega) (by rw [v500_len]; decide +kernel)
  have h2 : (wrF S500 v500).1 = 2 := by decide +kernel
  rw [e] at h2
  have h2 : l.getD 0 0 = 2 := h2
  have hl : l.length = 2 := by rw [hH.len, hA.page, v500_len]; decide
  exact ⟨l, S1, by rw [e, h2], hH, hA.ok, h2, hA.page, hl, fun n hn => by rw [hA.rest n hn]; rfl⟩
theorem aw_bad {S : BS} {l : List Int} (hok : okB S) (h : HoldsV S l v500) (hp : S.page = 512) (h2 : l.getD 0 0 = 2) (hl : l.length = 2) : ∃ S', allCh S 2 499 = (90, [], [], S') ∧ Like S S' := by
  refine ⟨S.read.read, ?_, (read_like S).trans (read_like _)⟩
  obtain ⟨s1, s2, s3, s4⟩ := step_law hok h (i := 0) (by omega) 499
  obtain ⟨t1, t2, t3, t4⟩ := step_law ((read_like S).ok hok) (h.like (read_like S)) (i := 1) (by omega) 3
  have hp' : S.read.page = 512 := hp
  rw [hp] at s1 s4
  rw [hp'] at t1 t4
  have n1 : ¬ nextP l 0 = 0 := by rw [nextP_zero h.rng (by omega)]; omega
  have q0 : (pieceF v500 (512 - 16) 0).length = 496 := by rw [pieceF_length, v500_len]; decide
  have q1 : (pieceF v500 (512 - 16) 1).length = 4 := by rw [pieceF_length, v500_len]; decide
  rw [if_neg (by rw [q0, decide_eq_false n1]; decide)] at s1
  rw [if_pos (.inl (by rw [q1]; decide))] at t1
  have l0 : l[0] = 2 := by rw [← getD_at (by omega)]; exact h2
  have l1 : l[1] = nextP l 0 := (getD_at (l := l) (i := 1) (by omega)).symm
  rw [l0] at s1 s2 s3 s4
  rw [List.take_zero] at s1 s2
  unfold allCh
  rw [if_pos (by decide)]
  show chF 499 (499 + 1) S 2 499 [] [] = _
  rw [chF_next (by simp) (by omega) s1 s3 s4]
  rw [← l1]
  have q2 : (499 : Int) - ((pieceF v500 (512 - 16) 0).length : Int) = 3 := by rw [q0]; decide
  rw [q2]
  have q3 : ([] : List Int) ++ [2] = l.take 1 := by
    have := List.take_succ_eq_append_getElem (l := l) (i := 0) (by omega)
    rw [l0] at this
    exact this.symm
  rw [q3]
  rw [chF_bad (by rw [List.nil_append, q0]; omega) (by omega) t1 (by decide) t2]
end Go.Proofs.Ytgnhakgfgdelpaa
