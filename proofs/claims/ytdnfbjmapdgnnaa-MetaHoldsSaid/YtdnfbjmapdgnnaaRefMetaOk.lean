/- espalierref05.Check: what its tests say. -/
import Derived.Test.YtdnfbjmapdgnnaaMetaOk
namespace Go.Proofs.Ytdnfbjmapdgnnaa
theorem re_1 (eg : Int) (h : (eg == 1) = true) : true = engB eg := by unfold engB; simp at h; simp [h]
theorem re_2 (eg : Int) (h : (eg == 1) = false) : (eg == 2) = engB eg := by unfold engB; simp at h; by_cases h2 : eg = 2 <;> simp [h, h2]
theorem rh_1 (hi : Int) : (decide (2 ≤ hi) && decide (hi ≤ 65536)) = highB hi := by unfold highB; rw [Bool.decide_and]
theorem rh_3 (hi : Int) (h : 2 ≤ hi) : decide (hi ≤ 65536) = highB hi := by rw [← rh_1 hi, decide_eq_true h, Bool.true_and]
theorem rh_2 (hi : Int) (h : hi < 2) : false = highB hi := by
  have : ¬ (2 ≤ hi ∧ hi ≤ 65536) := by omega
  unfold highB; rw [decide_eq_false this]
theorem ri_1 (n h : Int) (h0 : (n == 0) = true) : true = insideB n h := by unfold insideB; simp at h0; simp [h0]
theorem ri_2 (n h : Int) (h0 : (n == 0) = false) : (decide (2 ≤ n) && decide (n < h)) = insideB n h := by
  unfold insideB; simp at h0
  rw [← Bool.decide_and]; simp [h0]
theorem ri_4 (n h : Int) (h0 : (n == 0) = false) (h2 : 2 ≤ n) : decide (n < h) = insideB n h := by
  rw [← ri_2 n h h0, decide_eq_true h2, Bool.true_and]
theorem link_x (rt fr : Int) : decide (rt = fr ∧ rt ≠ 0) = ((rt == fr) && (rt != 0)) := by
  by_cases h : rt = fr
  · subst h; by_cases h0 : rt = 0 <;> simp [h0]
  · by_cases h0 : rt = 0 <;> simp [h, h0]
theorem ri_3 (n h : Int) (h0 : (n == 0) = false) (h2 : n < 2) : false = insideB n h := by
  unfold insideB; simp at h0
  have : ¬ (n = 0 ∨ 2 ≤ n ∧ n < h) := by omega
  rw [decide_eq_false this]
theorem rc_1 (ct rt : Int) (h1 : 0 ≤ ct) (h2 : ct ≤ 256) : ((ct == 0) == (rt == 0)) = countB ct rt := by
  have := c_1 ct rt
  simp only [show ¬ ct < 0 by omega, show ¬ 256 < ct by omega, decide_false, Bool.false_or] at this
  have := congrArg (!·) this
  simpa using this
theorem rc_2 (ct rt : Int) (h : 256 < ct) : false = countB ct rt := by
  have := congrArg (!·) (c_2 ct rt h); simpa using this
theorem rc_3 (ct rt : Int) (h : ct < 0) : false = countB ct rt := by
  have := congrArg (!·) (c_3 ct rt h); simpa using this
theorem rl_1 (ls hi fr : Int) (h1 : 0 ≤ ls) (h2 : ls ≤ hi - 2) (h3 : (ls == 0) = true) : true = listB ls hi fr := by
  unfold listB; simp at h3; subst h3; simp; omega
theorem rl_2 (ls hi fr : Int) (h1 : 0 ≤ ls) (h2 : ls ≤ hi - 2) (h3 : (ls == 0) = false) : (fr != 0) = listB ls hi fr := by
  unfold listB; simp at h3
  by_cases h : fr = 0 <;> simp [h, h3, h1, h2]
theorem rl_3 (ls hi fr : Int) (h : ls < 0) : false = listB ls hi fr := by
  have := congrArg (!·) (i_3 ls hi fr h); simpa using this
theorem rl_4 (ls hi fr : Int) (h : hi - 2 < ls) : false = listB ls hi fr := by
  have := congrArg (!·) (i_4 ls hi fr h); simpa using this
end Go.Proofs.Ytdnfbjmapdgnnaa
