/- espalierlaw05.kept: walk, of bytes that read as they did. -/
import Derived.Test.YtdnfbjmapdgnnaaLawLent
import Derived.Laws.Concat
namespace Go.Proofs.Ytdnfbjmapdgnnaa
open Go.RowKit
theorem spare_add (l : List UInt8) (hl : l.length ≤ 140737488351232) (w : World) : (Op.stringOp .add ⟨l.toArray⟩ ⟨#[97, 110, 100, 32, 109, 111, 114, 101]⟩).run Try.prog w = .ok (.string ⟨(l ++ spareL).toArray⟩) w := by
  have h1 : (⟨l.toArray⟩ : ByteArray).size = l.length := by show l.toArray.size = _; simp
  have h2 : (⟨#[97, 110, 100, 32, 109, 111, 114, 101]⟩ : ByteArray).size = 8 := rfl
  have h3 : (⟨l.toArray⟩ : ByteArray) ++ ⟨#[97, 110, 100, 32, 109, 111, 114, 101]⟩ = ⟨(l ++ spareL).toArray⟩ := by
    rw [ByteArray.mk_append_mk]
    simp [spareL]
  rw [run_string_add_sum w _ _ (by rw [h1, h2]; omega), h3]
set_option maxHeartbeats 1000000 in
theorem kept_any (g cap n : Nat) (vb : Value) (l : List UInt8) (base : Nat) (w : World) (hn : l.length = n) (ho : OwB w base (.slice (some ⟨g, 0, none⟩) (n + 8) cap) (l ++ spareL)) (hv : RdB w vb l) (hl : l.length ≤ 140737488351232) :
    Calls Try.prog 20 #[.slice (some ⟨g, 0, none⟩) n cap, vb] w fun e w' => e = .returned (.bool true) ∧ w.grownBy w' (some g) := by
  subst hn
  obtain ⟨A, c, rfl, hm⟩ := hv.form
  have q1 := run_B_string hv
  have q2 := run_B_string ho.rd
  have q3 := spare_add l hl w
  have hc : l.length + 8 ≤ cap ∧ cap ≤ maxLen := by
    rcases ho.form with ⟨h, _⟩ | ⟨g', cap', h, _, _, h1, h2⟩
    · cases h
    · injection h with _ h3 h4
      subst h4
      exact ⟨by omega, h2⟩
  obtain ⟨c1, c2⟩ := hc
  simp only [maxLen] at c2
  have i1 : (l.length : Int) + 8 ≤ (cap : Int) := by omega
  go_enter Try.func20, Try.ntmps20
  go_wp2_with fail
  clear q1 q2 q3
  go_loopw [7] (fun i wr => ∃ (j : Nat) (m : List UInt8), i = .int .i64 (j : Int) ∧ j ≤ l.length + 8 ∧ Hid (m.length = l.length + 8) ∧ OwB wr base (.slice (some ⟨g, 0, none⟩) (l.length + 8) cap) m ∧ w.grownBy wr (some g))
    (fun i _ => l.length + 8 - (intOf i).toNat)
  case atStart => exact ⟨0, l ++ spareL, rfl, Nat.zero_le _, Lib.hid (by simp [spareL]), ho, World.grownBy.refl _ _⟩
  case round =>
    clear ho hv
    obtain ⟨j, m, rfl, hj, HM, ho, hg⟩ := hrel
    by_cases hlt : j < l.length + 8
    · have hml := HM.out
      have hc := ho.cell (j := j) (by omega)
      have hf := ho.frozen (j := j) (by omega)
      have hgl := (ho.lt g rfl).2
      generalize (m[j]'(by omega)).toNat = y at hc
      clear hml
      go_wp2_with fail
      go_roundw
      case rel => exact ⟨j + 1, m.set j 17, by go_num, by omega, Lib.hid (by rw [List.length_set]; exact HM.out), ho.set j 17, grownBy_trans hg (grownBy_setCell _ _ _)⟩
      case measure => simp [intOf]; omega
    · obtain rfl : j = l.length + 8 := by omega
      go_wp2_with fail
      go_ret
      exact ⟨rfl, hg⟩
end Go.Proofs.Ytdnfbjmapdgnnaa
