/- x[lo:], x[:hi], x[lo:hi] of bytes that are read: as run equations and readings. -/
import Derived.Test.YtgnhakgfgdelpaaMem3
import Derived.Laws.Slices
namespace Go.Proofs.Ytgnhakgfgdelpaa
open Go.RowKit
theorem u8_elem : Try.prog.underlying 25 = some (.slice (Try.prog.elem 25)) := by kernel_rfl
theorem u8_sizeOf (w : World) : (sizeOf (Try.prog.elem 25)).run Try.prog w = .ok 1 w := by
  have he : Try.prog.elem 25 = 5 := by kernel_rfl
  rw [he]
  obtain ⟨i, hi, hz0, hz1, hz2⟩ := info_parts u8_info
  simp [sizeOf, typeInfo, hi, hz1]
theorem RdB.cap {w : World} {A : Option Addr} {n c : Nat} {l : List UInt8} (h : RdB w (.slice A n c) l) : n = l.length ∧ l.length ≤ c ∧ c ≤ 9223372036854775807 := by
  obtain ⟨A', c', hv, h1, h2, _⟩ := h
  injection hv with _ hn hc
  subst hc
  simp only [maxLen] at h2
  exact ⟨hn, h1, h2⟩
/-- x[lo:hi] -/
theorem RdB.run_lh {w : World} {A : Option Addr} {n c : Nat} {l : List UInt8} (h : RdB w (.slice A n c) l) (lo hi : Nat) (h1 : lo ≤ hi) (h2 : hi ≤ l.length) :
    ∃ A' c', (∀ w', (Instr.slice 25 (.slice A n c) (some (.int .i64 (lo : Int))) (some (.int .i64 (hi : Int))) none).run Try.prog w' = .ok (.slice A' (hi - lo) c') w') ∧ RdB w (.slice A' (hi - lo) c') ((l.take hi).drop lo) := by
  obtain ⟨_, hc, _⟩ := h.cap
  refine ⟨_, _, fun w' => ?_, h.cut h1 h2⟩
  have := run_slice_lh (P := Try.prog) w' 25 A n c u8_elem .i64 .i64 lo hi (by omega) (by omega) (by omega)
  rw [this, u8_sizeOf]
  simp [Result.andThen, sliced]
theorem RdB.run_l {w : World} {A : Option Addr} {n c : Nat} {l : List UInt8} (h : RdB w (.slice A n c) l) (lo : Nat) (h1 : lo ≤ l.length) :
    ∃ A' c', (∀ w', (Instr.slice 25 (.slice A n c) (some (.int .i64 (lo : Int))) none none).run Try.prog w' = .ok (.slice A' (l.length - lo) c') w') ∧ RdB w (.slice A' (l.length - lo) c') (l.drop lo) := by
  obtain ⟨rfl, hc, _⟩ := h.cap
  have hr := h.cut h1 (Nat.le_refl _)
  rw [List.take_length] at hr
  refine ⟨_, _, fun w' => ?_, hr⟩
  have := run_slice_l (P := Try.prog) w' 25 A l.length c u8_elem .i64 lo (by omega) (by omega)
  rw [this, u8_sizeOf]
  simp [Result.andThen, sliced]
theorem RdB.run_h {w : World} {A : Option Addr} {n c : Nat} {l : List UInt8} (h : RdB w (.slice A n c) l) (hi : Nat) (h2 : hi ≤ l.length) :
    ∃ A' c', (∀ w', (Instr.slice 25 (.slice A n c) none (some (.int .i64 (hi : Int))) none).run Try.prog w' = .ok (.slice A' hi c') w') ∧ RdB w (.slice A' hi c') (l.take hi) := by
  obtain ⟨_, hc, _⟩ := h.cap
  have hr := h.cut (Nat.zero_le hi) h2
  rw [List.drop_zero, Nat.sub_zero] at hr
  refine ⟨_, _, fun w' => ?_, hr⟩
  have := run_slice_h (P := Try.prog) w' 25 A n c u8_elem .i64 hi (by omega) (by omega)
  rw [this, u8_sizeOf]
  simp [Result.andThen, sliced]
end Go.Proofs.Ytgnhakgfgdelpaa
