/- espalierlaw01.InkReads: the walk. -/
import Derived.Test.YtijlebjldnhnaaaLawWrites
import Derived.Test.YtijlebjldnhnaaaRefReadOrd
import Derived.Test.YtijlebjldnhnaaaRefReadUint
namespace Go.Proofs.Ytijlebjldnhnaaa
open Go.RowKit
theorem roA_len : ∀ (l acc : List UInt8) (k : Nat), (roA acc k l).1.length ≤ acc.length + l.length
  | [], acc, k => by simp [roA]
  | [x], acc, k => by simp [roA]
  | x :: y :: r, acc, k => by
    have h1 := roA_len r (acc ++ [0]) (k + 2)
    have h2 := roA_len (y :: r) (acc ++ [x]) (k + 1)
    rw [roA]
    simp at h1 h2
    split
    · split
      · simp
      · split
        · simp; omega
        · simp
    · simp at h2 ⊢; omega
theorem roV_len (l : List UInt8) (at_ : Int) : (roV l at_).1.length ≤ l.length := by
  unfold roV
  split
  · simp
  · have := roA_len (l.drop at_.toNat) [] 0
    simp at this ⊢; omega
set_option maxRecDepth 100000 in
set_option maxHeartbeats 8000000 in
theorem reads_any (vb : Value) (b : List UInt8) (at_ wd : Int) (w : World) (rb : RdB w vb b) (hl : b.length ≤ 140737488351232) :
    Calls Try.prog 5 #[vb, .int .i64 at_, .int .i64 wd] w fun e w' => e = .returned (.bool true) ∧ Below w.heap.size w w' := by
  have hro := roV_len b at_
  go_enter Try.func5, Try.ntmps5
  go_wp2_with fail
  refine (live_any _).mono ?_
  rintro e w0 ⟨rfl, hb⟩
  go_wp2_with fail
  refine (Lent_any _ b _ (rb.below hb (Nat.le_refl _)) (by omega)).mono ?_
  rintro e w1 ⟨g, rfl, ol, hw⟩
  have tl := ol.at'
  have sl := hb.size
  replace hb := hb.trans (hw.mono hb.size)
  have zl := hw.size
  clear hw ol
  go_wp2_with fail
  refine (ReadFixedV _ b at_ wd _ (tl.1.part rfl)).mono ?_
  rintro e w' ⟨rfl, rfl⟩
  go_wp2_with fail
  refine (RReadFixedV _ b at_ wd _ (rb.below hb (Nat.le_refl _))).mono ?_
  rintro e w' ⟨rfl, rfl⟩
  go_wp2_with fail
  refine (ReadUint_any _ b at_ _ (tl.1.part rfl)).mono ?_
  rintro e w' ⟨rfl, rfl⟩
  go_wp2_with fail
  refine (RReadUint_any _ b at_ _ (rb.below hb (Nat.le_refl _))).mono ?_
  rintro e w' ⟨rfl, rfl⟩
  go_wp2_with fail
  refine (ReadOrdered_any _ b at_ _ (tl.1.part rfl) (by omega)).mono ?_
  rintro e w2 ⟨o1, rfl, oo1, hw⟩
  have to1 := oo1.at'
  have so1 := hb.size
  replace hb := hb.trans (hw.mono hb.size)
  replace tl := tl.below hw
  have zo1 := hw.size
  clear hw oo1
  go_wp2_with fail
  refine (RReadOrdered_any _ b at_ _ (rb.below hb (Nat.le_refl _)) (by omega)).mono ?_
  rintro e w3 ⟨p, rfl, op, hw⟩
  have tp := op.at'
  have sp := hb.size
  replace hb := hb.trans (hw.mono hb.size)
  replace tl := tl.below hw
  replace to1 := to1.below hw
  have zp := hw.size
  clear hw op
  go_wp2_with fail
  refine (Same_any _ _ _ _ _ to1.rd tp.rd).mono ?_
  rintro e w' ⟨rfl, rfl⟩
  rw [beq_self_eq_true]
  go_wp2_with fail
  refine (Own_any _ _ _ _ to1.1 (by omega) (by omega)).mono ?_
  rintro e w4 ⟨⟨r4, rfl⟩, hg⟩
  replace tp := tp.up to1 (by omega) hg
  replace tl := tl.down to1 (by omega) hg
  replace hb := Below.by_own hb to1 (by omega) hg
  have zo := hg.size
  clear hg to1
  go_wp2_with fail
  refine (ReadOrdered_any _ b at_ _ (tl.1.part rfl) (by omega)).mono ?_
  rintro e w5 ⟨a, rfl, oa, hw⟩
  have ta := oa.at'
  have sa := hb.size
  replace hb := hb.trans (hw.mono hb.size)
  replace tl := tl.below hw
  replace tp := tp.below hw
  have za := hw.size
  clear hw oa
  go_wp2_with fail
  refine (Same_any _ _ _ _ _ ta.rd tp.rd).mono ?_
  rintro e w' ⟨rfl, rfl⟩
  rw [beq_self_eq_true]
  go_wp2_with fail
  refine (AsLent_any g b.length _ b _ _ rfl tl.1 (rb.below hb (Nat.le_refl _)) (by omega)).mono ?_
  rintro e w6 ⟨rfl, hg⟩
  replace tp := tp.up tl (by omega) hg
  replace ta := ta.up tl (by omega) hg
  replace hb := Below.by_own hb tl (by omega) hg
  clear hg tl
  go_wp2_with fail
  refine (Same_any _ _ _ _ _ ta.rd tp.rd).mono ?_
  rintro e w' ⟨rfl, rfl⟩
  rw [beq_self_eq_true]
  go_wp2_with fail
  go_ret
  exact ⟨rfl, hb⟩
end Go.Proofs.Ytijlebjldnhnaaa
