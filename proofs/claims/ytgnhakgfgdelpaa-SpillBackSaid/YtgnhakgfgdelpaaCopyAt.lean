/- copy into bytes that the call owns, at a place. -/
import Derived.Test.YtgnhakgfgdelpaaMem3
namespace Go.Proofs.Ytgnhakgfgdelpaa
open Go.RowKit
theorem splice_append {α : Type} (a b : List α) (o : Nat) (r : List α) (h : o + r.length ≤ a.length) : splice (a ++ b) o r = splice a o r ++ b := by
  unfold splice
  rw [List.take_append_of_le_length (by omega), List.drop_append_of_le_length h]
  simp [List.append_assoc]
theorem splice_take_n {α : Type} (cs : List α) (o n : Nat) (r : List α) (h : o + r.length ≤ n) (hn : n ≤ cs.length) : (splice cs o r).take n = splice (cs.take n) o r := by
  have hl : (cs.take n).length = n := by simp; omega
  have e := splice_append (cs.take n) (cs.drop n) o r (by omega)
  rw [List.take_append_drop] at e
  have h2 : (splice (cs.take n) o r).length = n := by rw [length_splice _ _ _ (by omega)]; exact hl
  rw [e]
  exact List.take_left' h2
section laws
variable {w : World} {ops : Array Oper} {rest : List Oper} {o : Oper} {a : Act} {Q : Exit → Act → World → Prop}
theorem wp_copy_At (hgd : o.guard = none) (d s : Operand)
    (ho : o.op = .call { callee := .builtin .copy, args := #[d, s], argTypes := #[25, 25] })
    (base g n cap off : Nat) (dA : Option Addr) (dLen dCap : Nat) (hd' : a.eval d = .slice dA dLen dCap) (hd : 0 < dLen → dA = some ⟨g, off, none⟩)
    (l : List UInt8) (hown : OwB w base (.slice (some ⟨g, 0, none⟩) n cap) l) (hl : l.length = n) (hfit : off + dLen ≤ n)
    (vx : Value) (m : List UInt8) (hx : a.eval s = vx) (hr : RdB w vx m)
    (h : ∀ w', OwB w' base (.slice (some ⟨g, 0, none⟩) n cap) (splice l off (m.take (min m.length dLen))) → w.grownBy w' (some g) → wpList Try.prog ops Q rest (a.put o.dst (goInt (min m.length dLen : Nat))) w') : wpList Try.prog ops Q (o :: rest) a w := by
  have hown' := hown
  unfold OwB at hown'
  rw [hl] at hown'
  obtain ⟨h0, h1⟩ := hown'
  rcases h1 with ⟨h1, _⟩ | ⟨g', cap', cs, h1, hb, ho2, h2, h3, h4, h5⟩
  · cases h1
  · injection h1 with hA _ hc
    injection hA with hA
    injection hA with hA
    subst hA; subst hc
    rw [Nat.mul_one] at h4 h5
    refine wp_copy hgd d s _ _ ho 5 Try.underlying25 u8_size dA dLen dCap g off hd' cs _ ho2 hd (by omega) vx m.length (bvs m) hx hr.rd (bvs_one m) ?_
    intro w' hw' hgr
    refine h w' ?_ hgr
    have hlr : (m.take (min m.length dLen)).length ≤ dLen := by simp; omega
    have hlen2 : (splice l off (m.take (min m.length dLen))).length = n := by rw [length_splice _ _ _ (by omega)]; exact hl
    unfold OwB
    rw [hlen2]
    have hlb : ((bvs m).take (min m.length dLen)).length ≤ dLen := by rw [← bvs_take, bvs_length]; exact hlr
    refine ⟨by rw [bvs_length, hlen2]; omega, .inr ⟨g, cap, _, rfl, hb, hw', h2, h3, ?_, ?_⟩⟩
    · rw [length_splice _ _ _ (by omega)]; omega
    · rw [Nat.mul_one, splice_take_n _ _ _ _ (by omega) (by omega), h5, bvs_splice, bvs_take]
end laws
end Go.Proofs.Ytgnhakgfgdelpaa
