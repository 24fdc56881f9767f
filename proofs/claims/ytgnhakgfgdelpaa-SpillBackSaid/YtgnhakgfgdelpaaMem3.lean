/- copy over the head of bytes that the call owns. -/
import Derived.Test.YtgnhakgfgdelpaaMem2
namespace Go.Proofs.Ytgnhakgfgdelpaa
open Go.RowKit
theorem OwB.some' {w : World} {b n : Nat} {u : Value} {l : List UInt8} (h : OwB w b u l) (hn : l.length = n) (h0 : 0 < n) : ∃ g c, u = .slice (some ⟨g, 0, none⟩) n c := by
  subst hn
  rcases h.form with ⟨_, rfl⟩ | ⟨g, c, rfl, _⟩
  · simp at h0
  · exact ⟨g, c, rfl⟩
section laws
variable {w : World} {ops : Array Oper} {rest : List Oper} {o : Oper} {a : Act} {Q : Exit → Act → World → Prop}
theorem wp_copy_Ow (hgd : o.guard = none) (d s : Operand)
    (ho : o.op = .call { callee := .builtin .copy, args := #[d, s], argTypes := #[25, 25] })
    (base g n k c cap : Nat) (l sp : List UInt8) (hd : a.eval d = .slice (some ⟨g, 0, none⟩) n c) (hown : OwB w base (.slice (some ⟨g, 0, none⟩) (n + k) cap) (l ++ sp)) (hl : l.length = n) (hk : sp.length = k)
    (vx : Value) (m : List UInt8) (hx : a.eval s = vx) (hr : RdB w vx m) (hm : m.length = n)
    (h : ∀ w', OwB w' base (.slice (some ⟨g, 0, none⟩) (n + k) cap) (m ++ sp) → w.grownBy w' (some g) → wpList Try.prog ops Q rest (a.put o.dst (goInt (n : Nat))) w') : wpList Try.prog ops Q (o :: rest) a w := by
  have hlen : (l ++ sp).length = n + k := by simp; omega
  have hown' := hown
  unfold OwB at hown'
  rw [hlen] at hown'
  obtain ⟨h0, h1⟩ := hown'
  rcases h1 with ⟨h1, _⟩ | ⟨g', cap', cs, h1, hb, ho2, h2, h3, h4, h5⟩
  · cases h1
  · injection h1 with hA _ hc
    injection hA with hA
    injection hA with hA
    subst hA; subst hc
    rw [Nat.mul_one] at h4 h5
    refine wp_copy hgd d s _ _ ho 5 Try.underlying25 u8_size _ n c g 0 hd cs _ ho2 (fun _ => rfl) (by omega) vx m.length (bvs m) hx hr.rd (bvs_one m) ?_
    intro w' hw' hgr
    rw [hm, Nat.min_self, List.take_of_length_le (by rw [bvs_length]; omega)] at hw'
    rw [hm, Nat.min_self]
    refine h w' ?_ hgr
    unfold OwB
    have hlen2 : (m ++ sp).length = n + k := by simp; omega
    rw [hlen2]
    refine ⟨by rw [bvs_length, hlen2]; omega, .inr ⟨g, cap, _, rfl, hb, hw', h2, h3, ?_, ?_⟩⟩
    · rw [length_splice _ _ _ (by rw [bvs_length]; omega)]; omega
    · rw [Nat.mul_one, bvs_append]
      have e : splice cs 0 (bvs m) = bvs m ++ cs.drop n := by
        unfold splice
        simp [bvs_length, hm]
      rw [e, List.take_append, bvs_length, hm, List.take_of_length_le (by rw [bvs_length]; omega), Nat.add_sub_cancel_left]
      congr 1
      have : (cs.take (n + k)).drop n = (bvs (l ++ sp)).drop n := by rw [h5]
      rw [List.drop_take, Nat.add_sub_cancel_left, bvs_append, List.drop_left' (by rw [bvs_length, hl])] at this
      exact this
end laws
end Go.Proofs.Ytgnhakgfgdelpaa
