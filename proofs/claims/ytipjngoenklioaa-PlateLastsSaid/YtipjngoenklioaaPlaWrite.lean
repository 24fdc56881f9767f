/- plate.Write: the walk. -/
import Derived.Test.YtipjngoenklioaaPlaRead
namespace Go.Proofs.Ytipjngoenklioaa
open Go.RowKit
theorem loose_info : (Try.prog.info? 69).map (fun i => (i.zero, i.size, i.bytes)) = some (some (.agg #[.int .i64 0, .slice none 0 0]), 2, 32) := by kernel_rfl
def PS.wrote (S : PS) (n : Nat) (l : List UInt8) : PS := { S.acted 1 with wild := S.wild ++ [(n, l)] }
def PS.write (S : PS) (n : Nat) (l : List UInt8) : PS := if S.acts == 0 then (S.wrote n l).fell S.keep S.torn S.at_ else S.wrote n l
def WriteE (S : PS) : Int := if S.acts == 0 then 3 else 0
def PutAt (w : World) (F : Nat → Prop) (r : Raw) (S' : PS) (v : Value) (e : Ending) (w' : World) : Prop := e = .returned v ∧ ∃ r' F', r'.pb = r.pb ∧ r'.sb = r.sb ∧ PlRaw w' F' r' S' ∧ Step F w F' w'
theorem PlRaw.wrote {w1 w2 w3 w4 w5 w6 : World} {F : Nat → Prop} {r : Raw} {S : PS} {n : Nat} {l : List UInt8} {vd vl : Value} (h : PlRaw w1 F r S) (hn : n < S.np) (hl : l.length = S.page) (hm : MapAt w2 r.mb (S.wild ++ [(n, l)])) (hg2 : w1.grownBy w2 (some r.mb))
    (hb3 : Below w2.heap.size w2 w3) (hd : OwB w3 w2.heap.size vd l) (hb4 : Below w3.heap.size w3 w4) (ho : Own w5 0 69 2 vl (S.wild.length + 1) (wcells S.wild r.dv ++ [.int .i64 (n : Int), vd])) (hg5 : w4.grownBy w5 r.vl.ownBlock)
    (hvl : vl.ownBlock = r.vl.ownBlock ∨ vl.ownBlock = some w4.heap.size) (hg6 : w5.grownBy w6 (some r.pb)) (hbl : OBlk w6 r.pb 66 (plCells { r with vl := vl } S)) :
    PlRaw w6 (fun k => F k ∨ vl.ownBlock = some k ∨ vd.ownBlock = some k) { r with vl := vl, dv := r.dv ++ [vd] } { S with wild := S.wild ++ [(n, l)] } ∧
      Step F w1 (fun k => F k ∨ vl.ownBlock = some k ∨ vd.ownBlock = some k) w6 := by
  have hF2 : ∀ k, F k → k ≠ r.mb → w2.heap[k]? = w1.heap[k]? := fun k hf hne => hg2.block k (h.lt k hf) (fun e => hne (Option.some.inj e))
  have s12 := hg2.size
  have s23 := hb3.size
  have s34 := hb4.size
  have s45 := hg5.size
  have s56 := hg6.size
  have b24 : Below w2.heap.size w2 w4 := hb3.trans (hb4.mono s23)
  have hblk2 := h.blk.grown hg2 (fun e => h.map.ne h.blk (Option.some.inj e).symm)
  have hsafe2 := h.safe.grown hg2 (fun e => h.map.ne h.safe (Option.some.inj e).symm)
  have hloose2 : Own w2 0 69 2 r.vl S.wild.length (wcells S.wild r.dv) := h.loose.grown hg2 (fun g hg e => h.loose.ne_map h.map (by rw [hg, e]))
  have hkeep2 := h.keep.grown hg2 (fun g hg e => h.keep.ne_map h.map (by rw [hg, e]))
  have hsafe4 := hsafe2.below b24 hsafe2.lt
  have hkeep4 := Own.below' hkeep2 b24 (Nat.le_refl _)
  have hblk4 := hblk2.below b24 hblk2.lt
  have hloose4 := Own.below' hloose2 b24 (Nat.le_refl _)
  have hm4 : MapAt w4 r.mb (S.wild ++ [(n, l)]) := hm.heap (b24.block _ hm.lt)
  have hd4 : OwB w4 w2.heap.size vd l := Own.below' hd hb4 (Nat.le_refl _)
  have hlt4 : ∀ k, F k → k < w4.heap.size := fun k hf => by have := h.lt k hf; omega
  have hsafe5 := hsafe4.grown hg5 (fun e => hloose4.ne_T hsafe4 (by decide) e)
  have hkeep5 := hkeep4.grown hg5 (fun g hg e => by
    rcases hloose4.2 with ⟨e0, _⟩ | ⟨g', cap, cs, e0, _, hg', _⟩
    · rw [e0] at e; simp [Value.ownBlock] at e
    · rw [e0] at e
      simp only [Value.ownBlock, Option.some.injEq, if_true] at e
      subst e
      exact hkeep4.ne_T hg' (by decide) (by rw [hg]))
  have hm5 := hm4.heap (hg5.block _ hm4.lt (fun e => hloose4.ne_map hm4 e))
  have hd5 : OwB w5 w2.heap.size vd l := Own.grown hd4 hg5 (fun g hg e => by
    have h1 := (Own.lt hd4 g hg).1
    have h2 := h.lt g (h.fl g e.symm)
    omega)
  have hpb : ∀ g, F g ∨ vl.ownBlock = some g ∨ vd.ownBlock = some g → g < w6.heap.size := by
    intro g hg
    rcases hg with hf | hf | hf
    · have := hlt4 g hf; omega
    · have := (Own.lt ho g hf).2; omega
    · have := (Own.lt hd4 g hf).2; omega
  have hold : ∀ (i : Nat) (hi : i < S.wild.length) (v : Value), r.dv[i]? = some v → OwB w6 0 v S.wild[i].2 ∧ ∀ g, v.ownBlock = some g → F g ∧ g ≠ r.sb := fun i hi v hv => by
    obtain ⟨h1, h2⟩ := h.data i hi v hv
    refine ⟨Own.heap h1 fun g hg => ?_, h2⟩
    obtain ⟨hf, _⟩ := h2 g hg
    have hlt := h.lt g hf
    have e2 := hg2.block g hlt (fun e => OwB.ne_map h1 h.map (by rw [hg, e]))
    have h1' : OwB w2 0 v S.wild[i].2 := Own.heap h1 (fun g' hg' => by rw [hg] at hg'; injection hg' with hg'; subst hg'; exact e2)
    have e4 := b24.block g (by omega)
    have h1'' : OwB w4 0 v S.wild[i].2 := Own.below' h1' b24 (Nat.le_refl _)
    have e5 := hg5.block g (by omega) (fun e => by
      rcases hloose4.2 with ⟨e0, _⟩ | ⟨g', cap, cs, e0, _, hg', _⟩
      · rw [e0] at e; simp [Value.ownBlock] at e
      · rw [e0] at e
        simp only [Value.ownBlock, Option.some.injEq, if_true] at e
        subst e
        exact OwB.ne_T h1'' hg' (by decide) (by rw [hg]))
    have e6 := hg6.block g (by omega) (fun e => OwB.ne_T h1'' hblk4 (by decide) (by rw [hg, e]))
    rw [e6, e5, e4, e2]
  refine ⟨{ ok := { h.ok with we := ?_ }, blk := hbl, safe := ?_, loose := ?_, dlen := ?_, data := ?_, map := ?_, keep := ?_, fp := .inl h.fp, fs := .inl h.fs, fm := .inl h.fm, fl := fun g hg => .inr (.inl hg), fk := fun g hg => .inl (h.fk g hg), lt := hpb }, ?_, ?_⟩
  · intro x hx
    rcases List.mem_append.1 hx with hx | hx
    · exact h.ok.we x hx
    · rw [List.mem_singleton] at hx; subst hx; exact ⟨hn, hl⟩
  · exact hsafe5.grown hg6 (fun e => hsafe4.ne hblk4 (by decide) (Option.some.inj e))
  · have h1 : Own w6 0 69 2 vl (S.wild.length + 1) (wcells S.wild r.dv ++ [.int .i64 (n : Int), vd]) := ho.grown hg6 (fun g hg e => by
      have hb5 : OBlk w5 r.pb 66 (plCells r S) := hblk4.grown hg5 (fun e => hloose4.ne_T hblk4 (by decide) e)
      exact ho.ne_T hb5 (by decide) (by rw [hg, e]))
    rw [show (S.wild ++ [(n, l)]).length = S.wild.length + 1 by simp, wcells_snoc _ _ _ _ h.dlen]
    exact h1
  · simp [h.dlen]
  · intro i hi v hv
    simp only [List.length_append, List.length_singleton] at hi
    rcases Nat.lt_or_ge i S.wild.length with hlt | hge
    · rw [List.getElem?_append_left (by rw [h.dlen]; exact hlt)] at hv
      obtain ⟨h1, h2⟩ := hold i hlt v hv
      simp only [List.getElem_append_left hlt]
      exact ⟨h1, fun g hg => ⟨.inl (h2 g hg).1, (h2 g hg).2⟩⟩
    · have hii : i = S.wild.length := by omega
      subst hii
      rw [List.getElem?_append_right (by rw [h.dlen]; omega)] at hv
      simp only [h.dlen, Nat.sub_self, List.getElem?_cons_zero, Option.some.injEq] at hv
      subst hv
      simp only [List.getElem_append_right (Nat.le_refl _), Nat.sub_self, List.getElem_cons_zero]
      refine ⟨(Own.grown hd5 hg6 (fun g hg e => ?_)).low (Nat.zero_le _), fun g hg => ⟨.inr (.inr hg), fun e => ?_⟩⟩
      · have h1 := (Own.lt hd4 g hg).1
        have h2 := h.blk.lt
        have := Option.some.inj e
        omega
      · have h1 := (Own.lt hd4 g hg).1
        have h2 := h.safe.lt
        omega
  · exact hm5.heap (hg6.block _ hm5.lt (fun e => hm4.ne hblk4 (Option.some.inj e)))
  · exact hkeep5.grown hg6 (fun g hg e => hkeep4.ne_T hblk4 (by decide) (by rw [hg, e]))
  · exact ((((Turn.of_grown hg2 (fun k e => by cases e; exact h.fm)).new (b24.mono s12)).grown hg5 (fun b e => .inl (h.fl b e)))).grown hg6 (fun b e => by cases e; exact .inl h.fp)
  · intro k hk
    rcases hk with hf | hf | hf
    · exact .inl hf
    · rcases hvl with e | e
      · exact .inl (h.fl k (by rw [← e]; exact hf))
      · rw [e] at hf
        have := Option.some.inj hf
        exact .inr (by omega)
    · have := (Own.lt hd4 k hf).1
      exact .inr (by omega)
end Go.Proofs.Ytipjngoenklioaa
