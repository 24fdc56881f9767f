/- Texts joined: espalierlaw03.pair; espalierlaw03.pair.told; The row's last step from 'Below' alone (the guide's small lemma 9).; A law that returns true and changes nothing below; Readings of bytes and of numbers, one level down; Scripts over devices (espalierlaw03.Op) -/
import Derived.Test.YtipjngoenklioaaG1
import Derived.Test.YtipjngoenklioaaG2
import Derived.Test.YtipjngoenklioaaG6
import Derived.Deep.RegionLaw
import Derived.Deep.DeepCutAuto
import Derived.Below
import Derived.ChangeSame
import Derived.WalkKit
import Derived.ProofKit
import Derived.OpenShut
import Derived.SizedLaws
import Derived.Carry
import Derived.Lib.SmallJoins
import Derived.WideKeyArgs
import Derived.Deep.Slices
import Derived.Deep.Fields
-- espalierlaw03.pair: a device beside the document's, and what came out: the state; told.
namespace Go.Proofs.Ytipjngoenklioaa
open Go.RowKit
def strV (l : List UInt8) : Value := .string ⟨l.toArray⟩
/-- What is wanted, what came. -/
abbrev LW := List UInt8 × List UInt8
def strs (ls : List LW) : List Value := ls.map fun p => strV p.1
theorem strs_length (ls : List LW) : (strs ls).length = ls.length := by simp [strs]
def OO (xb : Nat) (cv wv : Value) (cs : List Value) (b : Nat) : Prop := b = xb ∨ cv.ownBlock = some b ∨ wv.ownBlock = some b ∨ InL cs b
structure PairAt (w : World) (T : Nat → Prop) (xb : Nat) (r : Raw) (q : RRaw) (S S2 : PS) (D R : Nat → Prop) (cv : Value) (cs : List Value) (wv : Value) (ls : List LW) : Prop where
  dev : PlRaw w D r S
  ref : RfAt w R q S2
  blk : OBlk w xb 55 [plPtr r, rfPtr q, cv, wv]
  came : Own w 0 28 1 cv cs.length cs
  want : Own w 0 9 1 wv ls.length (strs ls)
  len : cs.length = ls.length
  each : OwLs w 0 cs (fun j => (ls.getD j ([], [])).2)
  apart : ApartL cs
  sepD : ∀ b, D b → ¬ R b ∧ ¬ OO xb cv wv cs b
  sepR : ∀ b, R b → ¬ OO xb cv wv cs b
  tD : ∀ b, D b → T b
  tR : ∀ b, R b → T b
  tO : ∀ b, OO xb cv wv cs b → T b
  lt : ∀ b, T b → b < w.heap.size
section
variable {w w' : World} {T G : Nat → Prop} {xb : Nat} {r r' : Raw} {q q' : RRaw} {S S' S2 S2' : PS} {D R D' R' : Nat → Prop} {cv wv : Value} {cs : List Value} {ls : List LW}
theorem PairAt.heap (h : PairAt w T xb r q S S2 D R cv cs wv ls) (hs : w.heap.size ≤ w'.heap.size) (hk : ∀ b, OO xb cv wv cs b → w'.heap[b]? = w.heap[b]?) (hd : PlRaw w' D' r' S') (hr : RfAt w' R' q' S2') (e1 : r'.pb = r.pb) (e2 : q'.pb = q.pb)
    (sD : ∀ b, D' b → ¬ R' b ∧ ¬ OO xb cv wv cs b) (sR : ∀ b, R' b → ¬ OO xb cv wv cs b) : PairAt w' (fun b => T b ∨ D' b ∨ R' b) xb r' q' S' S2' D' R' cv cs wv ls where
  dev := hd
  ref := hr
  blk := by
    have := h.blk.of_heap (hk xb (.inl rfl))
    unfold plPtr rfPtr at this ⊢
    rw [e1, e2]; exact this
  came := Own.heap h.came fun g hg => hk g (.inr (.inl hg))
  want := Own.heap h.want fun g hg => hk g (.inr (.inr (.inl hg)))
  len := h.len
  each := fun j u hj => Own.heap (h.each j u hj) fun g hg => hk g (.inr (.inr (.inr ⟨j, u, hj, hg⟩)))
  apart := h.apart
  sepD := sD
  sepR := sR
  tD := fun b hb => .inr (.inl hb)
  tR := fun b hb => .inr (.inr hb)
  tO := fun b hb => .inl (h.tO b hb)
  lt := fun b hb => by
    rcases hb with hb | hb | hb
    · exact Nat.lt_of_lt_of_le (h.lt b hb) hs
    · exact hd.lt b hb
    · exact hr.lt b hb
theorem PairAt.mono (h : PairAt w T xb r q S S2 D R cv cs wv ls) (hs : ∀ b, T b → G b) (hl : ∀ b, G b → b < w.heap.size) : PairAt w G xb r q S S2 D R cv cs wv ls :=
  { h with tD := fun b hb => hs b (h.tD b hb), tR := fun b hb => hs b (h.tR b hb), tO := fun b hb => hs b (h.tO b hb), lt := hl }
theorem PairAt.turn (h : PairAt w T xb r q S S2 D R cv cs wv ls) (ht : Turn G w w') (hd : ∀ b, T b → ¬ G b) : PairAt w' T xb r q S S2 D R cv cs wv ls :=
  (h.heap ht.size (fun b hb => ht.block b (h.lt b (h.tO b hb)) (hd b (h.tO b hb))) (h.dev.turn ht (fun k hk => hd k (h.tD k hk))) (h.ref.turn ht (fun k hk => hd k (h.tR k hk))) rfl rfl h.sepD h.sepR).mono (G := T)
    (fun b hb => by
      rcases hb with hb | hb | hb
      · exact hb
      · exact h.tD b hb
      · exact h.tR b hb) (fun b hb => Nat.lt_of_lt_of_le (h.lt b hb) ht.size)
theorem PairAt.below (h : PairAt w T xb r q S S2 D R cv cs wv ls) (hb : Below w.heap.size w w') : PairAt w' T xb r q S S2 D R cv cs wv ls :=
  h.turn (G := fun _ => False) ⟨hb.os, hb.tape, hb.output, hb.size, fun k hk _ => hb.block k hk⟩ (fun _ _ h => h)
/-- The device has taken a step. -/
theorem PairAt.devStep (h : PairAt w T xb r q S S2 D R cv cs wv ls) (hd : PlRaw w' D' r' S') (e : r'.pb = r.pb) (hs : Step D w D' w') :
    PairAt w' (fun b => T b ∨ D' b) xb r' q S' S2 D' R cv cs wv ls ∧ Step T w (fun b => T b ∨ D' b) w' := by
  have hO : ∀ b, OO xb cv wv cs b → ¬ D b := fun b hb hd => (h.sepD b hd).2 hb
  have hltO : ∀ b, OO xb cv wv cs b → b < w.heap.size := fun b hb => h.lt b (h.tO b hb)
  have hR : ∀ b, R b → ¬ D b := fun b hb hd => (h.sepD b hd).1 hb
  refine ⟨(h.heap hs.turn.size (fun b hb => hs.turn.block b (hltO b hb) (hO b hb)) hd (h.ref.turn hs.turn hR) e rfl (fun b hb => ⟨fun hr => ?_, fun ho => ?_⟩) h.sepR).mono (fun b hb => ?_) (fun b hb => ?_), hs.turn.mono h.tD, fun b hb => ?_⟩
  · rcases hs.grow b hb with h1 | h1
    · exact (h.sepD b h1).1 hr
    · have := h.lt b (h.tR b hr); omega
  · rcases hs.grow b hb with h1 | h1
    · exact (h.sepD b h1).2 ho
    · have := hltO b ho; omega
  · rcases hb with hb | hb | hb
    · exact .inl hb
    · exact .inr hb
    · exact .inl (h.tR b hb)
  · rcases hb with hb | hb
    · exact Nat.lt_of_lt_of_le (h.lt b hb) hs.turn.size
    · exact hd.lt b hb
  · rcases hb with hb | hb
    · exact .inl hb
    · exact (hs.grow b hb).imp (h.tD b) id
theorem PairAt.refStep (h : PairAt w T xb r q S S2 D R cv cs wv ls) (hr : RfAt w' R' q' S2') (e : q'.pb = q.pb) (hs : Step R w R' w') :
    PairAt w' (fun b => T b ∨ R' b) xb r q' S S2' D R' cv cs wv ls ∧ Step T w (fun b => T b ∨ R' b) w' := by
  have hO : ∀ b, OO xb cv wv cs b → ¬ R b := fun b hb hd => h.sepR b hd hb
  have hltO : ∀ b, OO xb cv wv cs b → b < w.heap.size := fun b hb => h.lt b (h.tO b hb)
  have hD : ∀ b, D b → ¬ R b := fun b hb => (h.sepD b hb).1
  refine ⟨(h.heap hs.turn.size (fun b hb => hs.turn.block b (hltO b hb) (hO b hb)) (h.dev.turn hs.turn hD) hr rfl e (fun b hb => ⟨fun hr' => ?_, (h.sepD b hb).2⟩) (fun b hb ho => ?_)).mono (fun b hb => ?_) (fun b hb => ?_), hs.turn.mono h.tR, fun b hb => ?_⟩
  · rcases hs.grow b hr' with h1 | h1
    · exact (h.sepD b hb).1 h1
    · have := h.lt b (h.tD b hb); omega
  · rcases hs.grow b hb with h1 | h1
    · exact h.sepR b h1 ho
    · have := hltO b ho; omega
  · rcases hb with hb | hb | hb
    · exact .inl hb
    · exact .inl (h.tD b hb)
    · exact .inr hb
  · rcases hb with hb | hb
    · exact Nat.lt_of_lt_of_le (h.lt b hb) hs.turn.size
    · exact hr.lt b hb
  · rcases hb with hb | hb
    · exact .inl hb
    · exact (hs.grow b hb).imp (h.tR b) id
end
theorem string_info : (Try.prog.info? 9).map (fun i => (i.zero, i.size, i.bytes)) = some (some (.string ⟨#[]⟩), 1, 16) := by kernel_rfl
theorem toldB (l : List UInt8) : (l == l) = true := by simp
end Go.Proofs.Ytipjngoenklioaa

-- espalierlaw03.pair.told: the walk.
namespace Go.Proofs.Ytipjngoenklioaa
open Go.RowKit
theorem PairAt.told {w w' : World} {T : Nat → Prop} {xb : Nat} {r : Raw} {q : RRaw} {S S2 : PS} {D R : Nat → Prop} {cv wv cv' wv' a : Value} {cs : List Value} {ls : List LW} {l : List UInt8} (h : PairAt w T xb r q S S2 D R cv cs wv ls) (ha : OwB w 0 a l) (hat : ∀ g, a.ownBlock = some g → ¬ T g)
    (ht : Turn (fun b => b = xb ∨ cv.ownBlock = some b ∨ wv.ownBlock = some b) w w') (hb : OBlk w' xb 55 [plPtr r, rfPtr q, cv', wv']) (hc : Own w' 0 28 1 cv' (cs.length + 1) (cs ++ [a])) (hw : Own w' 0 9 1 wv' (ls.length + 1) (strs ls ++ [strV l]))
    (hcg : ∀ g, cv'.ownBlock = some g → cv.ownBlock = some g ∨ w.heap.size ≤ g) (hwg : ∀ g, wv'.ownBlock = some g → wv.ownBlock = some g ∨ w.heap.size ≤ g) :
    PairAt w' (fun b => T b ∨ OO xb cv' wv' (cs ++ [a]) b) xb r q S S2 D R cv' (cs ++ [a]) wv' (ls ++ [(l, l)]) ∧ Turn T w w' ∧ (∀ k, (T k ∨ OO xb cv' wv' (cs ++ [a]) k) → T k ∨ a.ownBlock = some k ∨ w.heap.size ≤ k) := by
  have hxc : xb < w.heap.size := h.blk.lt
  have hin : ∀ b, (b = xb ∨ cv.ownBlock = some b ∨ wv.ownBlock = some b) → OO xb cv wv cs b := fun b hb => by
    rcases hb with hb | hb | hb
    · exact .inl hb
    · exact .inr (.inl hb)
    · exact .inr (.inr (.inl hb))
  have hts := ht.mono (G := T) (fun b hb => h.tO b (hin b hb))
  have hgrow : ∀ k, OO xb cv' wv' (cs ++ [a]) k → OO xb cv wv cs k ∨ a.ownBlock = some k ∨ w.heap.size ≤ k := fun k hk => by
    rcases hk with hk | hk | hk | ⟨j, u, hj, hu⟩
    · exact .inl (.inl hk)
    · exact (hcg k hk).imp (fun e => .inr (.inl e)) .inr
    · exact (hwg k hk).imp (fun e => .inr (.inr (.inl e))) .inr
    · rcases Nat.lt_or_ge j cs.length with hlt | hge
      · rw [List.getElem?_append_left hlt] at hj
        exact .inl (.inr (.inr (.inr ⟨j, u, hj, hu⟩)))
      · rw [List.getElem?_append_right hge] at hj
        have hj0 : j = cs.length := by
          have := (List.getElem?_eq_some_iff.mp hj).1
          simp at this; omega
        subst hj0
        simp at hj
        subst hj
        exact .inr (.inl hu)
  have hbk : ∀ {u : Value} {m : List UInt8}, OwB w 0 u m → OwB w' 0 u m := fun {u m} hu => Own.heap hu fun g hg => ht.block g (Own.lt hu g hg).2 (fun e => by
    obtain ⟨cs', hb'⟩ := OwB.blkU hu hg
    rcases e with e | e | e
    · subst e; exact hb'.ne h.blk (by decide) rfl
    · exact h.came.ne_T hb' (by decide) e.symm
    · exact h.want.ne_T hb' (by decide) e.symm)
  have hnot : ∀ b, D b ∨ R b → ¬ (b = xb ∨ cv.ownBlock = some b ∨ wv.ownBlock = some b) := fun b hb e => by
    rcases hb with hb | hb
    · exact (h.sepD b hb).2 (hin b e)
    · exact h.sepR b hb (hin b e)
  have hlt' : ∀ k, OO xb cv' wv' (cs ++ [a]) k → k < w'.heap.size := fun k hk => by
    rcases hk with hk | hk | hk | ⟨j, u, hj, hu⟩
    · subst hk; exact hb.lt
    · exact (Own.lt hc k hk).2
    · exact (Own.lt hw k hk).2
    · rcases Nat.lt_or_ge j cs.length with hlt | hge
      · rw [List.getElem?_append_left hlt] at hj
        exact Nat.lt_of_lt_of_le (Own.lt (h.each j u hj) k hu).2 ht.size
      · rw [List.getElem?_append_right hge] at hj
        have hj0 : j = cs.length := by
          have := (List.getElem?_eq_some_iff.mp hj).1
          simp at this; omega
        subst hj0
        simp at hj
        subst hj
        exact Nat.lt_of_lt_of_le (Own.lt ha k hu).2 ht.size
  refine ⟨⟨h.dev.turn ht (fun k hk => hnot k (.inl hk)), h.ref.turn ht (fun k hk => hnot k (.inr hk)), hb, by rw [List.length_append]; exact hc, ?_, ?_, ?_, ?_, ?_, ?_, fun b hb => .inl (h.tD b hb), fun b hb => .inl (h.tR b hb), fun b hb => .inr hb, ?_⟩, hts, ?_⟩
  · rw [List.length_append]
    have e : strs (ls ++ [(l, l)]) = strs ls ++ [strV l] := by simp [strs]
    rw [e]; exact hw
  · simp [h.len]
  · intro j u hj
    rcases Nat.lt_or_ge j cs.length with hlt | hge
    · rw [List.getElem?_append_left hlt] at hj
      have := hbk (h.each j u hj)
      have e : (ls ++ [(l, l)]).getD j ([], []) = ls.getD j ([], []) := by
        simp only [List.getD]
        rw [List.getElem?_append_left (by rw [← h.len]; exact hlt)]
      show OwB w' 0 u ((ls ++ [(l, l)]).getD j ([], [])).2
      rw [e]; exact this
    · rw [List.getElem?_append_right hge] at hj
      have hj0 : j = cs.length := by
        have := (List.getElem?_eq_some_iff.mp hj).1
        simp at this; omega
      subst hj0
      simp at hj
      subst hj
      have e : (ls ++ [(l, l)]).getD cs.length ([], []) = (l, l) := by
        simp only [List.getD]
        rw [List.getElem?_append_right (by rw [h.len]; exact Nat.le_refl _), h.len]
        simp
      show OwB w' 0 a ((ls ++ [(l, l)]).getD cs.length ([], [])).2
      rw [e]; exact hbk ha
  · intro i j y y' hij hi hj g hg' e
    have split : ∀ (i : Nat) (y : Value), (cs ++ [a])[i]? = some y → (i < cs.length ∧ cs[i]? = some y) ∨ (i = cs.length ∧ y = a) := fun i y hi => by
      rcases Nat.lt_or_ge i cs.length with hlt | hge
      · rw [List.getElem?_append_left hlt] at hi
        exact .inl ⟨hlt, hi⟩
      · rw [List.getElem?_append_right hge] at hi
        have h0 : i = cs.length := by
          have := (List.getElem?_eq_some_iff.mp hi).1
          simp at this; omega
        subst h0
        simp at hi
        exact .inr ⟨rfl, hi.symm⟩
    have hT : ∀ (j : Nat) (u : Value), cs[j]? = some u → ∀ g, u.ownBlock = some g → T g := fun j u hj g hg => h.tO g (.inr (.inr (.inr ⟨j, u, hj, hg⟩)))
    rcases split i y hi with ⟨h1, h2⟩ | ⟨h1, rfl⟩
    · rcases split j y' hj with ⟨h3, h4⟩ | ⟨h3, rfl⟩
      · exact h.apart i j y y' hij h2 h4 g hg' e
      · exact hat g e.symm (hT i y h2 g hg')
    · rcases split j y' hj with ⟨h3, h4⟩ | ⟨h3, rfl⟩
      · exact hat g hg' (hT j y' h4 g e.symm)
      · omega
  · intro b hb
    refine ⟨(h.sepD b hb).1, fun ho => ?_⟩
    rcases hgrow b ho with h1 | h1 | h1
    · exact (h.sepD b hb).2 h1
    · exact hat b h1 (h.tD b hb)
    · have := h.lt b (h.tD b hb); omega
  · intro b hb ho
    rcases hgrow b ho with h1 | h1 | h1
    · exact h.sepR b hb h1
    · exact hat b h1 (h.tR b hb)
    · have := h.lt b (h.tR b hb); omega
  · intro b hb
    rcases hb with hb | hb
    · exact Nat.lt_of_lt_of_le (h.lt b hb) ht.size
    · exact hlt' b hb
  · intro k hk
    rcases hk with hk | hk
    · exact .inl hk
    · exact (hgrow k hk).imp (h.tO k) id
def pairV (xb : Nat) : Value := .pointer (some ⟨xb, 0, none⟩)
set_option maxRecDepth 20000 in
set_option maxHeartbeats 4000000 in
theorem told_any (w : World) (T : Nat → Prop) (xb : Nat) (r : Raw) (q : RRaw) (S S2 : PS) (D R : Nat → Prop) (cv : Value) (cs : List Value) (wv : Value) (ls : List LW) (a b : Value) (l : List UInt8) (h : PairAt w T xb r q S S2 D R cv cs wv ls) (hn : cs.length ≤ 100000000) (ha : OwB w 0 a l) (hb : OwB w 0 b l) (hat : ∀ g, a.ownBlock = some g → ¬ T g) (hll : l.length ≤ 100000000) :
    Calls Try.prog 44 #[pairV xb, a, b] w fun e w' => e = .returned (.bool true) ∧ ∃ T' cv' wv', PairAt w' T' xb r q S S2 D R cv' (cs ++ [a]) wv' (ls ++ [(l, l)]) ∧ Turn T w w' ∧ (∀ k, T' k → T k ∨ a.ownBlock = some k ∨ w.heap.size ≤ k) := by
  have HH := Lib.hid h
  have HA := Lib.hid ha
  have c2 := h.blk.cell' (j := 2) rfl
  obtain ⟨A, c, hv⟩ := Own.slice h.came
  obtain ⟨B, d, hwv⟩ := Own.slice h.want
  have hone := OwB.one ha
  obtain ⟨A1, e1, hae⟩ := Own.slice ha
  obtain ⟨B1, f1, hbe⟩ := Own.slice hb
  subst hv hwv hae hbe
  have hlen : Hid (cs.length = ls.length) := Lib.hid h.len
  have hnl : ls.length ≤ 100000000 := by rw [← h.len]; exact hn
  have hlb := h.blk.lt
  clear h
  unfold pairV
  go_enter Try.func44, Try.ntmps44
  go_upto_region 2 with (first
    | (at_builtin; refine wp_append_L rfl (.tmp 11) (.tmp 13) rfl 0 _ cs rfl HH.out.came _ hone _ rfl (by omega) (Nat.zero_le _) ?_; intro v' w1 ho hg hk; obtain ⟨V, g1, rfl⟩ := Own.slice ho; have hb1 := HH.out.blk.grown hg (fun e => HH.out.came.ne_Tb HH.out.blk (by decide) e); have c2' := hb1.cell' (j := 2) (u := .slice A cs.length c) rfl; have f2' := hb1.frozen (j := 2) (by simp))
    | fail)
  have hw1 := HH.out.want.grown hg (fun g hg' e => by
    obtain ⟨cs', hb'⟩ := Own.oblk HH.out.want hg'
    exact HH.out.came.ne_Tb hb' (by decide) e)
  have ha1 : OwB w1 0 (.slice A1 l.length e1) l := Own.grown ha hg (fun g hg' e => ha.ne_own' HH.out.came g hg' e)
  have hb1' : OwB w1 0 (.slice B1 l.length f1) l := Own.grown hb hg (fun g hg' e => hb.ne_own' HH.out.came g hg' e)
  have hg2 := grownBy_setCell w1 ⟨xb, 2, none⟩ (.slice V (cs.length + 1) g1)
  have hb2 := hb1.set 2 (.slice V (cs.length + 1) g1)
  have hw2 := hw1.grown hg2 (fun g hg' e => hw1.ne_Tb hb1 (by decide) (by rw [hg', e]))
  have ha2 : OwB _ 0 (.slice A1 l.length e1) l := Own.grown ha1 hg2 (fun g hg' e => OwB.ne_blk ha1 hb1 (by decide) (by rw [hg', e]))
  have hb2' : OwB _ 0 (.slice B1 l.length f1) l := Own.grown hb1' hg2 (fun g hg' e => OwB.ne_blk hb1' hb1 (by decide) (by rw [hg', e]))
  have ho2 := ho.grown hg2 (fun g hg' e => ho.ne_Tb hb1 (by decide) (by rw [hg', e]))
  have hT2 : Turn (fun b => b = xb ∨ (Value.slice A cs.length c).ownBlock = some b ∨ (Value.slice B ls.length d).ownBlock = some b) w (w1.setCell ⟨xb, 2, none⟩ (.slice V (cs.length + 1) g1)) := (Turn.of_grown hg (fun k e => .inr (.inl e))).grown hg2 (fun b e => by cases e; exact .inl (.inl rfl))
  have HK := Lib.hid hk
  clear hb1 hb1' ha1 hw1 ho hg hg2 c2 c2' f2' hk ha hb
  generalize w1.setCell ⟨xb, 2, none⟩ (.slice V (cs.length + 1) g1) = w2 at *
  have c3 := hb2.cell' (j := 3) (u := .slice B ls.length d) rfl
  obtain ⟨i0, hi, hz0, hz1, hz2⟩ := info_parts string_info
  have q2 := run_B_string (w := w2.drew) (show RdB w2.drew _ _ from OwB.rd hb2')
  have hw3 : Own (w2.drew.alloc (.cells #[.string ⟨l.toArray⟩] 9)) 0 9 1 (.slice B ls.length d) ls.length (strs ls) := Own.alloc (Own.drew hw2) _
  have hb3a : OBlk (w2.drew.alloc (.cells #[.string ⟨l.toArray⟩] 9)) xb 55 [plPtr r, rfPtr q, .slice V (cs.length + 1) g1, .slice B ls.length d] := OBlk.alloc (OBlk.drew hb2) _
  have c3a : (w2.alloc (.cells #[.string ⟨l.toArray⟩] 9)).cell? ⟨xb, 3, none⟩ = some (.slice B ls.length d) := hb3a.cell' (j := 3) (u := .slice B ls.length d) rfl
  have hr3 := Rd.one w2.drew (.string ⟨l.toArray⟩) 9
  go_region_law
    (first
      | (refine step_append (by rfl) (.tmp 21) (.tmp 24) _ _ (by rfl) 0 9 i0 _ 1 16 Try.underlying53 hi hz0 hz1 hz2 rfl _ ls.length (strs ls) (by rfl) hw3 (.slice (some ⟨w2.heap.size, 0, none⟩) 1 1) 1 [.string ⟨l.toArray⟩] (by rfl) (Rd.src _ Try.underlying53 (by omega) hr3 (by simp [Value.oneCell'])) (by omega) (by omega) (Nat.zero_le _) ?_; intro v3 w3 ho3 hg3 hk3; have hb3 := hb3a.grown hg3 (fun e => hw3.ne_Tb hb3a (by decide) e); have c3' := hb3.cell' (j := 3) (u := .slice B ls.length d) rfl; have f3' := hb3.frozen (j := 3) (by simp); obtain ⟨V3, g3, rfl⟩ := Own.slice ho3)
      | fail)
  all_goals
    have hg4 := grownBy_setCell w3 ⟨xb, 3, none⟩ (.slice V3 (ls.length + 1) g3)
    have hb4 := hb3.set 3 (.slice V3 (ls.length + 1) g3)
    have ho4 : Own _ 0 9 1 (.slice V3 (ls.length + 1) g3) (ls.length + 1) (strs ls ++ [strV l]) := ho3.grown hg4 (fun g hg' e => ho3.ne_Tb hb3 (by decide) (by rw [hg', e]))
    have hstep : ∀ {b : Nat} {T : TypeId} {size n : Nat} {v : Value} {xs : List Value}, Own w2 b T size v n xs → T ≠ 9 → T ≠ 55 → Own (w3.setCell ⟨xb, 3, none⟩ (.slice V3 (ls.length + 1) g3)) b T size v n xs := fun {b T size n v xs} hv h1 h2 => by
      have e1 : Own (w2.drew.alloc (.cells #[.string ⟨l.toArray⟩] 9)) b T size v n xs := Own.alloc (Own.drew hv) _
      have e2 := e1.grown hg3 (fun g hg' e => by
        obtain ⟨cs', hb'⟩ := Own.oblk e1 hg'
        exact hw3.ne_Tb hb' (fun e => h1 e.symm) e)
      exact e2.grown hg4 (fun g hg' e => e2.ne_Tb hb3 h2 (by rw [hg', e]))
    have hc4 := hstep ho2 (by decide) (by decide)
    have ha4 : OwB _ 0 (.slice A1 l.length e1) l := hstep ha2 (by decide) (by decide)
    have hbb4 : OwB _ 0 (.slice B1 l.length f1) l := hstep hb2' (by decide) (by decide)
    have hz2 := hT2.size
    have hT4 : Turn (fun b => b = xb ∨ (Value.slice A cs.length c).ownBlock = some b ∨ (Value.slice B ls.length d).ownBlock = some b) w (w3.setCell ⟨xb, 3, none⟩ (.slice V3 (ls.length + 1) g3)) := ((hT2.drew.alloc _).grown hg3 (fun b e => .inl (.inr (.inr e)))).grown hg4 (fun b e => by cases e; exact .inl (.inl rfl))
    have hpa := HH.out.told (cv' := .slice V (cs.length + 1) g1) (wv' := .slice V3 (ls.length + 1) g3) (a := .slice A1 l.length e1) (l := l) HA.out hat hT4 hb4 hc4 ho4 (fun g e => by
        rcases HK.out with h1 | h1
        · exact .inl (h1 ▸ e)
        · right
          have := h1.symm.trans e
          injection this with this
          omega) (fun g e => by
        rcases hk3 with h1 | h1
        · exact .inl (h1 ▸ e)
        · right
          have := h1.symm.trans e
          injection this with this
          simp at this
          omega)
    obtain ⟨hp1, hp2, hp3⟩ := hpa
    have HP1 := Lib.hid hp1
    have HP2 := Lib.hid hp2
    have HP3 := Lib.hid hp3
    have q3 := run_B_string (OwB.rd ha4)
    have q4 := run_B_string (OwB.rd hbb4)
    clear hp1 hp2 hp3 hT4 hbb4 ha4 hc4 hstep ho4 hb4 hg4
    generalize w3.setCell ⟨xb, 3, none⟩ (.slice V3 (ls.length + 1) g3) = w4 at *
    go_wp2_with fail
    go_ret
    exact ⟨rfl, _, _, _, HP1.out, HP2.out, HP3.out⟩
end Go.Proofs.Ytipjngoenklioaa

-- The row's last step from 'Below' alone (the guide's small lemma 9).
namespace Go.Proofs.Ytipjngoenklioaa
open Go.RowKit Go.WideShapes Go.ChangeShapes
section
variable {H : Type} {enc : TypeId × Value → H} {P : Program}
theorem post_of_below {f : Func} {s : ChangeSpec} {apart fresh handsOn again : Bool} {W W' : World} {args : Array Value} {v : Value} {ds gs : List (DataW H)} {before pa pv : List MemPlace}
    (hW : DataW.Whole enc P f.params.toList s.vars apart W args.toList ds gs before)
    (hres : ∀ (b : Nat) (sp : Nat → Bool) (hd : Bool), DataW.TrodAll enc P W' b sp hd f.resultTypes.toList (v.resultList f.resultTypes.size) (s.fn H (ds ++ gs)).results [])
    (hargs : ∀ sp : Nat → Bool, (∀ p ∈ before, sp p.block = true) → DataW.TrodAll enc P W' 0 sp true f.params.toList args.toList (s.fn H (ds ++ gs)).args pa)
    (hvars : ∀ sp : Nat → Bool, (∀ p ∈ before, sp p.block = true) → DataW.TrodVars enc P W' sp s.vars (s.fn H (ds ++ gs)).vars pv)
    (hps : before = pa ++ pv) (hb : Below W.heap.size W W')
    (hok : ∀ (j : Nat) (t : TypeId) (r : Value), f.resultTypes[j]? = some t → (v.resultList f.resultTypes.size)[j]? = some r → Value.okWide P W' .any 0 t r) :
    s.post enc P f apart fresh handsOn again W args v W' := by
  have hlt : ∀ p ∈ before, p.block < W.heap.size := fun p hp => hW.lt p hp
  have hold : ∀ p ∈ before, (fun b => decide (b < W.heap.size)) p.block = true := fun p hp => by simpa using hlt p hp
  refine ⟨ds, gs, before, [], pa, pv, hW, hres _ _ _, hargs _ hold, hvars _ hold, World.keptBut_mono (fun p hp => ⟨hp, ?_⟩) (hb.frame (· ∈ before)), fun _ => ?_⟩
  · rw [hps, List.mem_append] at hp
    exact Or.inr hp
  · obtain ⟨_, _, _, _, _, hz, hn⟩ := hW
    refine ⟨hok, _, _, ([] ++ pa) ++ pv, ⟨[] ++ pa, pv, trodAll_append (hargs _ (fun _ _ => rfl)) (hres _ _ _), hvars _ (fun _ _ => rfl), rfl, ?_, ?_⟩, ?_⟩
    · intro b off hp
      have hin : MemPlace.cell b off ∈ before := by rw [hps]; simpa using hp
      rw [hb.frozen (hlt _ hin)]
      exact hz b off hin
    · intro ha
      have := hn ha
      rw [hps] at this
      simpa using this
    · intro p hp _
      rw [hps]
      simpa using hp
end
end Go.Proofs.Ytipjngoenklioaa

-- A law that returns true and changes nothing below: from its walk to the row's own form.
namespace Go.Proofs.Ytipjngoenklioaa
open Go.RowKit Go.WideShapes Go.ChangeShapes Go.Joins
section
variable {H : Type} {enc : TypeId × Value → H} {P : Program}
theorem trodAll_stays (hl : laidOutB P = true) {W W' : World} {sp' : Nat → Bool} : ∀ {ts : List TypeId} {vs : List Value} {ds : List (DataW H)} {ps : List MemPlace}, (ts.all fun t => P.readableRec t && decide (t < P.types.size)) = true →
    DataW.TrodAll enc P W 0 (fun _ => true) true ts vs ds ps → (∀ p ∈ ps, W.sameAt W' p) → (∀ p ∈ ps, sp' p.block = true) → DataW.TrodAll enc P W' 0 sp' true ts vs ds ps
  | [], [], [], _, _, h, _, _ => h
  | t :: ts, _ :: _, _ :: _, _, hr, ⟨p, q, h1, h2, e⟩, hk, hs => by
    simp only [List.all_cons, Bool.and_eq_true, decide_eq_true_eq] at hr
    obtain ⟨⟨hr1, hr2⟩, hr3⟩ := hr
    exact ⟨p, q, WideElems.Trod_stays hl hr1 hr2 h1 (fun x hx => hk x (by rw [e]; exact List.mem_append_left _ hx)) (fun x hx => hs x (by rw [e]; exact List.mem_append_left _ hx)),
      trodAll_stays hl hr3 h2 (fun x hx => hk x (by rw [e]; exact List.mem_append_right _ hx)) (fun x hx => hs x (by rw [e]; exact List.mem_append_right _ hx)), e⟩
theorem trodAll_len {w : World} {base : Nat} {spare : Nat → Bool} {held : Bool} : ∀ {ts : List TypeId} {vs : List Value} {ds : List (DataW H)} {ps : List MemPlace}, DataW.TrodAll enc P w base spare held ts vs ds ps → ds.length = ts.length
  | [], [], [], _, _ => rfl
  | _ :: _, _ :: _, _ :: _, _, ⟨_, _, _, h2, _⟩ => by simp [trodAll_len h2]
theorem law_post {fn : Func} {s : ChangeSpec} {tb : TypeId} {W W' : World} {args : Array Value} {ds gs : List (DataW H)} {before : List MemPlace} (hvars : s.vars = []) (hrt : fn.resultTypes = #[tb]) (htb : P.underlying tb = some .bool) (hl : laidOutB P = true)
    (hr : (fn.params.toList.all fun t => P.readableRec t && decide (t < P.types.size)) = true) (hs : ∀ ds : List (DataW H), ds.length = fn.params.size → s.fn H ds = { results := [.lit (.bool true)], args := ds })
    (hW : DataW.Whole enc P fn.params.toList s.vars false W args.toList ds gs before) (hb : Below W.heap.size W W') : s.post enc P fn false true false false W args (.bool true) W' := by
  have hW' := hW
  obtain ⟨p, q, hA, hV, rfl, hfz, hnd⟩ := hW
  rw [hvars] at hV
  obtain ⟨rfl, rfl⟩ := trodVars_none hV
  have hlen : ds.length = fn.params.size := by simpa using trodAll_len hA
  have hfn := hs ds hlen
  have hlt : ∀ x ∈ p, x.block < W.heap.size := fun x hx => hW'.lt x (List.mem_append_left _ hx)
  refine post_of_below (pa := p) (pv := []) hW' ?_ ?_ ?_ (by simp) hb (ok_one hrt rfl (okWide_bool_mk htb _))
  · intro b sp hd
    rw [List.append_nil, hfn, hrt]
    exact trodAll_cons_mk (shut_bool htb _) trodAll_mk0
  · intro sp hsp
    rw [List.append_nil, hfn]
    exact trodAll_stays hl hr hA (fun x hx => hb.same (hlt x hx)) (fun x hx => hsp x (List.mem_append_left _ hx))
  · intro sp _
    rw [List.append_nil, hfn, hvars]
    exact (rfl : DataW.TrodVars enc P W' sp [] [] [])
end
theorem law_lifts {H : Type} {enc : TypeId × Value → H} {C : Checked} {os : Os} {fno : FuncId} {fn : Func} {s : ChangeSpec} {conds : List PathCond} {tb : TypeId}
    (own : ownKnob C.prog.godebug = none) (started : os.Started) (noInit : C.prog.inits.idxOf? fno = none) (hfn : C.prog.funcs[fno]? = some fn)
    (witness : ∃ (w : World) (tape : Tape) (i : Input), w.os = os ∧ (w.forCall tape i).Shaped C.prog ∧ i.vars = [] ∧ Input.okWide C.prog (w.forCall tape i) .any w.heap.size fno i ∧
      s.pre6 enc C.prog fn conds false (w.forCall tape i).memory i.args ∧ ({} : Assume).holds C.prog (lone (Frame.enter C.prog fno i.args .normal) [] (w.forCall tape i)))
    (hvars : s.vars = []) (hrt : fn.resultTypes = #[tb]) (htb : C.prog.underlying tb = some .bool) (hl : laidOutB C.prog = true)
    (hr : (fn.params.toList.all fun t => C.prog.readableRec t && decide (t < C.prog.types.size)) = true) (hs : ∀ ds : List (DataW H), ds.length = fn.params.size → s.fn H ds = { results := [.lit (.bool true)], args := ds })
    (walk : ∀ (W : World) (base : Nat) (args : Array Value) (ds : List (DataW H)) (p : List MemPlace), (∀ (j : Nat) t v, fn.params[j]? = some t → args[j]? = some v → Value.okWide C.prog W .any base t v) →
      DataW.TrodAll enc C.prog W 0 (fun _ => true) true fn.params.toList args.toList ds p → (DataW.weightsEach C.prog fn.params.toList ds).all (· ≤ reachBytes) = true →
      Calls C.prog fno args W fun e W' => e = .returned (.bool true) ∧ Below W.heap.size W W') :
    ReturnsInHanded {} C os fno .any (s.pre6 enc C.prog fn conds false) (s.post enc C.prog fn false true false false) := by
  refine returnsInHanded_of_change_sized own started noInit hfn witness ?_
  intro W base args ds gs before hval hW _ hsz _
  have hW' := hW
  obtain ⟨p, q, hA, hV, _, _, _⟩ := hW
  rw [hvars] at hV
  obtain ⟨rfl, rfl⟩ := trodVars_none hV
  have hv : s.plain.varTypes C.prog = [] := by
    unfold ChangeSpec.plain DataSpec.varTypes
    simp [hvars]
  rw [hv, List.append_nil, List.append_nil] at hsz
  refine (walk W base args ds p hval hA hsz).mono fun e W' h => ?_
  obtain ⟨rfl, hb⟩ := h
  exact ⟨_, rfl, law_post hvars hrt htb hl hr hs hW' hb⟩
section
variable {H : Type} {enc : TypeId × Value → H} {W : World}
theorem cells_u8 : Try.prog.cellsOf 5 = 1 := by kernel_rfl
theorem bytes_u8 : Try.prog.bytesOf 5 = 1 := by kernel_rfl
set_option maxRecDepth 100000 in
/-- An argument of type []byte. -/
theorem open_bytes {base : Nat} {v : Value} {d : DataW H} {p : List MemPlace} {ts : List TypeId} {ds : List (DataW H)} {j : Nat} (hv : Value.okWide Try.prog W .any base 28 v) (h : DataW.Trod enc Try.prog W 0 (fun _ => true) true 28 v d p)
    (hsz : (DataW.weightsEach Try.prog ts ds).all (· ≤ reachBytes) = true) (ht : ts[j]? = some 28) (hd : ds[j]? = some d) :
    ∃ l : List UInt8, RdB W v l ∧ l.length ≤ 140737488351232 := by
  obtain ⟨a0, len, cap, rfl⟩ := okWide_slice Try.underlying28 hv
  obtain ⟨fuel, hf⟩ := h
  rcases open_ints Try.underlying28 Try.underlying5 cells_u8 hf with ⟨hcs, _⟩ | ⟨a, len', cap', zs, hcs, _, hl, hm, hz, hx, hcell, hwz⟩
  · simp [Value.cells] at hcs
    obtain ⟨rfl, rfl, rfl⟩ := hcs
    exact ⟨[], RdB.nil, by simp⟩
  · simp [Value.cells] at hcs
    obtain ⟨rfl, rfl, rfl⟩ := hcs
    simp only [if_true] at hz
    simp only [Prod.mk.injEq] at hx
    obtain ⟨rfl, _⟩ := hx
    have hs := sized_slice hsz ht hd Try.underlying28
    rw [bytes_u8] at hs
    simp only [lits, List.length_map, List.length_take, List.length_drop, reachBytes] at hs
    refine ⟨(zs.take len).map fun z => UInt8.ofNat z.toNat, ?_, by simp; omega⟩
    have hlen : ((zs.take len).map fun z => UInt8.ofNat z.toNat).length = len := by simp; omega
    refine ⟨some a, cap, by rw [hlen], by rw [hlen]; exact hl, hm, fun j hj => ⟨a, rfl, ?_⟩⟩
    rw [hlen] at hj
    rw [hcell j (by omega)]
    have hjz : j < zs.length := by omega
    have hmem : zs[j] ∈ zs := List.getElem_mem hjz
    have hw := hwz _ hmem
    have hg : zs.getD j 0 = zs[j] := by simp [List.getD, hjz]
    rw [hg]
    simp [Lit.wf, IntKind.min, IntKind.max, IntKind.signed, IntKind.bits] at hw
    simp
    omega
end
end Go.Proofs.Ytipjngoenklioaa

-- Readings of bytes and of numbers, one level down: for fields and elements.
namespace Go.Proofs.Ytipjngoenklioaa
open Go.RowKit Go.WideShapes Go.ChangeShapes Go.Deep
section
variable {H : Type} {enc : TypeId × Value → H} {W : World}
theorem cells_int : Try.prog.cellsOf 3 = 1 := by kernel_rfl
theorem bytes_int : Try.prog.bytesOf 3 = 8 := by kernel_rfl
/-- A field, or an element, of type []byte. -/
theorem trod_bytes {fuel : Nat} {cs : List Value} {x : DataW H × List MemPlace} (h : DataW.trod enc Try.prog W 0 (fun _ => true) true fuel 28 cs = some x) :
    ∃ (v : Value) (l : List UInt8), cs = [v] ∧ RdB W v l ∧ ((x.1 = .nil ∧ l = []) ∨ ∃ e s, x.1 = .slice e s ∧ l.length ≤ e.length + s.length) := by
  rcases open_ints Try.underlying28 Try.underlying5 cells_u8 h with ⟨rfl, rfl⟩ | ⟨a, len, cap, zs, rfl, _, hl, hm, hz, rfl, hcell, hwz⟩
  · exact ⟨_, [], rfl, RdB.nil, .inl ⟨rfl, rfl⟩⟩
  · simp only [if_true] at hz
    have hlen : ((zs.take len).map fun z => UInt8.ofNat z.toNat).length = len := by simp; omega
    refine ⟨_, (zs.take len).map fun z => UInt8.ofNat z.toNat, rfl, ⟨some a, cap, by rw [hlen], by rw [hlen]; exact hl, hm, fun j hj => ⟨a, rfl, ?_⟩⟩, .inr ⟨_, _, rfl, by rw [hlen]; simp [lits]; omega⟩⟩
    rw [hlen] at hj
    rw [hcell j (by omega)]
    have hjz : j < zs.length := by omega
    have hw := hwz _ (List.getElem_mem hjz)
    have hg : zs.getD j 0 = zs[j] := by simp [List.getD, hjz]
    rw [hg]
    simp [Lit.wf, IntKind.min, IntKind.max, IntKind.signed, IntKind.bits] at hw
    simp
    omega
/-- A field of type []int: n elements, the numbers ks. -/
theorem trod_ints {fuel : Nat} {cs : List Value} {x : DataW H × List MemPlace} (h : DataW.trod enc Try.prog W 0 (fun _ => true) true fuel 29 cs = some x) :
    ∃ (v : Value) (ks : List Int), cs = [v] ∧ Rd W 1 v ks.length (ks.map (Value.int .i64)) ∧ (∀ k ∈ ks, -9223372036854775808 ≤ k ∧ k ≤ 9223372036854775807) ∧ ((x.1 = .nil ∧ ks = []) ∨ ∃ e s, x.1 = .slice e s ∧ ks.length ≤ e.length + s.length) := by
  rcases open_ints Try.underlying29 Try.underlying3 cells_int h with ⟨rfl, rfl⟩ | ⟨a, len, cap, zs, rfl, _, hl, hm, hz, rfl, hcell, hwz⟩
  · exact ⟨_, [], rfl, Rd.nil, by simp, .inl ⟨rfl, rfl⟩⟩
  · simp only [if_true] at hz
    have hlen : (zs.take len).length = len := by simp; omega
    refine ⟨_, zs.take len, rfl, ⟨by simp, some a, cap, by rw [hlen], by rw [hlen]; exact hl, hm, fun j u hj => ⟨a, rfl, ?_⟩⟩, fun k hk => ?_, .inr ⟨_, _, rfl, by rw [hlen]; simp [lits]; omega⟩⟩
    · have hjl : j < len := by
        have := (List.getElem?_eq_some_iff.1 hj).1
        simp at this; omega
      have hjz : j < zs.length := by omega
      rw [hcell j hjz]
      have hg : zs.getD j 0 = zs[j] := by simp [List.getD, hjz]
      rw [hg]
      rw [List.getElem?_map, List.getElem?_take, if_pos hjl, List.getElem?_eq_getElem hjz] at hj
      exact hj
    · have := hwz k (List.mem_of_mem_take hk)
      simp [Lit.wf, IntKind.min, IntKind.max, IntKind.signed, IntKind.bits] at this
      exact this
theorem trod_i64 {fuel : Nat} {cs : List Value} {x : DataW H × List MemPlace} (h : DataW.trod enc Try.prog W 0 (fun _ => true) true fuel 3 cs = some x) : ∃ n : Int, cs = [.int .i64 n] ∧ -9223372036854775808 ≤ n ∧ n ≤ 9223372036854775807 := by
  obtain ⟨n, rfl, _, hw⟩ := DataW.trod_int Try.underlying3 h
  simp [Lit.wf, IntKind.min, IntKind.max, IntKind.signed, IntKind.bits] at hw
  exact ⟨n, rfl, hw⟩
theorem trod_u8 {fuel : Nat} {cs : List Value} {x : DataW H × List MemPlace} (h : DataW.trod enc Try.prog W 0 (fun _ => true) true fuel 5 cs = some x) : ∃ b : UInt8, cs = [.int .u8 (b.toNat : Int)] := by
  obtain ⟨n, rfl, _, hw⟩ := DataW.trod_int Try.underlying5 h
  simp [Lit.wf, IntKind.min, IntKind.max, IntKind.signed, IntKind.bits] at hw
  refine ⟨UInt8.ofNat n.toNat, ?_⟩
  congr 1
  simp; omega
theorem weightsAll_in {P : Program} {e : TypeId} : ∀ {l : List (DataW H)} {d : DataW H}, d ∈ l → ∀ n ∈ d.weights P e, n ∈ DataW.weightsAll P e l
  | [], _, h => by cases h
  | x :: r, d, h => by
    intro n hn
    rw [DataW.weightsAll, List.mem_append]
    rcases List.mem_cons.1 h with rfl | h
    · exact .inl hn
    · exact .inr (weightsAll_in h n hn)
end
end Go.Proofs.Ytipjngoenklioaa

-- Scripts over devices (espalierlaw03.Op): an argument of type []Op.
namespace Go.Proofs.Ytipjngoenklioaa
open Go.RowKit Go.WideShapes Go.ChangeShapes Go.Deep
structure OpV where
  kind : Int
  on : Int
  n : Int
  byte : UInt8
  dv : Value
  data : List UInt8
  kv : Value
  keep : List Int
  torn : Int
  at_ : Int
instance : Inhabited OpV := ⟨⟨0, 0, 0, 0, .slice none 0 0, [], .slice none 0 0, [], 0, 0⟩⟩
def OpV.cells (o : OpV) : List Value := [.int .i64 o.kind, .int .i64 o.on, .int .i64 o.n, .int .u8 (o.byte.toNat : Int), o.dv, o.kv, .int .i64 o.torn, .int .i64 o.at_]
def i64r (n : Int) : Prop := -9223372036854775808 ≤ n ∧ n ≤ 9223372036854775807
structure OpV.ok (W : World) (o : OpV) : Prop where
  d : RdB W o.dv o.data
  k : RdI W o.kv o.keep
  kr : ∀ x ∈ o.keep, i64r x
  r0 : i64r o.kind
  r1 : i64r o.on
  r2 : i64r o.n
  r3 : i64r o.torn
  r4 : i64r o.at_
structure RdOps (W : World) (v : Value) (l : List OpV) : Prop where
  form : ∃ A c, v = .slice A l.length c ∧ l.length ≤ c ∧ c ≤ maxLen ∧ ∀ i (h : i < l.length), ∃ ad, A = some ad ∧ ∀ r u, l[i].cells[r]? = some u → W.cell? (ad.add (i * 8 + r)) = some u
  ok : ∀ o ∈ l, o.ok W
section
variable {H : Type} {enc : TypeId × Value → H} {W : World}
theorem cells_Op : Try.prog.cellsOf 33 = 8 := by kernel_rfl
theorem bytes_Op : Try.prog.bytesOf 33 = 96 := by kernel_rfl
theorem open_op {fuel : Nat} {cs : List Value} {x : DataW H × List MemPlace} (h : DataW.trod enc Try.prog W 0 (fun _ => true) true fuel 33 cs = some x) :
    ∃ o : OpV, cs = o.cells ∧ o.ok W ∧ ∃ y0 y1 y2 y3 y4 y5 y6 y7, x.1 = .agg [y0, y1, y2, y3, y4, .agg [y5, y6, y7]] ∧ ((y4 = .nil ∧ o.data = []) ∨ ∃ e s, y4 = .slice e s ∧ o.data.length ≤ e.length + s.length) ∧ ((y5 = .nil ∧ o.keep = []) ∨ ∃ e s, y5 = .slice e s ∧ o.keep.length ≤ e.length + s.length) := by
  obtain ⟨xs, n, _, rfl, hcl, hxl, hg⟩ := DataW.trod_struct Try.underlying33 h
  rw [cells_Op] at hcl
  match cs, hcl with
  | [c0, c1, c2, c3, c4, c5, c6, c7], _ =>
    match xs, hxl with
    | [z0, z1, z2, z3, z4, z5], _ =>
      have g0 := hg 0 _ rfl
      have g1 := hg 1 _ rfl
      have g2 := hg 2 _ rfl
      have g3 := hg 3 _ rfl
      have g4 := hg 4 _ rfl
      have g5 := hg 5 _ rfl
      obtain ⟨k, e0, r0⟩ := trod_i64 (cs := [c0]) g0
      obtain ⟨on, e1, r1⟩ := trod_i64 (cs := [c1]) g1
      obtain ⟨nn, e2, r2⟩ := trod_i64 (cs := [c2]) g2
      obtain ⟨b, e3⟩ := trod_u8 (cs := [c3]) g3
      obtain ⟨dv, data, e4, hd, w4⟩ := trod_bytes (cs := [c4]) g4
      obtain ⟨ys, m, _, e5, _, hyl, hh⟩ := DataW.trod_struct (cs := [c5, c6, c7]) Try.underlying31 g5
      match ys, hyl with
      | [q0, q1, q2], _ =>
        have f0 := hh 0 _ rfl
        have f1 := hh 1 _ rfl
        have f2 := hh 2 _ rfl
        obtain ⟨kv, keep, e6, hk, kr, w6⟩ := trod_ints (cs := [c5]) f0
        obtain ⟨tn, e7, r3⟩ := trod_i64 (cs := [c6]) f1
        obtain ⟨at_, e8, r4⟩ := trod_i64 (cs := [c7]) f2
        injection e0 with e0
        injection e1 with e1
        injection e2 with e2
        injection e3 with e3
        injection e4 with e4
        injection e6 with e6
        injection e7 with e7
        injection e8 with e8
        subst e0 e1 e2 e3 e4 e6 e7 e8
        refine ⟨⟨k, on, nn, b, c4, data, c5, keep, tn, at_⟩, rfl, ⟨hd, hk, kr, r0, r1, r2, r3, r4⟩, z0.1, z1.1, z2.1, z3.1, z4.1, q0.1, q1.1, q2.1, ?_, w4, w6⟩
        rw [e5]
        rfl
theorem open_ops {base : Nat} {v : Value} {d : DataW H} {p : List MemPlace} {ts : List TypeId} {ds : List (DataW H)} {j : Nat} (hv : Value.okWide Try.prog W .any base 23 v) (h : DataW.Trod enc Try.prog W 0 (fun _ => true) true 23 v d p)
    (hsz : (DataW.weightsEach Try.prog ts ds).all (· ≤ reachBytes) = true) (ht : ts[j]? = some 23) (hd : ds[j]? = some d) :
    ∃ l : List OpV, RdOps W v l ∧ l.length * 96 ≤ 140737488351232 ∧ ∀ o ∈ l, o.data.length ≤ 140737488351232 ∧ o.keep.length * 8 ≤ 140737488351232 := by
  obtain ⟨a0, len, cap, rfl⟩ := okWide_slice Try.underlying23 hv
  obtain ⟨fuel, hf⟩ := h
  rcases open_slice Try.underlying23 hf with ⟨hcs, _⟩ | ⟨a, len', cap', m, n, D, Pl, hcs, _, hl, hm, hmm, hx, hi⟩
  · simp [Value.cells] at hcs
    obtain ⟨rfl, rfl, rfl⟩ := hcs
    exact ⟨[], ⟨⟨none, 0, rfl, by simp, by simp, fun i hi => by simp at hi⟩, by simp⟩, by simp, by simp⟩
  · simp [Value.cells] at hcs
    obtain ⟨rfl, rfl, rfl⟩ := hcs
    simp only [if_true] at hmm
    subst hmm
    simp only [Prod.mk.injEq] at hx
    obtain ⟨rfl, _⟩ := hx
    have key : ∀ i, i < m → ∃ o : OpV, (∀ r u, o.cells[r]? = some u → W.cell? (a.add (i * 8 + r)) = some u) ∧ o.ok W ∧ ∃ y0 y1 y2 y3 y4 y5 y6 y7, D i = .agg [y0, y1, y2, y3, y4, .agg [y5, y6, y7]] ∧ ((y4 = .nil ∧ o.data = []) ∨ ∃ e s, y4 = .slice e s ∧ o.data.length ≤ e.length + s.length) ∧ ((y5 = .nil ∧ o.keep = []) ∨ ∃ e s, y5 = .slice e s ∧ o.keep.length ≤ e.length + s.length) := fun i him => by
      obtain ⟨cs', hc, ht'⟩ := hi i him
      obtain ⟨o, rfl, hok, hy⟩ := open_op ht'
      refine ⟨o, fun r u hu => ?_, hok, hy⟩
      obtain ⟨_, hcl, hat⟩ := World.cells?_some hc
      have hr : r < Try.prog.cellsOf 33 := by
        have := (List.getElem?_eq_some_iff.1 hu).1
        rw [← hcl]; exact this
      have := hat r hr
      rw [cells_Op] at this
      rw [← add_of_add, this, hu]
    obtain ⟨f, hf'⟩ := choose_lt key
    refine ⟨(List.range len).map f, ⟨⟨some a, m, by simp, by simpa using hl, hm, fun i hi' => ⟨a, rfl, ?_⟩⟩, ?_⟩, ?_, ?_⟩
    · have hil : i < len := by simpa using hi'
      simpa using (hf' i (by omega)).1
    · intro o ho
      obtain ⟨i, hi', rfl⟩ := List.mem_map.1 ho
      have := List.mem_range.1 hi'
      exact (hf' i (by omega)).2.1
    · have hs := sized_slice hsz ht hd Try.underlying23
      rw [bytes_Op] at hs
      simp only [List.length_map, List.length_range, reachBytes] at hs
      simp only [List.length_map, List.length_range]
      omega
    · intro o ho
      obtain ⟨i, hi', rfl⟩ := List.mem_map.1 ho
      have hil := List.mem_range.1 hi'
      obtain ⟨_, _, y0, y1, y2, y3, y4, y5, y6, y7, hD, w4, w5⟩ := hf' i (by omega)
      have hin : ∀ k ∈ (D i).weights Try.prog 33, k ≤ reachBytes := fun k hk => by
        have h1 := weightsAll_in (P := Try.prog) (e := 33) (List.mem_map.2 ⟨i, hi', rfl⟩ : D i ∈ (List.range len).map D) k hk
        have h2 := List.all_eq_true.1 hsz k (DataW.weights_mem_each ht hd _ (by
          simp only [DataW.weights, Try.underlying23]
          exact List.mem_cons.2 (.inr (List.mem_append.2 (.inl h1)))))
        simpa using h2
      rw [hD] at hin
      constructor
      · rcases w4 with ⟨_, e⟩ | ⟨e, s, rfl, hle⟩
        · rw [e]; simp
        · have := hin ((e.length + s.length) * Try.prog.bytesOf 5) (by
            simp only [DataW.weights, Try.underlying33]
            refine DataW.weights_mem_each (j := 4) rfl rfl _ ?_
            simp only [DataW.weights, Try.underlying28]
            exact List.mem_cons.2 (.inl rfl))
          rw [bytes_u8] at this
          simp only [reachBytes] at this
          omega
      · rcases w5 with ⟨_, e⟩ | ⟨e, s, rfl, hle⟩
        · rw [e]; simp
        · have := hin ((e.length + s.length) * Try.prog.bytesOf 3) (by
            simp only [DataW.weights, Try.underlying33]
            refine DataW.weights_mem_each (j := 5) rfl rfl _ ?_
            simp only [DataW.weights, Try.underlying31]
            refine DataW.weights_mem_each (j := 0) rfl rfl _ ?_
            simp only [DataW.weights, Try.underlying29]
            exact List.mem_cons.2 (.inl rfl))
          rw [bytes_int] at this
          simp only [reachBytes] at this
          omega
end
end Go.Proofs.Ytipjngoenklioaa
