/- Texts joined: A region that draws its order, whose head only reads and calls quietly, and whos; plate.falls; plate.New, Load, Safe, Crash; plate.New (refused), Load, Safe, Counts, Crash, Arm; plate.Load, Arm, Read; plate.Read -/
import Derived.Test.YtipjngoenklioaaG2
import Derived.StillTail
import Derived.Deep.Quiet
import Derived.Carry
-- A region that draws its order, whose head only reads and calls quietly, and whose tail stands in one forced order: the head is walked once in the order of the text, then the tail.
namespace Go.Proofs.Ytipjngoenklioaa
section
variable {P : Program} {ops : Array Oper} {md : Region.Mode} {C : World → Prop}
/-- Whatever order is picked for the head (places below n); then L. -/
def headAny (P : Program) (md : Region.Mode) (ops : Array Oper) (C : World → Prop) (n : Nat) (L : Array Bool → Act → Prop) : Nat → Array Bool → Act → Prop
  | 0, listed, a => L listed a
  | f + 1, listed, a => Region.ready md ops listed ≠ [] ∧ ∀ i ∈ Region.ready md ops listed, i < n ∧ qOp P ops C i (headAny P md ops C n L f (listed.setIfInBounds i true)) a
theorem any_of_headAny {n g : Nat} {L : Array Bool → Act → Prop} {Q' : Exit → Act → World → Prop} (hL : ∀ listed a w, C w → L listed a → wpAny P md ops Q' g listed a w) :
    ∀ (f : Nat) (listed : Array Bool) (a : Act) (w : World), C w → headAny P md ops C n L f listed a → wpAny P md ops Q' (f + g) listed a w
  | 0, listed, a, w, hw, h => by rw [Nat.zero_add]; exact hL _ _ _ hw h
  | f + 1, listed, a, w, hw, h => by
    rw [show f + 1 + g = (f + g) + 1 by omega]
    exact ⟨fun e => absurd e h.1, fun i hi => wpOp_of_qOp hw (fun a' w' hw' k => any_of_headAny hL f _ a' w' hw' k) (h.2 i hi).2⟩
theorem headAny_first {n i : Nat} {oi : Oper} {v : Value} {L : Array Bool → Act → Prop} (hi : ops[i]? = some oi) (hsel : ∀ (j : Nat) (o : Oper) cs b, ops[j]? = some o → o.op ≠ .select cs b)
    (hs : Region.sinkB md ops n = true) (hc : Region.chainB md ops n = true) (hn : n < ops.size) (hin : i < n)
    (hdone : ∀ listed a, L listed a → ∀ j ∈ Region.ready md ops listed, n ≤ j) :
    ∀ (f : Nat) (listed : Array Bool) (a : Act), HeadInv md ops n listed →
      (∀ j oj, ops[j]? = some oj → j ≠ i → listed.getD j true = false → (∀ e ∈ oj.after, Region.binds md e = true → e.on ≠ i) → oi.apart ops oj = true) →
      i ∈ Region.ready md ops listed → YieldsIn P ops C oi v a →
      headAny P md ops C n L f (listed.setIfInBounds i true) (a.put oi.dst v) → headAny P md ops C n L (f + 1) listed a
  | 0, listed, a, inv, _, hr, hy, H => by
    have hun := (mem_ready.1 hr).1
    refine ⟨fun e => (by rw [e] at hr; cases hr), fun j hj => ?_⟩
    have hjn : j < n := (Nat.lt_or_ge j n).elim id fun h => absurd hj (tail_waits hs hc hn inv _ i rfl hin hun j h)
    refine ⟨hjn, ?_⟩
    by_cases e : j = i
    · subst e; exact hy.qOp hi H
    · have := hdone _ _ H j (ready_mono hj e); omega
  | f + 1, listed, a, inv, hfree, hr, hy, H => by
    have hun := (mem_ready.1 hr).1
    refine ⟨fun e => (by rw [e] at hr; cases hr), fun j hj => ?_⟩
    have hjn : j < n := (Nat.lt_or_ge j n).elim id fun h => absurd hj (tail_waits hs hc hn inv _ i rfl hin hun j h)
    refine ⟨hjn, ?_⟩
    by_cases e : j = i
    · subst e; exact hy.qOp hi H
    obtain ⟨hjun, oj, hoj, hall⟩ := mem_ready.1 hj
    have hnot : ∀ e ∈ oj.after, Region.binds md e = true → e.on ≠ i := fun e he hb heq => by
      have := hall e he hb
      rw [heq, getD_both hun] at this
      cases this
    have h2 := qOp_put hoj (hfree j oj hoj e hjun hnot) (fun cs b => hsel i oi cs b hi) (fun cs b => hsel j oj cs b hoj) hy (H.2 j (ready_mono hj e)).2
    refine qOp_mono (fun a' h3 => ?_) h2
    refine headAny_first hi hsel hs hc hn hin hdone f _ a' (inv.set hj hjn) ?_ (ready_mono hr (Ne.symm e)) h3.1 ?_
    · intro k ok hk hki hku hno
      refine hfree k ok hk hki ?_ hno
      by_cases hjk : j = k
      · subst hjk; exact hjun
      · rwa [getD_set_ne true hjk] at hku
    · rw [Array.setIfInBounds_comm _ _ e]
      exact h3.2
theorem headAny_lex {n g : Nat} {Lq : Act → Prop} (hsel : Region.noSelect ops = true) (hs : Region.sinkB md ops n = true) (hc : Region.chainB md ops n = true) (hn : n < ops.size) :
    ∀ (l : List Oper) (k : Nat) (listed : Array Bool) (a : Act), (∀ j, j < l.length → l[j]? = ops[k + j]?) → k + l.length = n → HeadInv md ops n listed →
    Region.lexHead md ops g l.length k listed = true → wpQuiet P ops C Lq l a →
    headAny P md ops C n (fun listed' a' => Region.seqB md ops g n listed' = true ∧ Lq a') l.length listed a
  | [], k, listed, a, _, hk, _, hB, h => by
    obtain rfl : k = n := by simpa using hk
    exact ⟨by simpa [Region.lexHead] using hB, h⟩
  | o :: l, k, listed, a, hl, hk, inv, hB, h => by
    have h0 : ops[k]? = some o := by simpa using (hl 0 (by simp)).symm
    simp only [List.length_cons, Region.lexHead, Bool.and_eq_true] at hB
    obtain ⟨⟨hr, hf⟩, hB'⟩ := hB
    have hkn : k < n := by simp only [List.length_cons] at hk; omega
    have hr' : k ∈ Region.ready md ops listed := by simpa using hr
    have hst : qOp P ops C k (wpQuiet P ops C Lq l) a := by unfold qOp; simp only [h0]; exact h
    obtain ⟨v, hy, hK⟩ := yieldsIn_of_qOp h0 hst
    exact headAny_first h0 (Region.noSelect_spec hsel) hs hc hn hkn (fun listed' a' hL => seqB_ready hL.1) l.length listed a inv (Region.free_spec h0 hf) hr' hy
      (headAny_lex hsel hs hc hn l (k + 1) _ _ (fun j hj => by have := hl (j + 1) (by simp; omega); simpa [Nat.add_assoc, Nat.add_comm 1 j] using this) (by simp only [List.length_cons] at hk; omega) (inv.set hr' hkn) hB' hK)
/-- The head is walked once, from any world of the class; the tail in its order. -/
theorem wp_region_qtail {id : Nat} {Q : Exit → Act → World → Prop} {a : Act} {w : World} {l : List Oper} (n : Nat) (C : World → Prop) (hC : C w.drew) (hm : P.follows .mixedOrders = true) (hB : Region.lexTailB .any l.toArray n = true)
    (h : wpQuiet P l.toArray C (fun a' => ∀ w', C w' → wpList P l.toArray Q (l.drop n) a' w') (l.take n) a) : (Code.region id l.toArray true).wp P Q a w := by
  simp only [Region.lexTailB, Bool.and_eq_true, decide_eq_true_eq] at hB
  obtain ⟨⟨⟨⟨hsel, hn⟩, hs⟩, hc⟩, hlex⟩ := hB
  have hn' : n < l.length := by simpa using hn
  have htl : (l.take n).length = n := by simp; omega
  have hdl : (l.drop n).length = l.toArray.size - n := by simp
  have inv0 : HeadInv .any l.toArray n (Array.replicate l.toArray.size false) :=
    ⟨by simp, fun j oj _ hl => (by rw [getD_replicate_false] at hl; cases hl), fun t _ ht => getD_in (by simpa using ht) (getD_replicate_false _ _)⟩
  have H := headAny_lex (md := .any) (g := l.toArray.size - n) hsel hs hc hn (l.take n) 0 _ a (fun j hj => by
    have hj' : j < n := by rw [htl] at hj; exact hj
    simp [hj']) (by simpa using htl) inv0 (by rw [htl]; exact hlex) h
  refine wp_region_any hm ?_
  have := any_of_headAny (Q' := Q) (g := l.toArray.size - n) (fun listed a' w' hw' hL => by
    have := wpAny_of_seq (md := .any) (Q' := Q) (l.drop n) n listed a' w' (fun j => by simp [List.getElem?_drop]) (by rw [hdl]; exact hL.1) (hL.2 w' hw')
    rwa [hdl] at this) _ _ _ _ hC H
  rw [htl, show n + (l.toArray.size - n) = l.toArray.size by omega] at this
  exact this
/-- .. at the class of worlds after some draws. -/
theorem wp_region_dtail {id : Nat} {Q : Exit → Act → World → Prop} {a : Act} {w : World} {l : List Oper} (n : Nat) (hm : P.follows .mixedOrders = true) (hB : Region.lexTailB .any l.toArray n = true)
    (h : wpQuiet P l.toArray (fun w' => ∃ k, w' = w.drewN k) (fun a' => ∀ w', (∃ k, w' = w.drewN k) → wpList P l.toArray Q (l.drop n) a' w') (l.take n) a) : (Code.region id l.toArray true).wp P Q a w :=
  wp_region_qtail n _ ⟨1, rfl⟩ hm hB h
end
end Go.Proofs.Ytipjngoenklioaa

-- plate.falls: the walk.
namespace Go.Proofs.Ytipjngoenklioaa
open Go.RowKit
section
variable {w w' : World} {F : Nat → Prop} {r : Raw} {S : PS}
/-- The safe bytes are written. -/
theorem PlRaw.sb_write {pg' : List (List UInt8)} (h : PlRaw w F r S) (hg : w.grownBy w' (some r.sb)) (hb : OBlk w' r.sb 5 (bvs pg'.flatten)) (hl : pg'.length = S.np) (he : ∀ l ∈ pg', l.length = S.page) : PlRaw w' F r { S with pg := pg' } :=
  { ok := { h.ok with pl := hl, pe := he }
    blk := h.blk.grown hg (fun e => h.safe.ne h.blk (by decide) (Option.some.inj e).symm)
    safe := hb
    loose := h.loose.grown hg (fun g hg' e => h.loose.ne_T h.safe (by decide) (by rw [hg', e]))
    dlen := h.dlen
    data := fun i hi v hv => ⟨Own.grown (h.data i hi v hv).1 hg (fun g hg' e => ((h.data i hi v hv).2 g hg').2 (Option.some.inj e)), (h.data i hi v hv).2⟩
    map := h.map.heap (hg.block _ h.map.lt (fun e => h.map.ne h.safe (Option.some.inj e)))
    keep := h.keep.grown hg (fun g hg' e => h.keep.ne_T h.safe (by decide) (by rw [hg', e]))
    fp := h.fp, fs := h.fs, fm := h.fm, fl := h.fl, fk := h.fk, lt := fun k hk => Nat.lt_of_lt_of_le (h.lt k hk) hg.size }
theorem RdI.grown {v : Value} {ks : List Int} {row : Option Nat} (h : RdI w v ks) (hg : w.grownBy w' row) (hne : ∀ A n c, v = .slice (some A) n c → 0 < n → row ≠ some A.block) : RdI w' v ks := by
  obtain ⟨h0, A, c, rfl, h1, h2, h3⟩ := h
  refine ⟨h0, A, c, rfl, h1, h2, fun j u hj => ?_⟩
  obtain ⟨ad, rfl, hc⟩ := h3 j u hj
  refine ⟨ad, rfl, hg.cell hc ?_⟩
  rw [block_of_add]
  have h0 : 0 < ks.length := by
    have := (List.getElem?_eq_some_iff.1 hj).1
    simp [ivs] at this; omega
  exact fun e => hne ad _ _ rfl h0 e.symm
end
theorem RdI.below {w w' : World} {v : Value} {ks : List Int} (h : RdI w v ks) (hb : Below w.heap.size w w') : RdI w' v ks := Rd.below h hb (Nat.le_refl _)
theorem RdI.drew {w : World} {v : Value} {ks : List Int} (h : RdI w v ks) : RdI w.drew v ks := h
def KeepOff (vk : Value) (sb : Nat) : Prop := ∀ A n c, vk = .slice (some A) n c → 0 < n → A.block ≠ sb
def PS.fellPg (S : PS) (ks : List Int) (torn at_ : Int) (n : Nat) : PS := { S with pg := fallN S.page ks torn at_ S.wild S.pg n }
def PS.fell (S : PS) (ks : List Int) (torn at_ : Int) : PS := { S with pg := fallN S.page ks torn at_ S.wild S.pg S.wild.length, wild := [], down := true, acts := -1 }
def fallV (vk : Value) (torn at_ : Int) : Value := .agg #[vk, .int .i64 torn, .int .i64 at_]
/-- What the i-th loose write is, in memory. -/
theorem PlRaw.entry {w : World} {F : Nat → Prop} {r : Raw} {S : PS} (h : PlRaw w F r S) {i : Nat} (hi : i < S.wild.length) : ∃ lb c db cd p l, S.page ≤ cd ∧ cd ≤ 9223372036854775807 ∧ S.wild[i]? = some (p, l) ∧ r.vl = .slice (some ⟨lb, 0, none⟩) S.wild.length c ∧ r.dv[i]? = some (.slice (some ⟨db, 0, none⟩) S.page cd) ∧
    w.cell? ⟨lb, i * 2, none⟩ = some (.int .i64 (p : Int)) ∧ w.cell? ⟨lb, i * 2 + 1, none⟩ = some (.slice (some ⟨db, 0, none⟩) S.page cd) ∧ OwB w 0 (.slice (some ⟨db, 0, none⟩) S.page cd) l ∧ p < S.np ∧ l.length = S.page := by
  have hw := h.ok.we _ (List.getElem_mem hi)
  obtain ⟨lb, c, hv⟩ : ∃ lb c, r.vl = .slice (some ⟨lb, 0, none⟩) S.wild.length c := by
    rcases h.loose.form with ⟨_, h0⟩ | ⟨g, c, hv, _⟩
    · omega
    · exact ⟨g, c, hv⟩
  have hd : i < r.dv.length := by rw [h.dlen]; exact hi
  have hdv : r.dv[i]? = some r.dv[i] := List.getElem?_eq_getElem hd
  have hdat := (h.data i hi _ hdv).1
  obtain ⟨db, cd, hs, hcd1, hcd2⟩ : ∃ db cd, r.dv[i] = .slice (some ⟨db, 0, none⟩) S.page cd ∧ S.page ≤ cd ∧ cd ≤ 9223372036854775807 := by
    have hp1 := h.ok.p1
    rcases Own.form hdat with ⟨_, h0⟩ | ⟨g, cap, hv, _, _, h3, h4⟩
    · rw [hw.2] at h0; omega
    · rw [hw.2] at hv h3
      simp only [maxLen] at h4
      exact ⟨g, cap, hv, h3, h4⟩
  have hl := h.loose
  rw [hv] at hl
  rw [hs] at hdv hdat
  exact ⟨lb, c, db, cd, S.wild[i].1, S.wild[i].2, hcd1, hcd2, List.getElem?_eq_getElem hi, hv, hdv, hl.cells _ _ (wcells_page _ _ _ h.dlen hi), hl.cells _ _ ((wcells_data _ _ _ h.dlen hi).trans hdv), hdat, hw.1, hw.2⟩
theorem PlRaw.wlen {w : World} {F : Nat → Prop} {r : Raw} {S : PS} (h : PlRaw w F r S) : S.wild.length ≤ 9223372036854775807 := by
  rcases h.loose.form with ⟨_, h0⟩ | ⟨g, cap, _, _, _, h3, h4⟩
  · omega
  · simp only [maxLen] at h4; omega
theorem PlRaw.entryF {w : World} {F : Nat → Prop} {r : Raw} {S : PS} {ks : List Int} {torn at_ : Int} {j : Nat} (h : PlRaw w F r (S.fellPg ks torn at_ j)) {i : Nat} (hi : i < S.wild.length) : ∃ lb c db cd p l, S.page ≤ cd ∧ cd ≤ 9223372036854775807 ∧ S.wild[i]? = some (p, l) ∧ r.vl = .slice (some ⟨lb, 0, none⟩) S.wild.length c ∧ r.dv[i]? = some (.slice (some ⟨db, 0, none⟩) S.page cd) ∧
    w.cell? ⟨lb, i * 2, none⟩ = some (.int .i64 (p : Int)) ∧ w.cell? ⟨lb, i * 2 + 1, none⟩ = some (.slice (some ⟨db, 0, none⟩) S.page cd) ∧ OwB w 0 (.slice (some ⟨db, 0, none⟩) S.page cd) l ∧ p < S.np ∧ l.length = S.page := h.entry hi
/-- The first m bytes of page p are copied over. -/
theorem PlRaw.copied {w w' : World} {F : Nat → Prop} {r : Raw} {S : PS} (h : PlRaw w F r S) {p : Nat} {m : List UInt8} (hp : p < S.np) (hm : m.length ≤ S.page) (hg : w.grownBy w' (some r.sb)) (hb : OBlk w' r.sb 5 (bvs (splice S.pg.flatten (p * S.page) (m.take (min m.length S.page))))) : PlRaw w' F r { S with pg := putPg S.pg p m } := by
  have hpl : p < S.pg.length := by rw [h.ok.pl]; exact hp
  rw [Nat.min_eq_left hm, List.take_length, flat_splice S.pg p m h.ok.pe hpl hm] at hb
  exact h.sb_write hg hb (by rw [putPg_length]; exact h.ok.pl) (putPg_each h.ok.pe hpl hm)
theorem run_head (w : World) (db n c hi : Nat) (X : Int) (hX : X = (hi : Int)) (h1 : hi ≤ n) (h2 : n ≤ c) (h3 : 0 < c) (h4 : c ≤ 9223372036854775807) :
    (Instr.slice 28 (.slice (some ⟨db, 0, none⟩) n c) none (some (.int .i64 X)) none).run Try.prog w = .ok (.slice (some ⟨db, 0, none⟩) hi c) w := by
  subst hX
  have := run_slice_h (P := Try.prog) w 28 (some ⟨db, 0, none⟩) n c u8_elem .i64 hi (by omega) (by omega)
  rw [this, u8_sizeOf]
  simp [Result.andThen, sliced, show ¬ c = 0 by omega, add_row]
set_option maxRecDepth 100000 in
set_option maxHeartbeats 8000000 in
theorem falls_any (w : World) (F : Nat → Prop) (r : Raw) (S : PS) (vk : Value) (ks : List Int) (torn at_ : Int) (h : PlRaw w F r S) (hk : RdI w vk ks) (hko : KeepOff vk r.sb) (ht : -9223372036854775808 ≤ at_ ∧ at_ ≤ 9223372036854775807) :
    Calls Try.prog 37 #[plPtr r, fallV vk torn at_] w fun e w' => (∃ v, e = .returned v) ∧ PlRaw w' F r.settled (S.fell ks torn at_) ∧ Turn F w w' := by
  have h1 : PlRaw (w.alloc (.cells #[vk, .int .i64 torn, .int .i64 at_] 31)) F r S := h.below ((Below.refl _ _).alloc (Nat.le_refl _) _)
  have hfb : OBlk (w.alloc (.cells #[vk, .int .i64 torn, .int .i64 at_] 31)) w.heap.size 31 [vk, .int .i64 torn, .int .i64 at_] := OBlk.new' w 31 [vk, .int .i64 torn, .int .i64 at_]
  have c2 := h1.c2
  obtain ⟨A, c, hvl⟩ := h.loose.slice
  rw [hvl] at c2
  have HVL := Lib.hid hvl
  have hwl : S.wild.length ≤ 9223372036854775807 := h.wlen
  clear hvl
  unfold plPtr fallV
  go_enter Try.func37, Try.ntmps37
  go_wp2_with fail
  go_loopw [11] (fun i wr => ∃ j : Nat, i = .int .i64 (j : Int) ∧ j ≤ S.wild.length ∧ PlRaw wr F r (S.fellPg ks torn at_ j) ∧ OBlk wr w.heap.size 31 [vk, .int .i64 torn, .int .i64 at_] ∧ RdI wr vk ks ∧ Turn F w wr)
    (fun i _ => S.wild.length - (intOf i).toNat)
  case atStart => exact ⟨0, rfl, Nat.zero_le _, h1, hfb, hk.below ((Below.refl _ _).alloc (Nat.le_refl _) _), (Turn.refl _ _).alloc _⟩
  case round =>
    clear h1 hfb c2
    obtain ⟨j, rfl, hj, hP, hfb, hK, hT⟩ := hrel
    by_cases hlt : j < S.wild.length
    · obtain ⟨lb, c', db, cd, p, l, hcd1, hcd2, hwj, hvl, hdv, cp, cd1, hrd, hx1, hx2⟩ := hP.entryF hlt
      rw [HVL.out] at hvl
      injection hvl with hA _ hcc
      subst hA
      subst hcc
      have ij : (j : Int) < (S.wild.length : Int) := by omega
      have HW := Lib.hid hwj
      have HX := Lib.hid hx2
      have hP3 : PlRaw (wr.alloc (.cells #[.int .i64 (p : Int), .slice (some ⟨db, 0, none⟩) S.page cd] 69)) F r (S.fellPg ks torn at_ j) := hP.below ((Below.refl _ _).alloc (Nat.le_refl _) _)
      have hT3 := hT.alloc (.cells #[.int .i64 (p : Int), .slice (some ⟨db, 0, none⟩) S.page cd] 69)
      have hf3 := hfb.alloc (.cells #[.int .i64 (p : Int), .slice (some ⟨db, 0, none⟩) S.page cd] 69)
      have hK3 := hK.below ((Below.refl _ _).alloc (Nat.le_refl _) (.cells #[.int .i64 (p : Int), .slice (some ⟨db, 0, none⟩) S.page cd] 69))
      have hr3 := hrd.alloc (.cells #[.int .i64 (p : Int), .slice (some ⟨db, 0, none⟩) S.page cd] 69)
      have hn3 := OBlk.new' wr 69 [.int .i64 (p : Int), .slice (some ⟨db, 0, none⟩) S.page cd]
      have k0 := hf3.cell' (j := 0) (u := vk) rfl
      have k1 := hf3.cell' (j := 1) (u := .int .i64 torn) rfl
      have k2 := hf3.cell' (j := 2) (u := .int .i64 at_) rfl
      have n0 := hn3.cell' (j := 0) (u := .int .i64 (p : Int)) rfl
      have n1 := hn3.cell' (j := 1) (u := .slice (some ⟨db, 0, none⟩) S.page cd) rfl
      have i1 : (S.page : Int) ≤ (cd : Int) := by omega
      have i2 : (0 : Int) ≤ (cd : Int) := by omega
      have i3 : ¬ cd = 0 := by have := hP.ok.p1; have : 512 ≤ S.page := this; omega
      have hsb := hP3.safe.lt
      have hne0 : ¬ wr.heap.size = r.sb := by have := hP.safe.lt; omega
      have hne1 : ¬ wr.heap.size = r.sb := hne0
      have hne2 : ¬ w.heap.size = r.sb := fun e => by have := h.safe.lt; omega
      have hne3 : ¬ r.pb = r.sb := fun e => hP.safe.ne hP.blk (by decide) e.symm
      have b0 : (wr.alloc (.cells #[.int .i64 (p : Int), .slice (some ⟨db, 0, none⟩) S.page cd] 69)).cell? ⟨r.pb, 0, none⟩ = some (.int .i64 (S.page : Int)) := hP3.c0
      have hpl : ∀ m, Calls Try.prog 38 #[.pointer (some ⟨r.pb, 0, none⟩), .int .i64 (p : Int)] ((wr.alloc (.cells #[.int .i64 (p : Int), .slice (some ⟨db, 0, none⟩) S.page cd] 69)).drewN m) fun e w' => e = .returned (.slice (some ⟨r.sb, p * S.page, none⟩) S.page (S.sz - p * S.page)) ∧ ∃ m', w' = (wr.alloc (.cells #[.int .i64 (p : Int), .slice (some ⟨db, 0, none⟩) S.page cd] 69)).drewN m' := fun m => Calls.quiet_of (place_any _ F r (S.fellPg ks torn at_ j) p hx1 (hP3.heap (Nat.le_refl _) fun _ _ => rfl))
      have hfit : p * S.page + S.page ≤ (S.fellPg ks torn at_ j).pg.flatten.length := by
        rw [flat_len hP3.ok.pe, hP3.ok.pl]
        show _ ≤ S.page * S.np
        rw [Nat.mul_comm S.page, ← Nat.succ_mul]
        exact Nat.mul_le_mul_right _ hx1
      have hrb : RdB (wr.alloc (.cells #[.int .i64 (p : Int), .slice (some ⟨db, 0, none⟩) S.page cd] 69)) (.slice (some ⟨db, 0, none⟩) S.page cd) l := hr3.rd
      have hp2 : S.page ≤ 65536 := hP.ok.p2
      have hp1 : 512 ≤ S.page := hP.ok.p1
      by_cases htj : (j : Int) = torn
      · have hb := show ((j : Int) == torn) = true by simp [htj]
        have HJ := Lib.hid htj
        clear htj
        rcases (by omega : at_ < 0 ∨ (0 ≤ at_ ∧ at_ ≤ (S.page : Int)) ∨ (S.page : Int) < at_) with ha | ⟨ha1, ha2⟩ | ha
        · have r4 := (hr3.take (m := 0) (by omega)).rd
          have q4 := fun w => run_head w db S.page cd 0 0 rfl (by omega) (by omega) (by omega) (by omega)
          have HTL := Lib.hid (show tornLen at_ S.page = 0 by unfold tornLen; omega)
          have i6 : ¬ (S.page : Int) < 0 := by omega
          go_upto_region 5 with (fail)
          refine wp_region_dtail 15 (by kernel_rfl) (by kernel_rfl) ?_
          simp only [List.take_succ_cons, List.take_zero, List.drop_succ_cons, List.drop_zero]
          repeat (quiet_step ((go_at_call 38; exact hpl _)))
          refine wpQuiet_nil ?_
          rintro _ ⟨nq, rfl⟩
          go_wp2_with (first
            | ((with_reducible refine at_copy ?_); refine wp_copy_B rfl (.tmp 24) (.tmp 35) rfl _ S.page (S.sz - p * S.page) r.sb (p * S.page) rfl (S.fellPg ks torn at_ j).pg.flatten (hP3.safe.drewN nq) (fun _ => rfl) hfit (.slice (some ⟨db, 0, none⟩) 0 cd) (l.take 0) rfl r4 ?_; intro w8 hb8 hg8)
            | fail)
          go_roundw
          case rel =>
            have hP7 : PlRaw ((wr.alloc (.cells #[.int .i64 (p : Int), .slice (some ⟨db, 0, none⟩) S.page cd] 69)).drewN nq) F r (S.fellPg ks torn at_ j) := hP3.heap (Nat.le_refl _) fun _ _ => rfl
            have hP8 := hP7.copied (m := l.take 0) hx1 (by simp) hg8 hb8
            have e : S.fellPg ks torn at_ (j + 1) = { S.fellPg ks torn at_ j with pg := putPg (S.fellPg ks torn at_ j).pg p (l.take 0) } := by
              unfold PS.fellPg
              simp only [fallN, HW.out, fallOne]
              rw [if_pos HJ.out, HTL.out]
            rw [← e] at hP8
            exact ⟨j + 1, by go_num, by omega, hP8, (hf3.drewN nq).grown hg8 (fun e => hne2 (Option.some.inj e)), RdI.grown (w := (wr.alloc (.cells #[.int .i64 (p : Int), .slice (some ⟨db, 0, none⟩) S.page cd] 69)).drewN nq) hK3 hg8 (fun A n c hv h0 he => hko A n c hv h0 (Option.some.inj he).symm), (hT3.drewN nq).grown hg8 (fun b hb => by cases hb; exact .inl hP3.fs)⟩
          case measure => simp [intOf]; omega
        · obtain ⟨k, rfl⟩ := Int.eq_ofNat_of_zero_le ha1
          have hk2 : k ≤ S.page := by omega
          have hk3 : k ≤ l.length := by omega
          have i4 : (k : Int) ≤ (cd : Int) := by omega
          have r4 := (hr3.take (m := k) (by omega)).rd
          have q4 := fun w => run_head w db S.page cd k (k : Int) rfl (by omega) (by omega) (by omega) (by omega)
          have HTL := Lib.hid (show tornLen (k : Int) S.page = k by unfold tornLen; omega)
          have i6 : ¬ (S.page : Int) < (k : Int) := by omega
          have i7 : ¬ (k : Int) < 0 := by omega
          go_upto_region 5 with (fail)
          refine wp_region_dtail 15 (by kernel_rfl) (by kernel_rfl) ?_
          simp only [List.take_succ_cons, List.take_zero, List.drop_succ_cons, List.drop_zero]
          repeat (quiet_step ((go_at_call 38; exact hpl _)))
          refine wpQuiet_nil ?_
          rintro _ ⟨nq, rfl⟩
          go_wp2_with (first
            | ((with_reducible refine at_copy ?_); refine wp_copy_B rfl (.tmp 24) (.tmp 35) rfl _ S.page (S.sz - p * S.page) r.sb (p * S.page) rfl (S.fellPg ks torn (k : Int) j).pg.flatten (hP3.safe.drewN nq) (fun _ => rfl) hfit (.slice (some ⟨db, 0, none⟩) k cd) (l.take k) rfl r4 ?_; intro w8 hb8 hg8)
            | fail)
          go_roundw
          case rel =>
            have hP7 : PlRaw ((wr.alloc (.cells #[.int .i64 (p : Int), .slice (some ⟨db, 0, none⟩) S.page cd] 69)).drewN nq) F r (S.fellPg ks torn (k : Int) j) := hP3.heap (Nat.le_refl _) fun _ _ => rfl
            have hP8 := hP7.copied (m := l.take k) hx1 (by show _ ≤ S.page; rw [List.length_take]; omega) hg8 hb8
            have e : S.fellPg ks torn (k : Int) (j + 1) = { S.fellPg ks torn (k : Int) j with pg := putPg (S.fellPg ks torn (k : Int) j).pg p (l.take k) } := by
              unfold PS.fellPg
              simp only [fallN, HW.out, fallOne]
              rw [if_pos HJ.out, HTL.out]
            rw [← e] at hP8
            exact ⟨j + 1, by go_num, by omega, hP8, (hf3.drewN nq).grown hg8 (fun e => hne2 (Option.some.inj e)), RdI.grown (w := (wr.alloc (.cells #[.int .i64 (p : Int), .slice (some ⟨db, 0, none⟩) S.page cd] 69)).drewN nq) hK3 hg8 (fun A n c hv h0 he => hko A n c hv h0 (Option.some.inj he).symm), (hT3.drewN nq).grown hg8 (fun b hb => by cases hb; exact .inl hP3.fs)⟩
          case measure => simp [intOf]; omega
        · have r4 := (hr3.take (m := S.page) (by omega)).rd
          have q4 := fun w => run_head w db S.page cd S.page (S.page : Int) rfl (by omega) (by omega) (by omega) (by omega)
          have HTL := Lib.hid (show tornLen at_ S.page = S.page by unfold tornLen; omega)
          have i7 : ¬ at_ < 0 := by omega
          go_upto_region 5 with (fail)
          refine wp_region_dtail 15 (by kernel_rfl) (by kernel_rfl) ?_
          simp only [List.take_succ_cons, List.take_zero, List.drop_succ_cons, List.drop_zero]
          repeat (quiet_step ((go_at_call 38; exact hpl _)))
          refine wpQuiet_nil ?_
          rintro _ ⟨nq, rfl⟩
          go_wp2_with (first
            | ((with_reducible refine at_copy ?_); refine wp_copy_B rfl (.tmp 24) (.tmp 35) rfl _ S.page (S.sz - p * S.page) r.sb (p * S.page) rfl (S.fellPg ks torn at_ j).pg.flatten (hP3.safe.drewN nq) (fun _ => rfl) hfit (.slice (some ⟨db, 0, none⟩) S.page cd) (l.take S.page) rfl r4 ?_; intro w8 hb8 hg8)
            | fail)
          go_roundw
          case rel =>
            have hP7 : PlRaw ((wr.alloc (.cells #[.int .i64 (p : Int), .slice (some ⟨db, 0, none⟩) S.page cd] 69)).drewN nq) F r (S.fellPg ks torn at_ j) := hP3.heap (Nat.le_refl _) fun _ _ => rfl
            have hP8 := hP7.copied (m := l.take S.page) hx1 (by show _ ≤ S.page; rw [List.length_take]; omega) hg8 hb8
            have e : S.fellPg ks torn at_ (j + 1) = { S.fellPg ks torn at_ j with pg := putPg (S.fellPg ks torn at_ j).pg p (l.take S.page) } := by
              unfold PS.fellPg
              simp only [fallN, HW.out, fallOne]
              rw [if_pos HJ.out, HTL.out]
            rw [← e] at hP8
            exact ⟨j + 1, by go_num, by omega, hP8, (hf3.drewN nq).grown hg8 (fun e => hne2 (Option.some.inj e)), RdI.grown (w := (wr.alloc (.cells #[.int .i64 (p : Int), .slice (some ⟨db, 0, none⟩) S.page cd] 69)).drewN nq) hK3 hg8 (fun A n c hv h0 he => hko A n c hv h0 (Option.some.inj he).symm), (hT3.drewN nq).grown hg8 (fun b hb => by cases hb; exact .inl hP3.fs)⟩
          case measure => simp [intOf]; omega
      · have hb := show ((j : Int) == torn) = false by simp [htj]
        have HJ := Lib.hid htj
        clear htj
        have hlp : l.length = S.page := HX.out
        by_cases hin : (j : Int) ∈ ks
        · have HIN := Lib.hid hin
          go_wp2_with (first
            | (go_at_call 57; refine (Contains_any vk ks _ _ hK3).mono ?_; rintro e w6 ⟨rfl, rfl⟩; rw [decide_eq_true HIN.out])
            | fail)
          go_upto_region 7 with (fail)
          refine wp_region_dtail 6 (by kernel_rfl) (by kernel_rfl) ?_
          simp only [List.take_succ_cons, List.take_zero, List.drop_succ_cons, List.drop_zero]
          repeat (quiet_step ((go_at_call 38; exact hpl _)))
          refine wpQuiet_nil ?_
          rintro _ ⟨nq, rfl⟩
          go_wp2_with (first
            | ((with_reducible refine at_copy ?_); refine wp_copy_B rfl (.tmp 45) (.tmp 47) rfl _ S.page (S.sz - p * S.page) r.sb (p * S.page) rfl (S.fellPg ks torn at_ j).pg.flatten (hP3.safe.drewN nq) (fun _ => rfl) hfit (.slice (some ⟨db, 0, none⟩) S.page cd) l rfl hrb ?_; intro w8 hb8 hg8)
            | fail)
          go_roundw
          case rel =>
            have hP7 : PlRaw ((wr.alloc (.cells #[.int .i64 (p : Int), .slice (some ⟨db, 0, none⟩) S.page cd] 69)).drewN nq) F r (S.fellPg ks torn at_ j) := hP3.heap (Nat.le_refl _) fun _ _ => rfl
            have hP8 := hP7.copied (m := l) hx1 (by show _ ≤ S.page; omega) hg8 hb8
            have e : S.fellPg ks torn at_ (j + 1) = { S.fellPg ks torn at_ j with pg := putPg (S.fellPg ks torn at_ j).pg p (l) } := by
              unfold PS.fellPg
              simp only [fallN, HW.out, fallOne]
              rw [if_neg HJ.out, if_pos HIN.out]
            rw [← e] at hP8
            exact ⟨j + 1, by go_num, by omega, hP8, (hf3.drewN nq).grown hg8 (fun e => hne2 (Option.some.inj e)), RdI.grown (w := (wr.alloc (.cells #[.int .i64 (p : Int), .slice (some ⟨db, 0, none⟩) S.page cd] 69)).drewN nq) hK3 hg8 (fun A n c hv h0 he => hko A n c hv h0 (Option.some.inj he).symm), (hT3.drewN nq).grown hg8 (fun b hb => by cases hb; exact .inl hP3.fs)⟩
          case measure => simp [intOf]; omega
        · have HIN := Lib.hid hin
          go_wp2_with (first
            | (go_at_call 57; refine (Contains_any vk ks _ _ hK3).mono ?_; rintro e w6 ⟨rfl, rfl⟩; rw [decide_eq_false HIN.out])
            | fail)
          go_roundw
          case rel =>
            have e : S.fellPg ks torn at_ (j + 1) = S.fellPg ks torn at_ j := by
              unfold PS.fellPg
              simp only [fallN, HW.out, fallOne]
              rw [if_neg HJ.out, if_neg HIN.out]
            exact ⟨j + 1, by go_num, by omega, by rw [e]; exact hP3, hf3, hK3, hT3⟩
          case measure => simp [intOf]; omega
    · obtain rfl : S.wild.length = j := by omega
      have ht2 := hT
      go_wp2_with fail
      refine (settle_any _ F r _ hP).mono ?_
      rintro e w5 ⟨⟨v5, rfl⟩, hP5, hT5⟩
      have f4 : w5.frozen? ⟨r.pb, 4, none⟩ = false := hP5.fz (j := 4) (by decide)
      have f5 : w5.frozen? ⟨r.pb, 5, none⟩ = false := hP5.fz (j := 5) (by decide)
      have c4 : w5.cell? ⟨r.pb, 4, none⟩ = some (.bool S.down) := hP5.c4
      have c5 : w5.cell? ⟨r.pb, 5, none⟩ = some (.int .i64 S.acts) := hP5.c5
      go_wp2_with fail
      refine bodyPost_end (results_none rfl _ _ _) rfl ?_
      have hg5 := grownBy_trans (grownBy_setCell w5 ⟨r.pb, 4, none⟩ (.bool true)) (grownBy_setCell _ ⟨r.pb, 5, none⟩ (.int .i64 (-1)))
      have hb5 := (hP5.blk.set 4 (.bool true)).set 5 (.int .i64 (-1))
      refine ⟨⟨_, rfl⟩, hP5.pb_write (S' := S.fell ks torn at_) hg5 hb5 { hP5.ok with a1 := by show (-1 : Int) ≤ -1; omega, a2 := by show (-1 : Int) ≤ _; omega } rfl rfl rfl, (hT.trans hT5 (fun b hb => .inl hb)).grown hg5 (fun b hb => by cases hb; exact .inl h.fp)⟩
end Go.Proofs.Ytipjngoenklioaa

-- plate.New, Load, Safe, Crash: walks.
namespace Go.Proofs.Ytipjngoenklioaa
open Go.RowKit
/-- May a device have such numbers? -/
def devB (p n : Int) : Bool := isPowB p && decide (4 ≤ n) && decide (n ≤ 65536) && decide (n * p ≤ 67108864)
theorem devB_spec {p n : Int} (h : devB p n = true) : isPowB p = true ∧ 4 ≤ n ∧ n ≤ 65536 ∧ n * p ≤ 67108864 := by
  unfold devB at h
  rw [Bool.and_eq_true, Bool.and_eq_true, Bool.and_eq_true] at h
  exact ⟨h.1.1.1, of_decide_eq_true h.1.1.2, of_decide_eq_true h.1.2, of_decide_eq_true h.2⟩
def S0 (p n : Nat) : PS := { page := p, np := n, sz := p * n, pg := List.replicate n (List.replicate p 0), wild := [], down := false, acts := -1, keep := [], torn := 0, at_ := 0, cr := 0, cw := 0, cs := 0 }
theorem flat_replicate (p : Nat) : ∀ n : Nat, (List.replicate n (List.replicate p (0 : UInt8))).flatten = List.replicate (p * n) 0
  | 0 => by simp
  | n + 1 => by rw [List.replicate_succ, List.flatten_cons, flat_replicate p n, List.replicate_append_replicate]; congr 1; rw [Nat.mul_add]; omega
theorem S0_ok {p n : Nat} (h : devB p n = true) : (S0 p n).ok := by
  obtain ⟨h1, h2, h3, h4⟩ := devB_spec h
  have h5 := isPowB_range h1
  have h6 : p * n ≤ 67108864 := by
    have e : ((n * p : Nat) : Int) = (n : Int) * (p : Int) := Int.natCast_mul _ _
    rw [Nat.mul_comm]; omega
  have r0 : -9223372036854775808 ≤ (0 : Int) ∧ (0 : Int) ≤ 9223372036854775807 := by omega
  exact { p1 := by show 512 ≤ p; omega, p2 := by show p ≤ 65536; omega, n1 := by show 4 ≤ n; omega, n2 := by show n ≤ 65536; omega, pn := h6, sn := rfl, pl := by simp [S0], pe := fun l hl => by rw [List.eq_of_mem_replicate hl]; simp [S0], we := by simp [S0],
          a1 := by show (-1 : Int) ≤ -1; omega, a2 := by show (-1 : Int) ≤ _; omega, c1 := r0, c2 := r0, c3 := r0, t1 := r0, t2 := r0 }
def NewAt (w : World) (page n : Nat) (e : Ending) (w' : World) : Prop := ∃ r F, e = .returned (plPtr r) ∧ PlRaw w' F r (S0 page n) ∧ (∀ k, F k → w.heap.size ≤ k) ∧ Below w.heap.size w w'
theorem new_mem (w w1 : World) (page n : Nat) (h : devB page n = true) (hb1 : OBlk w1 w.heap.size 5 (bvs (List.replicate (page * n) 0))) (hw1 : Below w.heap.size w w1) (hs1 : w1.heap.size = w.heap.size + 1) (cells : List Value)
    (hc : cells = plCells { pb := w.heap.size + 1 + 1, sb := w.heap.size, mb := w.heap.size + 1, vl := .slice none 0 0, vk := .slice none 0 0, dv := [] } (S0 page n)) :
    NewAt w page n (.returned (.pointer (some ⟨w.heap.size + 1 + 1, 0, none⟩))) ((w1.alloc (.map #[] 0)).alloc (.cells cells.toArray 66)) := by
  rw [← hs1] at hc ⊢
  have hm := World.ownsMap_made w1 Try.prog 3 (H := Unit) (plainElem Try.prog 3)
  have hmap : MapAt (w1.alloc (.map #[] 0)) w1.heap.size [] := ⟨_, hm, LastD.nil⟩
  have hbl := OBlk.new' (w1.alloc (.map #[] 0)) 66 cells
  rw [show (w1.alloc (.map #[] 0)).heap.size = w1.heap.size + 1 by simp, hc] at hbl
  refine ⟨{ pb := w1.heap.size + 1, sb := w.heap.size, mb := w1.heap.size, vl := .slice none 0 0, vk := .slice none 0 0, dv := [] }, fun k => w.heap.size ≤ k ∧ k < w.heap.size + 3, rfl, ?_, fun k hk => hk.1, ((hw1.alloc (by omega) _).alloc (by simp; omega) _)⟩
  rw [hc]
  exact { ok := S0_ok h, blk := hbl
          safe := by
            show OBlk _ _ _ (bvs (List.replicate n (List.replicate page 0)).flatten)
            rw [flat_replicate]
            exact (hb1.alloc _).alloc _
          loose := Own.nil _ _ _ _, dlen := rfl, data := fun i hi => by simp [S0] at hi
          map := hmap.heap (Below.heap_alloc _ _ _ (by simp)), keep := Own.nil _ _ _ _
          fp := by constructor <;> simp <;> omega
          fs := by constructor <;> simp
          fm := by constructor <;> simp <;> omega
          fl := fun g hg => by simp [Value.ownBlock] at hg
          fk := fun g hg => by simp [Value.ownBlock] at hg
          lt := fun k hk => by simp; omega }
set_option maxRecDepth 20000 in
set_option maxHeartbeats 2000000 in
theorem New_ok (page n : Nat) (h : devB page n = true) (w : World) : Calls Try.prog 8 #[.int .i64 (page : Int), .int .i64 (n : Int)] w (NewAt w page n) := by
  have H := Lib.hid h
  obtain ⟨h1, h2, h3, h4⟩ := devB_spec h
  have h5 := isPowB_range h1
  have HP := Lib.hid h1
  clear h1
  have h6 : page * n ≤ 67108864 := by
    have e : ((n * page : Nat) : Int) = (n : Int) * (page : Int) := Int.natCast_mul _ _
    rw [Nat.mul_comm]; omega
  have h7 : (n : Int) ≤ 67108864 / (page : Int) := (Int.le_ediv_iff_mul_le (by omega)).2 h4
  have h8 : ¬ 67108864 / (page : Int) < (n : Int) := by omega
  have e1 : (page : Int) * (n : Int) = ((page * n : Nat) : Int) := by push_cast; rfl
  have b1 : ((page * n : Nat) : Int) ≤ 67108864 := by omega
  have hmm := @run_makeMap Try.prog
  obtain ⟨m, hm⟩ : ∃ m, m = page * n := ⟨_, rfl⟩
  rw [← hm] at e1 b1 h6
  have HM := Lib.hid hm
  clear hm h4
  go_enter Try.func8, Try.ntmps8
  go_wp2_with (first
    | (go_at_call 33; refine (isPage_any _ (by omega) _).mono ?_; rintro e w0 ⟨rfl, rfl⟩; rw [HP.out])
    | (at_make; refine wp_make_B rfl (.tmp 25) (.tmp 25) rfl _ m rfl rfl (by go_num) (by omega) ?_; intro w1 hb1 hw1 hs1))
  go_ret
  have hm := HM.out
  subst hm
  exact new_mem w w1 page n H.out hb1 hw1 hs1 _ rfl
end Go.Proofs.Ytipjngoenklioaa

-- plate.New (refused), Load, Safe, Counts, Crash, Arm: walks.
namespace Go.Proofs.Ytipjngoenklioaa
open Go.RowKit
theorem devB_pow {p n : Int} (h : isPowB p = false) : devB p n = false := by unfold devB; rw [h]; rfl
theorem devB_rest {p n : Int} (h : devB p n = false) (hp : isPowB p = true) : n < 4 ∨ 65536 < n ∨ 67108864 / p < n := by
  have h5 := isPowB_range hp
  rcases Int.lt_or_le n 4 with h1 | h1
  · exact .inl h1
  rcases Int.lt_or_le 65536 n with h2 | h2
  · exact .inr (.inl h2)
  rcases Int.lt_or_le (67108864 / p) n with h3 | h3
  · exact .inr (.inr h3)
  have h4 : n * p ≤ 67108864 := (Int.le_ediv_iff_mul_le (by omega)).1 h3
  unfold devB at h
  rw [hp, decide_eq_true h1, decide_eq_true h2, decide_eq_true h4] at h
  cases h
set_option maxRecDepth 20000 in
set_option maxHeartbeats 2000000 in
theorem New_bad (page n : Int) (hp : -9223372036854775808 ≤ page ∧ page ≤ 9223372036854775807) (h : devB page n = false) (w : World) : Calls Try.prog 8 #[.int .i64 page, .int .i64 n] w fun e w' => e = .returned (.pointer none) ∧ w = w' := by
  cases hq : isPowB page
  · have HP := Lib.hid hq
    clear hq h
    go_enter Try.func8, Try.ntmps8
    go_wp2_with (first
      | (go_at_call 33; refine (isPage_any _ (by omega) _).mono ?_; rintro e w0 ⟨rfl, rfl⟩; rw [HP.out]))
    go_ret
    exact ⟨rfl, rfl⟩
  · have h5 := isPowB_range hq
    have hr := devB_rest h hq
    have HP := Lib.hid hq
    clear hq h
    rcases hr with h1 | h1 | h1
    · go_enter Try.func8, Try.ntmps8
      go_wp2_with (first
        | (go_at_call 33; refine (isPage_any _ (by omega) _).mono ?_; rintro e w0 ⟨rfl, rfl⟩; rw [HP.out]))
      go_ret
      exact ⟨rfl, rfl⟩
    · have h2 : ¬ n < 4 := by omega
      go_enter Try.func8, Try.ntmps8
      go_wp2_with (first
        | (go_at_call 33; refine (isPage_any _ (by omega) _).mono ?_; rintro e w0 ⟨rfl, rfl⟩; rw [HP.out]))
      go_ret
      exact ⟨rfl, rfl⟩
    · by_cases h2 : n < 4
      · go_enter Try.func8, Try.ntmps8
        go_wp2_with (first
          | (go_at_call 33; refine (isPage_any _ (by omega) _).mono ?_; rintro e w0 ⟨rfl, rfl⟩; rw [HP.out]))
        go_ret
        exact ⟨rfl, rfl⟩
      by_cases h3 : 65536 < n
      · go_enter Try.func8, Try.ntmps8
        go_wp2_with (first
          | (go_at_call 33; refine (isPage_any _ (by omega) _).mono ?_; rintro e w0 ⟨rfl, rfl⟩; rw [HP.out]))
        go_ret
        exact ⟨rfl, rfl⟩
      go_enter Try.func8, Try.ntmps8
      go_wp2_with (first
        | (go_at_call 33; refine (isPage_any _ (by omega) _).mono ?_; rintro e w0 ⟨rfl, rfl⟩; rw [HP.out]))
      go_ret
      exact ⟨rfl, rfl⟩
section
variable {w : World} {F : Nat → Prop} {r : Raw} {S : PS}
theorem PlRaw.flen (h : PlRaw w F r S) : S.pg.flatten.length = S.sz := by rw [flat_len h.ok.pe, h.ok.pl, h.ok.sn]
theorem PlRaw.safeRd (h : PlRaw w F r S) : RdB w (.slice (some ⟨r.sb, 0, none⟩) S.sz S.sz) S.pg.flatten := h.safe.rdB h.flen (by have := h.ok.pn; omega)
end
set_option maxRecDepth 20000 in
theorem Safe_any (w : World) (F : Nat → Prop) (r : Raw) (S : PS) (h : PlRaw w F r S) : Calls Try.prog 12 #[plPtr r] w fun e w' => ∃ v, e = .returned v ∧ OwB w' w.heap.size v S.pg.flatten ∧ Below w.heap.size w w' := by
  have c1 := h.c1
  have hn := h.ok.pn
  have hf := h.flen
  have hl : S.pg.flatten.length ≤ 140737488355328 := by omega
  have hr := h.safeRd
  have HF := Lib.hid hf
  clear hf
  unfold plPtr
  go_enter Try.func12, Try.ntmps12
  go_wp2_with fail
  refine (CloneB_any _ _ _ hr hl).mono ?_
  rintro e w1 ⟨v, rfl, ho, hb⟩
  go_wp2_with fail
  go_ret
  exact ⟨v, rfl, ho, hb⟩
set_option maxRecDepth 20000 in
set_option maxHeartbeats 1000000 in
theorem Counts_any (w : World) (F : Nat → Prop) (r : Raw) (S : PS) (h : PlRaw w F r S) : Calls Try.prog 52 #[plPtr r] w fun e w' => e = .returned (.agg #[.int .i64 S.cr, .int .i64 S.cw, .int .i64 S.cs]) ∧ Below w.heap.size w w' := by
  have lb := h.blk.lt
  have c9 := h.c9
  have c10 := h.c10
  have c11 := h.c11
  unfold plPtr
  go_enter Try.func52, Try.ntmps52
  go_upto_region 1 with (fail)
  refine wp_region_dtail 16 (by kernel_rfl) (by kernel_rfl) ?_
  simp only [List.take_succ_cons, List.take_zero, List.drop_succ_cons, List.drop_zero]
  repeat (quiet_step (fail))
  refine wpQuiet_nil ?_
  rintro _ ⟨nq, rfl⟩
  go_wp2_with fail
  exact bodyPost_ret (v := .agg #[.int .i64 S.cr, .int .i64 S.cw, .int .i64 S.cs]) (by simp [results, Try.results52, go_sem]) rfl ⟨rfl, (((below_drewN ((Below.refl _ _).alloc (Nat.le_refl _) _) _).setCell (Nat.le_refl _) _).setCell (Nat.le_refl _) _).setCell (Nat.le_refl _) _⟩
def FallsAt (w : World) (F : Nat → Prop) (r : Raw) (S' : PS) (e : Ending) (w' : World) : Prop := (∃ v, e = .returned v) ∧ (∃ r', r'.pb = r.pb ∧ PlRaw w' F r' S') ∧ Turn F w w'
def PS.crash (S : PS) (ks : List Int) (torn at_ : Int) : PS := if S.down then S else S.fell ks torn at_
set_option maxRecDepth 20000 in
set_option maxHeartbeats 1000000 in
theorem Crash_any (w : World) (F : Nat → Prop) (r : Raw) (S : PS) (vk : Value) (ks : List Int) (torn at_ : Int) (h : PlRaw w F r S) (hk : RdI w vk ks) (hko : KeepOff vk r.sb) (ht : -9223372036854775808 ≤ at_ ∧ at_ ≤ 9223372036854775807) :
    Calls Try.prog 15 #[plPtr r, fallV vk torn at_] w (FallsAt w F r (S.crash ks torn at_)) := by
  have hA : Below w.heap.size w (w.alloc (.cells #[vk, .int .i64 torn, .int .i64 at_] 31)) := (Below.refl _ _).alloc (Nat.le_refl _) _
  have lb := h.blk.lt
  have c4 := h.c4
  cases hd : S.down
  · rw [hd] at c4
    have HS : Hid (S.crash ks torn at_ = S.fell ks torn at_) := by show _ = _; unfold PS.crash; rw [hd]; rfl
    have hf := falls_any _ F r S vk ks torn at_ (h.below hA) (hk.below hA) hko ht
    clear hd
    unfold plPtr fallV at hf ⊢
    go_enter Try.func15, Try.ntmps15
    go_wp2_with fail
    refine hf.mono ?_
    rintro e w1 ⟨⟨v, rfl⟩, hP, hT⟩
    go_wp2_with fail
    refine bodyPost_end (results_none rfl _ _ _) rfl ?_
    rw [HS.out]
    exact ⟨⟨_, rfl⟩, ⟨r.settled, rfl, hP⟩, ((Turn.of_below hA).trans hT fun b hb => .inl hb)⟩
  · rw [hd] at c4
    have HS : Hid (S.crash ks torn at_ = S) := by show _ = _; unfold PS.crash; rw [hd]; rfl
    clear hd
    unfold plPtr fallV
    go_enter Try.func15, Try.ntmps15
    go_wp2_with fail
    refine bodyPost_end (results_none rfl _ _ _) rfl ?_
    rw [HS.out]
    exact ⟨⟨_, rfl⟩, ⟨_, rfl, h.below hA⟩, Turn.of_below hA⟩
end Go.Proofs.Ytipjngoenklioaa

-- plate.Load, Arm, Read: walks.
namespace Go.Proofs.Ytipjngoenklioaa
open Go.RowKit
def chunk (p : Nat) (l : List UInt8) (n : Nat) : List (List UInt8) := (List.range n).map fun i => (l.drop (i * p)).take p
theorem chunk_succ (p : Nat) (l : List UInt8) (n : Nat) : chunk p l (n + 1) = chunk p l n ++ [(l.drop (n * p)).take p] := by
  unfold chunk; rw [List.range_succ, List.map_append]; rfl
theorem chunk_flat (p : Nat) (l : List UInt8) : ∀ n, n * p ≤ l.length → (chunk p l n).flatten = l.take (n * p)
  | 0, _ => by simp [chunk]
  | n + 1, h => by
    have h1 : (n + 1) * p = n * p + p := Nat.succ_mul n p
    rw [chunk_succ, List.flatten_append, chunk_flat p l n (by omega), h1, List.take_add]
    simp
theorem chunk_each {p : Nat} {l : List UInt8} {n : Nat} (h : n * p ≤ l.length) : ∀ x ∈ chunk p l n, x.length = p := by
  intro x hx
  obtain ⟨i, hi, rfl⟩ := List.mem_map.1 hx
  have hi := List.mem_range.1 hi
  have h1 : (i + 1) * p ≤ n * p := Nat.mul_le_mul_right _ hi
  have h2 : (i + 1) * p = i * p + p := Nat.succ_mul i p
  simp; omega
def SL (p n : Nat) (l : List UInt8) : PS := { S0 p n with pg := chunk p l n }
def LoadAt (w : World) (page n : Nat) (l : List UInt8) (e : Ending) (w' : World) : Prop := ∃ r F, e = .returned (.tuple #[plPtr r, .int .i64 0]) ∧ PlRaw w' F r (SL page n l) ∧ (∀ k, F k → w.heap.size ≤ k) ∧ Below w.heap.size w w'
set_option maxRecDepth 20000 in
set_option maxHeartbeats 2000000 in
theorem Load_ok (page n : Nat) (h : devB page n = true) (v : Value) (l : List UInt8) (hl : l.length = n * page) (w : World) (hv : RdB w v l) : Calls Try.prog 22 #[v, .int .i64 (page : Int)] w (LoadAt w page n l) := by
  have H := Lib.hid h
  obtain ⟨h1, h2, h3, h4⟩ := devB_spec h
  have h5 := isPowB_range h1
  have HP := Lib.hid h1
  have h0 : ¬ page = 0 := by omega
  have e1 : (l.length : Int) % (page : Int) = 0 := by rw [hl, Int.natCast_mul]; exact Int.mul_emod_left _ _
  have e2 : (l.length : Int) / (page : Int) = (n : Int) := by rw [hl, Int.natCast_mul]; exact Int.mul_ediv_cancel _ (by omega)
  have hlb : (l.length : Int) ≤ 67108864 := by rw [hl, Int.natCast_mul]; exact h4
  have HL := Lib.hid hl
  obtain ⟨A, c, rfl, hm⟩ := hv.form
  clear h h1 h4 hl
  go_enter Try.func22, Try.ntmps22
  go_wp2_with (first
    | (go_at_call 33; refine (isPage_any _ (by omega) _).mono ?_; rintro e w0 ⟨rfl, rfl⟩; rw [HP.out])
    | (go_at_call 8; refine (New_ok page n H.out _).mono ?_; rintro e w1 ⟨r, F, rfl, hP, hF, hB⟩; unfold plPtr; have c1 := hP.c1)
    | ((with_reducible refine at_copy ?_); refine wp_copy_B rfl (.tmp 28) (.tmp 29) rfl _ (S0 page n).sz (S0 page n).sz r.sb 0 rfl _ hP.safe (fun _ => rfl) (by rw [hP.flen]; omega) _ l rfl (hv.below hB (Nat.le_refl _)) ?_; intro w2 hb2 hg2)
    | fail)
  go_ret2
  have hsz : (S0 page n).sz = l.length := by rw [HL.out]; exact Nat.mul_comm _ _
  have hfl := hP.flen
  have hch : (chunk page l n).flatten = l := by rw [chunk_flat page l n (by rw [HL.out]; omega), List.take_of_length_le (by rw [HL.out]; omega)]
  have e3 : splice (S0 page n).pg.flatten 0 (l.take (min l.length (S0 page n).sz)) = (chunk page l n).flatten := by
    rw [hch, hsz, Nat.min_self, List.take_length]
    unfold splice
    rw [List.take_zero, List.drop_of_length_le (by omega)]
    simp
  rw [e3] at hb2
  exact ⟨r, F, rfl, hP.sb_write hg2 hb2 (by simp [chunk, S0]) (chunk_each (by rw [HL.out]; omega)), hF, hB.grown hg2 (Nat.le_trans (Nat.le_refl _) hB.size) (fun k hk => by cases hk; exact hF _ hP.fs)⟩
set_option maxRecDepth 20000 in
set_option maxHeartbeats 2000000 in
theorem Load_bad (page : Int) (hp : -9223372036854775808 ≤ page ∧ page ≤ 9223372036854775807) (v : Value) (l : List UInt8) (h : isPowB page = false ∨ (l.length : Int) % page ≠ 0 ∨ devB page ((l.length : Int) / page) = false) (w : World) (hv : RdB w v l) :
    Calls Try.prog 22 #[v, .int .i64 page] w fun e w' => e = .returned (.tuple #[.pointer none, .int .i64 32]) ∧ w = w' := by
  obtain ⟨A, c, rfl, hm⟩ := hv.form
  cases hq : isPowB page
  · have HP := Lib.hid hq
    clear hq h
    go_enter Try.func22, Try.ntmps22
    go_wp2_with (first
      | (go_at_call 33; refine (isPage_any _ (by omega) _).mono ?_; rintro e w0 ⟨rfl, rfl⟩; rw [HP.out]))
    go_ret2
    exact ⟨rfl, rfl⟩
  have h5 := isPowB_range hq
  have h0 : ¬ page = 0 := by omega
  by_cases hr : (l.length : Int) % page = 0
  · obtain ⟨q, hq2⟩ : ∃ q, (l.length : Int) / page = q := ⟨_, rfl⟩
    have hd : devB page q = false := by
      rw [← hq2]
      rcases h with h | h | h
      · rw [hq] at h; cases h
      · exact absurd hr h
      · exact h
    have hq3 : 0 ≤ q := by rw [← hq2]; exact Int.ediv_nonneg (by omega) (by omega)
    have hq4 : q ≤ 9223372036854775807 := by
      rw [← hq2]
      refine Int.le_trans (Int.ediv_le_self _ (by omega)) ?_
      omega
    have HD := Lib.hid hd
    have HP := Lib.hid hq
    have hb : ((l.length : Int) % page == 0) = true := by simpa using hr
    have hb' : ((l.length : Int) % page != 0) = false := by simpa using hr
    clear hq h hd hr
    go_enter Try.func22, Try.ntmps22
    go_wp2_with (first
      | (go_at_call 33; refine (isPage_any _ (by omega) _).mono ?_; rintro e w0 ⟨rfl, rfl⟩; rw [HP.out])
      | (go_at_call 8; refine (New_bad page _ hp HD.out _).mono ?_; rintro e w1 ⟨rfl, rfl⟩))
    go_ret2
    exact ⟨rfl, rfl⟩
  · have HP := Lib.hid hq
    have hb : ((l.length : Int) % page == 0) = false := by simpa using hr
    have hb' : ((l.length : Int) % page != 0) = true := by simpa using hr
    clear hq h hr
    go_enter Try.func22, Try.ntmps22
    go_wp2_with (first
      | (go_at_call 33; refine (isPage_any _ (by omega) _).mono ?_; rintro e w0 ⟨rfl, rfl⟩; rw [HP.out]))
    go_ret2
    exact ⟨rfl, rfl⟩
/-- Armed anew. -/
def PS.arm (S : PS) (acts : Int) (ks : List Int) (torn at_ : Int) : PS := if S.down then S else { S with acts := if acts < -1 then -1 else acts, keep := ks, torn := torn, at_ := at_ }
theorem PlRaw.armed {w w1 w' : World} {F : Nat → Prop} {r : Raw} {S : PS} {vk : Value} {ks : List Int} {acts torn at_ : Int} (h : PlRaw w F r S) (hb : Below w.heap.size w w1) (hk : Own w1 w.heap.size 3 1 vk ks.length (ivs ks))
    (ha : -1 ≤ acts ∧ acts ≤ 9223372036854775807) (ht : -9223372036854775808 ≤ torn ∧ torn ≤ 9223372036854775807) (hat : -9223372036854775808 ≤ at_ ∧ at_ ≤ 9223372036854775807)
    (hg : w1.grownBy w' (some r.pb)) (hbl : OBlk w' r.pb 66 (plCells { r with vk := vk } { S with acts := acts, keep := ks, torn := torn, at_ := at_ })) :
    PlRaw w' (fun k => F k ∨ vk.ownBlock = some k) { r with vk := vk } { S with acts := acts, keep := ks, torn := torn, at_ := at_ } :=
  have h1 := h.below hb
  { ok := { h.ok with a1 := ha.1, a2 := ha.2, t1 := ht, t2 := hat }
    blk := hbl
    safe := h1.safe.grown hg (fun e => h1.safe.ne h1.blk (by decide) (Option.some.inj e))
    loose := h1.loose.grown hg (fun g hg' e => h1.loose.ne_T h1.blk (by decide) (by rw [hg', e]))
    dlen := h.dlen
    data := fun i hi v hv => ⟨Own.grown (h1.data i hi v hv).1 hg (fun g hg' e => OwB.ne_T (h1.data i hi v hv).1 h1.blk (by decide) (by rw [hg', e])), fun g hg' => ⟨.inl ((h1.data i hi v hv).2 g hg').1, ((h1.data i hi v hv).2 g hg').2⟩⟩
    map := h1.map.heap (hg.block _ h1.map.lt (fun e => h1.map.ne h1.blk (Option.some.inj e)))
    keep := Own.low (Own.grown hk hg (fun g hg' e => Own.ne_T hk h1.blk (by decide) (by rw [hg', e]))) (Nat.zero_le _)
    fp := .inl h.fp, fs := .inl h.fs, fm := .inl h.fm, fl := fun g hg' => .inl (h.fl g hg'), fk := fun g hg' => .inr hg'
    lt := fun k hk' => hk'.elim (fun hf => Nat.lt_of_lt_of_le (h1.lt k hf) hg.size) (fun hf => Nat.lt_of_lt_of_le (Own.lt hk k hf).2 hg.size) }
def ArmAt (w : World) (F : Nat → Prop) (r : Raw) (S' : PS) (e : Ending) (w' : World) : Prop := (∃ v, e = .returned v) ∧ ∃ r' F', r'.pb = r.pb ∧ r'.sb = r.sb ∧ PlRaw w' F' r' S' ∧ Step F w F' w'
set_option maxRecDepth 20000 in
set_option maxHeartbeats 2000000 in
theorem Arm_any (w : World) (F : Nat → Prop) (r : Raw) (S : PS) (acts : Int) (vk : Value) (ks : List Int) (torn at_ : Int) (h : PlRaw w F r S) (hk : RdI w vk ks) (hkl : ks.length * 8 ≤ 140737488355328) (ha : -9223372036854775808 ≤ acts ∧ acts ≤ 9223372036854775807)
    (ht : -9223372036854775808 ≤ torn ∧ torn ≤ 9223372036854775807) (hat : -9223372036854775808 ≤ at_ ∧ at_ ≤ 9223372036854775807) :
    Calls Try.prog 13 #[plPtr r, .int .i64 acts, fallV vk torn at_] w (ArmAt w F r (S.arm acts ks torn at_)) := by
  have hA : Below w.heap.size w (w.alloc (.cells #[vk, .int .i64 torn, .int .i64 at_] 31)) := (Below.refl _ _).alloc (Nat.le_refl _) _
  have lb := h.blk.lt
  have c4 := h.c4
  cases hd : S.down
  · rw [hd] at c4
    have HS : Hid (S.arm acts ks torn at_ = { S with acts := if acts < -1 then -1 else acts, keep := ks, torn := torn, at_ := at_ }) := by show _ = _; unfold PS.arm; rw [hd]; rfl
    clear hd
    have hc := CloneI_any _ ks _ (hk.below hA) hkl
    unfold plPtr fallV
    go_enter Try.func13, Try.ntmps13
    go_wp2_with fail
    refine hc.mono ?_
    rintro e w1 ⟨v1, rfl, ho1, hb1⟩
    have hB1 : Below w.heap.size w w1 := hA.trans (hb1.mono hA.size)
    have hfb := (OBlk.new' w 31 [vk, .int .i64 torn, .int .i64 at_]).below hb1 (by simp)
    have hP1 := h.below hB1
    have k0 := hfb.cell' (j := 0) (u := vk) rfl
    have k1 := hfb.cell' (j := 1) (u := .int .i64 torn) rfl
    have k2 := hfb.cell' (j := 2) (u := .int .i64 at_) rfl
    have g0 := hfb.frozen (j := 0) (by simp)
    have p5 := hP1.c5
    have p6 := hP1.c6
    have p7 := hP1.c7
    have p8 := hP1.c8
    have q5 := hP1.fz (j := 5) (by decide)
    have q6 := hP1.fz (j := 6) (by decide)
    have q7 := hP1.fz (j := 7) (by decide)
    have q8 := hP1.fz (j := 8) (by decide)
    have n1 : ¬ r.pb = w.heap.size := by omega
    have n2 : ¬ w.heap.size = r.pb := by omega
    obtain ⟨A1, cc1, rfl⟩ := Own.slice ho1
    clear c4
    go_wp2_with fail
    go_region
    refine bodyPost_end (results_none rfl _ _ _) rfl ?_
    rw [HS.out]
    have hB2 : Below w.heap.size w (w1.setCell ⟨w.heap.size, 0, none⟩ (.slice A1 ks.length cc1)) := hB1.setCell (Nat.le_refl _) _
    have hko : Own (w1.setCell ⟨w.heap.size, 0, none⟩ (.slice A1 ks.length cc1)) w.heap.size 3 1 (.slice A1 ks.length cc1) ks.length (ivs ks) :=
      (Own.far ho1 (fun e => by have := (Own.lt ho1 _ e).1; simp at this; omega) _).low (by simp)
    have hg := grownBy_trans (grownBy_trans (grownBy_trans (grownBy_setCell (w1.setCell ⟨w.heap.size, 0, none⟩ (.slice A1 ks.length cc1)) ⟨r.pb, 5, none⟩ (.int .i64 (if acts < -1 then -1 else acts))) (grownBy_setCell _ ⟨r.pb, 6, none⟩ (.slice A1 ks.length cc1))) (grownBy_setCell _ ⟨r.pb, 7, none⟩ (.int .i64 torn))) (grownBy_setCell _ ⟨r.pb, 8, none⟩ (.int .i64 at_))
    have hbl := ((((h.below hB2).blk.set 5 (.int .i64 (if acts < -1 then -1 else acts))).set 6 (.slice A1 ks.length cc1)).set 7 (.int .i64 torn)).set 8 (.int .i64 at_)
    have hR := PlRaw.armed (acts := if acts < -1 then -1 else acts) h hB2 hko (by split <;> omega) ht hat hg hbl
    refine ⟨⟨_, rfl⟩, _, _, ?_, ?_, hR.drew, ⟨(((Turn.of_below hB2).grown hg (fun b hb => by cases hb; exact .inl h.fp)).drew), fun k hk => ?_⟩⟩
    · rfl
    · rfl
    · rcases hk with hf | e
      · exact .inl hf
      · exact .inr (Own.lt hko k e).1
  · rw [hd] at c4
    have HS : Hid (S.arm acts ks torn at_ = S) := by show _ = _; unfold PS.arm; rw [hd]; rfl
    clear hd
    unfold plPtr fallV
    go_enter Try.func13, Try.ntmps13
    go_wp2_with fail
    refine bodyPost_end (results_none rfl _ _ _) rfl ?_
    rw [HS.out]
    exact ⟨⟨_, rfl⟩, r, F, rfl, rfl, h.below hA, Turn.of_below hA, fun k hk => .inl hk⟩
end Go.Proofs.Ytipjngoenklioaa

-- plate.Read: the walk.
namespace Go.Proofs.Ytipjngoenklioaa
open Go.RowKit
theorem splice_all {α : Type} (z l : List α) (n : Nat) (hz : z.length = n) (hl : l.length = n) : splice z 0 (l.take (min l.length n)) = l := by
  unfold splice
  rw [hl, Nat.min_self, List.take_of_length_le (Nat.le_of_eq hl), List.take_zero, List.drop_of_length_le (by omega)]
  simp
def ReadBad (w : World) (F : Nat → Prop) (r : Raw) (S : PS) (n : Int) (e : Ending) (w' : World) : Prop := e = .returned (.tuple #[.slice none 0 0, .int .i64 (S.ref n)]) ∧ PlRaw w' F r S ∧ Below w.heap.size w w'
def PS.red (S : PS) : PS := { S with cr := inc64 S.cr }
def ReadOk (w : World) (F : Nat → Prop) (r : Raw) (S : PS) (l : List UInt8) (e : Ending) (w' : World) : Prop := ∃ g, e = .returned (.tuple #[.slice (some ⟨g, 0, none⟩) S.page S.page, .int .i64 0]) ∧ OwB w' w.heap.size (.slice (some ⟨g, 0, none⟩) S.page S.page) l ∧ PlRaw w' F r S.red ∧ Turn F w w' ∧ Off F (.slice (some ⟨g, 0, none⟩) S.page S.page)
set_option maxRecDepth 20000 in
set_option maxHeartbeats 2000000 in
theorem Read_bad (w : World) (F : Nat → Prop) (r : Raw) (S : PS) (n : Int) (h : PlRaw w F r S) (hr : S.ref n ≠ 0) : Calls Try.prog 31 #[plPtr r, .int .i64 n] w (ReadBad w F r S n) := by
  have hrf := refused_any w F r S n h
  have hb1 : (S.ref n == 0) = false := by simpa using hr
  have hb2 : (S.ref n != 0) = true := by simpa using hr
  unfold plPtr at hrf ⊢
  obtain ⟨rr, hrr⟩ : ∃ rr, S.ref n = rr := ⟨_, rfl⟩
  rw [hrr] at hrf hb1 hb2
  have HRR := Lib.hid hrr
  clear hr hrr
  go_enter Try.func31, Try.ntmps31
  go_wp2_with fail
  refine hrf.mono ?_
  rintro e w1 ⟨rfl, hb⟩
  go_wp2_with fail
  go_ret2
  exact ⟨by rw [HRR.out]; rfl, h.below hb, hb⟩
theorem PlRaw.page_len {w : World} {F : Nat → Prop} {r : Raw} {S : PS} (h : PlRaw w F r S) {n : Nat} {l : List UInt8} (hl : readPg S.wild S.pg n = some l) : l.length = S.page := by
  unfold readPg at hl
  split at hl
  · rename_i i hi
    obtain ⟨hlt, _⟩ := lastI_some hi
    rw [List.getElem?_eq_getElem hlt] at hl
    injection hl with hl
    rw [← hl]
    exact (h.ok.we _ (List.getElem_mem hlt)).2
  · exact h.ok.pe _ (List.mem_of_getElem? hl)
theorem PlRaw.read_end {w w1 w2 w3 w4 : World} {F : Nat → Prop} {r : Raw} {S : PS} {l : List UInt8} {e : Ending} (h : PlRaw w F r S) (hw1 : Below w.heap.size w w1) (hP2 : PlRaw w2 F r S.red) (hT2 : w1.grownBy w2 (some r.pb)) (hw3 : Below w2.heap.size w2 w3)
    (hb4 : OBlk w4 w2.heap.size 5 (bvs l)) (hg4 : w3.grownBy w4 (some w2.heap.size)) (hl : l.length = S.page)
    (he : e = .returned (.tuple #[.slice (some ⟨w2.heap.size, 0, none⟩) S.page S.page, .int .i64 0])) : ReadOk w F r S l e w4 := by
  have hs : w.heap.size ≤ w2.heap.size := Nat.le_trans hw1.size hT2.size
  have hP4 : PlRaw w4 F r S.red := (hP2.below hw3).turn (Turn.of_grown (F := fun k => k = w2.heap.size) hg4 (fun k e => (Option.some.inj e).symm)) (fun k hf e => by have := hP2.lt k hf; omega)
  refine ⟨_, he, ?_, hP4, ?_, ?_⟩
  · have := hb4.owB' (base := w.heap.size) hs (by have := h.ok.p2; simp only [maxLen]; omega)
    rwa [hl] at this
  · exact (((Turn.of_below hw1).grown hT2 (fun b e => by cases e; exact .inl h.fp)).new (hw3.mono hs)).grown hg4 (fun b e => by cases e; exact .inr hs)
  · intro g hg hf
    simp [Value.ownBlock] at hg
    have := h.lt g hf
    omega
section
variable {w : World} {F : Nat → Prop} {r : Raw} {S : PS}
theorem PlRaw.entryR (h : PlRaw w F r S.red) {i : Nat} (hi : i < S.wild.length) : ∃ lb c db cd p l, w.cell? ⟨r.pb, 2, none⟩ = some (.slice (some ⟨lb, 0, none⟩) S.wild.length c) ∧ w.cell? ⟨r.pb, 3, none⟩ = some (.map (some r.mb)) ∧
    w.cell? ⟨lb, i * 2 + 1, none⟩ = some (.slice (some ⟨db, 0, none⟩) S.page cd) ∧ OwB w 0 (.slice (some ⟨db, 0, none⟩) S.page cd) l ∧ S.wild[i] = (p, l) ∧ l.length = S.page := by
  obtain ⟨lb, c, db, cd, p, l, _, _, hw, hv, _, _, h1, h2, _, h3⟩ := h.entry hi
  have hw' : S.wild[i]? = some (p, l) := hw
  rw [List.getElem?_eq_getElem hi] at hw'
  exact ⟨lb, c, db, cd, p, l, by rw [h.c2, hv]; rfl, h.c3, h1, h2, Option.some.inj hw', h3⟩
theorem PlRaw.mapR (h : PlRaw w F r S.red) {n : Int} {i : Nat} (hi : lastI S.wild n = some i) : ∃ D : DataW Unit, w.ownsMap Try.prog 3 (plainElem Try.prog 3) r.mb S.wild.length D ∧ Maps.has D (.int .i64 n) = true ∧ ∀ z, D.atKey (.int .i64 n) z = .lit (.int .i64 (i : Int)) := by
  obtain ⟨D, hown, hL⟩ := h.map
  have h1 := (hL.2 n).1
  have h2 := (hL.2 n).2 i
  have e : S.red.wild = S.wild := rfl
  rw [e] at h1 h2
  rw [hi] at h1
  exact ⟨D, hown, h1, h2 hi⟩
theorem PlRaw.mapN (h : PlRaw w F r S.red) {n : Int} (hi : lastI S.wild n = none) : ∃ D : DataW Unit, w.ownsMap Try.prog 3 (plainElem Try.prog 3) r.mb S.wild.length D ∧ Maps.has D (.int .i64 n) = false := by
  obtain ⟨D, hown, hL⟩ := h.map
  have h1 := (hL.2 n).1
  have e : S.red.wild = S.wild := rfl
  rw [e, hi] at h1
  exact ⟨D, hown, h1⟩
theorem PlRaw.placeRd (h : PlRaw w F r S.red) {n : Nat} {l : List UInt8} (hl : S.pg[n]? = some l) (m : Nat) : RdB (w.drewN m) (.slice (some ⟨r.sb, n * S.page, none⟩) S.page (S.sz - n * S.page)) l := by
  obtain ⟨hn, rfl⟩ := List.getElem?_eq_some_iff.1 hl
  have h1 : (n + 1) * S.page = n * S.page + S.page := Nat.succ_mul n S.page
  have hp1 : 512 ≤ S.page := h.ok.p1
  have hnp : n < S.np := by have e : S.pg.length = S.np := h.ok.pl; omega
  have h2 : (n + 1) * S.page ≤ S.sz := by
    rw [show S.sz = S.np * S.page by rw [Nat.mul_comm]; exact h.ok.sn]
    exact Nat.mul_le_mul_right _ hnp
  have hf : S.pg.flatten.length = S.sz := h.flen
  have hc := h.safeRd.cut (lo := n * S.page) (hi := (n + 1) * S.page) (by omega) (by show _ ≤ S.pg.flatten.length; omega)
  rw [if_neg (by show ¬ S.sz = _; omega)] at hc
  have e1 : (n + 1) * S.page - n * S.page = S.page := by omega
  rw [e1] at hc
  have e2 : (S.red.pg.flatten.take ((n + 1) * S.page)).drop (n * S.page) = S.pg[n] := flat_page S.pg n h.ok.pe hn
  rw [e2] at hc
  simp only [Option.map_some, add_row, Nat.zero_add] at hc
  exact hc
end
set_option maxRecDepth 20000 in
set_option maxHeartbeats 4000000 in
theorem Read_ok (w : World) (F : Nat → Prop) (r : Raw) (S : PS) (n : Nat) (l : List UInt8) (h : PlRaw w F r S) (hr : S.ref n = 0) (hn : n < S.np) (hl : readPg S.wild S.pg n = some l) : Calls Try.prog 31 #[plPtr r, .int .i64 (n : Int)] w (ReadOk w F r S l) := by
  have hrf := refused_any w F r S n h
  rw [hr] at hrf
  have hlen := h.page_len hl
  have HLEN := Lib.hid hlen
  have HL := Lib.hid hl
  clear hr hlen hl
  have k1 := h.ok.p1
  have k2 := h.ok.p2
  have k3 := h.ok.n2
  unfold plPtr at hrf ⊢
  have zero : ∀ w : World, (zeroValue 3).run Try.prog w = .ok (.int .i64 0) w := fun w => by kernel_rfl
  go_enter Try.func31, Try.ntmps31
  go_wp2_with fail
  refine hrf.mono ?_
  rintro e w1 ⟨rfl, hb1⟩
  have hP1 := h.below hb1
  have c9 := hP1.c9
  have f9 := hP1.fz (j := 9) (by decide)
  go_upto_region 4 with (fail)
  go_region
  have hg2 := grownBy_trans (grownBy_setCell w1 ⟨r.pb, 9, none⟩ (.int .i64 (inc64 S.cr))) (grownBy_drew _ _)
  have hP2 : PlRaw (w1.setCell ⟨r.pb, 9, none⟩ (.int .i64 (inc64 S.cr))).drew F r S.red := (hP1.pb_write (S' := S.red) (grownBy_setCell w1 ⟨r.pb, 9, none⟩ (.int .i64 (inc64 S.cr))) (hP1.blk.set 9 (.int .i64 (inc64 S.cr))) { hP1.ok with c1 := inc64_range S.cr } rfl rfl rfl).drew
  have e2 : wrap64 (S.cr + 1) = inc64 S.cr := rfl
  rw [e2]
  clear c9 f9 e2
  generalize (w1.setCell ⟨r.pb, 9, none⟩ (.int .i64 (inc64 S.cr))).drew = w2 at *
  have d0 : w2.cell? ⟨r.pb, 0, none⟩ = some (.int .i64 (S.page : Int)) := hP2.c0
  have lt2 := hP2.blk.lt
  have hpb3 : r.pb < w2.heap.size + 1 := by omega
  cases hi : lastI S.wild (n : Int) with
  | some i =>
    obtain ⟨hlt, hpg⟩ := lastI_some hi
    have HI := Lib.hid hi
    have HE := Lib.hid (show S.wild[i].2 = l by have := HL.out; unfold readPg at this; simp only [hi, List.getElem?_eq_getElem hlt] at this; exact Option.some.inj this)
    clear hi hpg
    go_wp2_with (first
      | (at_make; refine wp_make_B rfl (.tmp 28) (.tmp 28) rfl _ S.page rfl rfl (by go_num) (by omega) ?_; intro w3 hb3 hw3 hs3; have hP3 := hP2.below hw3; obtain ⟨lb, lc, db, cd, p, l', d2, d3, cdat, hrd, hx, hx2⟩ := hP3.entryR hlt; obtain ⟨D, hown, hLD⟩ := hP3.mapR HI.out; have HLD := Lib.hid hLD; clear hLD; have ij : (i : Int) < (S.wild.length : Int) := by omega)
      | (at_lookup; refine wpList_lookup_own_ok_int _ rfl (.tmp 34) (.tmp 35) 62 rfl 3 3 .i64 intKeyed Try.underlying62 Try.underlying3 (zero _) _ _ D rfl hown _ _ rfl (key_nat (by omega)) ?_; intro c hc hwc; rw [HLD.out.1]; obtain rfl : c = (i : Int) := (by rw [HLD.out.2] at hc; injection hc with hc; injection hc with _ hc; exact hc.symm); clear hc)
      | ((with_reducible refine at_copy ?_); refine wp_copy_B rfl (.tmp 40) (.tmp 48) rfl _ S.page S.page w2.heap.size 0 rfl _ hb3 (fun _ => rfl) (by simp) _ l' rfl hrd.rd ?_; intro w4 hb4 hg4)
      | fail)
    go_ret2
    have hw := HE.out
    rw [hx] at hw
    simp only at hw
    subst hw
    rw [splice_all _ _ _ (by simp) hx2] at hb4
    exact h.read_end hb1 hP2 hg2 hw3 hb4 hg4 hx2 rfl
  | none =>
    have HI := Lib.hid hi
    have HE := Lib.hid (show S.pg[n]? = some l by have := HL.out; unfold readPg at this; simp only [hi] at this; exact this)
    clear hi
    go_wp2_with (first
      | (at_make; refine wp_make_B rfl (.tmp 28) (.tmp 28) rfl _ S.page rfl rfl (by go_num) (by omega) ?_; intro w3 hb3 hw3 hs3; have hP3 := hP2.below hw3; have d3 := hP3.c3; obtain ⟨D, hown, hLD⟩ := hP3.mapN HI.out; have HLD := Lib.hid hLD; clear hLD)
      | (at_lookup; refine wpList_lookup_own_ok_int _ rfl (.tmp 34) (.tmp 35) 62 rfl 3 3 .i64 intKeyed Try.underlying62 Try.underlying3 (zero _) _ _ D rfl hown _ _ rfl (key_nat (by omega)) ?_; intro c hc hwc; rw [HLD.out]; clear hc)
      | (go_at_call 38; refine (place_any _ F r S.red n hn hP3).mono ?_; rintro e w4 ⟨rfl, m4, rfl⟩)
      | ((with_reducible refine at_copy ?_); refine wp_copy_B rfl (.tmp 50) (.tmp 53) rfl _ S.page S.page w2.heap.size 0 rfl _ (hb3.drewN m4) (fun _ => rfl) (by simp) _ l rfl (hP3.placeRd HE.out m4) ?_; intro w5 hb5 hg5)
      | fail)
    go_ret2
    rw [splice_all _ _ _ (by simp) HLEN.out] at hb5
    exact h.read_end hb1 hP2 hg2 (below_drewN hw3 m4) hb5 hg5 HLEN.out rfl
end Go.Proofs.Ytipjngoenklioaa
