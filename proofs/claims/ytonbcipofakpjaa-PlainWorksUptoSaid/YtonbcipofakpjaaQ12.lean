/- Texts joined: A region that draws its order, whose head only reads and calls quietly, and whos; espalierref06.AsLent; Pieces of memory; espalierref06.Book; (*espalierref06.Book).Owned; espalierref01.ReadFixed of bytes that are there; Bytes that grow, as pieces. -/
import Derived.Test.YtonbcipofakpjaaQ2
import Derived.Test.YtonbcipofakpjaaQ7
import Derived.Test.YtonbcipofakpjaaQ8
import Derived.Test.YtonbcipofakpjaaQ9
import Derived.Test.YtonbcipofakpjaaQ11
import Derived.StillTail
import Derived.Deep.Quiet
-- A region that draws its order, whose head only reads and calls quietly, and whose tail stands in one forced order: the head is walked once in the order of the text, then the tail.
namespace Go.Proofs.Ytonbcipofakpjaa
section
variable {P : Program} {ops : Array Oper} {md : Region.Mode} {C : World → Prop}
/-- Whatever order is picked for the head (places below n); then L. -/
def headAny (P : Program) (md : Region.Mode) (ops : Array Oper) (C : World → Prop) (n : Nat) (L : Array Bool → Act → Prop) : Nat → Array Bool → Act → Prop
  | 0, listed, a => L listed a
  | f + 1, listed, a => Region.ready md ops listed ≠ [] ∧ ∀ i ∈ Region.ready md ops listed, i < n ∧ qOp P ops C i (headAny P md ops C n L f (listed.setIfInBounds i true)) a
theorem any_of_headAny {n g : Nat} {L : Array Bool → Act → Prop} {Q' : Exit → Act → World → Prop} (hL : ∀ listed a w, C w → L listed a → wpAny P md ops Q' g listed a w) :
    ∀ (f : Nat) (listed : Array Bool) (a : Act) (w : World), C w → headAny P md ops C n L f listed a → wpAny P md ops Q' (f + g) listed a w
  | 0, listed, a, w, hw, h => by rw [Nat.zero_add]; exact hL _ _ _ hw h
  | f + 1, listed, a, w, hw, h => by
    rw [show f + 1 + g = (f + g) + 1 by omega]
    exact ⟨fun e => absurd e h.1, fun i hi => wpOp_of_qOp hw (fun a' w' hw' k => any_of_headAny hL f _ a' w' hw' k) (h.2 i hi).2⟩
theorem headAny_first {n i : Nat} {oi : Oper} {v : Value} {L : Array Bool → Act → Prop} (hi : ops[i]? = some oi) (hsel : ∀ (j : Nat) (o : Oper) cs b, ops[j]? = some o → o.op ≠ .select cs b)
    (hs : Region.sinkB md ops n = true) (hc : Region.chainB md ops n = true) (hn : n < ops.size) (hin : i < n)
    (hdone : ∀ listed a, L listed a → ∀ j ∈ Region.ready md ops listed, n ≤ j) :
    ∀ (f : Nat) (listed : Array Bool) (a : Act), HeadInv md ops n listed →
      (∀ j oj, ops[j]? = some oj → j ≠ i → listed.getD j true = false → (∀ e ∈ oj.after, Region.binds md e = true → e.on ≠ i) → oi.apart ops oj = true) →
      i ∈ Region.ready md ops listed → YieldsIn P ops C oi v a →
      headAny P md ops C n L f (listed.setIfInBounds i true) (a.put oi.dst v) → headAny P md ops C n L (f + 1) listed a
  | 0, listed, a, inv, _, hr, hy, H => by
    have hun := (mem_ready.1 hr).1
    refine ⟨fun e => (by rw [e] at hr; cases hr), fun j hj => ?_⟩
    have hjn : j < n := (Nat.lt_or_ge j n).elim id fun h => absurd hj (tail_waits hs hc hn inv _ i rfl hin hun j h)
    refine ⟨hjn, ?_⟩
    by_cases e : j = i
    · subst e; exact hy.qOp hi H
    · have := hdone _ _ H j (ready_mono hj e); omega
  | f + 1, listed, a, inv, hfree, hr, hy, H => by
    have hun := (mem_ready.1 hr).1
    refine ⟨fun e => (by rw [e] at hr; cases hr), fun j hj => ?_⟩
    have hjn : j < n := (Nat.lt_or_ge j n).elim id fun h => absurd hj (tail_waits hs hc hn inv _ i rfl hin hun j h)
    refine ⟨hjn, ?_⟩
    by_cases e : j = i
    · subst e; exact hy.qOp hi H
    obtain ⟨hjun, oj, hoj, hall⟩ := mem_ready.1 hj
    have hnot : ∀ e ∈ oj.after, Region.binds md e = true → e.on ≠ i := fun e he hb heq => by
      have := hall e he hb
      rw [heq, getD_both hun] at this
      cases this
    have h2 := qOp_put hoj (hfree j oj hoj e hjun hnot) (fun cs b => hsel i oi cs b hi) (fun cs b => hsel j oj cs b hoj) hy (H.2 j (ready_mono hj e)).2
    refine qOp_mono (fun a' h3 => ?_) h2
    refine headAny_first hi hsel hs hc hn hin hdone f _ a' (inv.set hj hjn) ?_ (ready_mono hr (Ne.symm e)) h3.1 ?_
    · intro k ok hk hki hku hno
      refine hfree k ok hk hki ?_ hno
      by_cases hjk : j = k
      · subst hjk; exact hjun
      · rwa [getD_set_ne true hjk] at hku
    · rw [Array.setIfInBounds_comm _ _ e]
      exact h3.2
theorem headAny_lex {n g : Nat} {Lq : Act → Prop} (hsel : Region.noSelect ops = true) (hs : Region.sinkB md ops n = true) (hc : Region.chainB md ops n = true) (hn : n < ops.size) :
    ∀ (l : List Oper) (k : Nat) (listed : Array Bool) (a : Act), (∀ j, j < l.length → l[j]? = ops[k + j]?) → k + l.length = n → HeadInv md ops n listed →
    Region.lexHead md ops g l.length k listed = true → wpQuiet P ops C Lq l a →
    headAny P md ops C n (fun listed' a' => Region.seqB md ops g n listed' = true ∧ Lq a') l.length listed a
  | [], k, listed, a, _, hk, _, hB, h => by
    obtain rfl : k = n := by simpa using hk
    exact ⟨by simpa [Region.lexHead] using hB, h⟩
  | o :: l, k, listed, a, hl, hk, inv, hB, h => by
    have h0 : ops[k]? = some o := by simpa using (hl 0 (by simp)).symm
    simp only [List.length_cons, Region.lexHead, Bool.and_eq_true] at hB
    obtain ⟨⟨hr, hf⟩, hB'⟩ := hB
    have hkn : k < n := by simp only [List.length_cons] at hk; omega
    have hr' : k ∈ Region.ready md ops listed := by simpa using hr
    have hst : qOp P ops C k (wpQuiet P ops C Lq l) a := by unfold qOp; simp only [h0]; exact h
    obtain ⟨v, hy, hK⟩ := yieldsIn_of_qOp h0 hst
    exact headAny_first h0 (Region.noSelect_spec hsel) hs hc hn hkn (fun listed' a' hL => seqB_ready hL.1) l.length listed a inv (Region.free_spec h0 hf) hr' hy
      (headAny_lex hsel hs hc hn l (k + 1) _ _ (fun j hj => by have := hl (j + 1) (by simp; omega); simpa [Nat.add_assoc, Nat.add_comm 1 j] using this) (by simp only [List.length_cons] at hk; omega) (inv.set hr' hkn) hB' hK)
/-- The head is walked once, from any world of the class; the tail in its order. -/
theorem wp_region_qtail {id : Nat} {Q : Exit → Act → World → Prop} {a : Act} {w : World} {l : List Oper} (n : Nat) (C : World → Prop) (hC : C w.drew) (hm : P.follows .mixedOrders = true) (hB : Region.lexTailB .any l.toArray n = true)
    (h : wpQuiet P l.toArray C (fun a' => ∀ w', C w' → wpList P l.toArray Q (l.drop n) a' w') (l.take n) a) : (Code.region id l.toArray true).wp P Q a w := by
  simp only [Region.lexTailB, Bool.and_eq_true, decide_eq_true_eq] at hB
  obtain ⟨⟨⟨⟨hsel, hn⟩, hs⟩, hc⟩, hlex⟩ := hB
  have hn' : n < l.length := by simpa using hn
  have htl : (l.take n).length = n := by simp; omega
  have hdl : (l.drop n).length = l.toArray.size - n := by simp
  have inv0 : HeadInv .any l.toArray n (Array.replicate l.toArray.size false) :=
    ⟨by simp, fun j oj _ hl => (by rw [getD_replicate_false] at hl; cases hl), fun t _ ht => getD_in (by simpa using ht) (getD_replicate_false _ _)⟩
  have H := headAny_lex (md := .any) (g := l.toArray.size - n) hsel hs hc hn (l.take n) 0 _ a (fun j hj => by
    have hj' : j < n := by rw [htl] at hj; exact hj
    simp [hj']) (by simpa using htl) inv0 (by rw [htl]; exact hlex) h
  refine wp_region_any hm ?_
  have := any_of_headAny (Q' := Q) (g := l.toArray.size - n) (fun listed a' w' hw' hL => by
    have := wpAny_of_seq (md := .any) (Q' := Q) (l.drop n) n listed a' w' (fun j => by simp [List.getElem?_drop]) (by rw [hdl]; exact hL.1) (hL.2 w' hw')
    rwa [hdl] at this) _ _ _ _ hC H
  rw [htl, show n + (l.toArray.size - n) = l.toArray.size by omega] at this
  exact this
/-- .. at the class of worlds after some draws. -/
theorem wp_region_dtail {id : Nat} {Q : Exit → Act → World → Prop} {a : Act} {w : World} {l : List Oper} (n : Nat) (hm : P.follows .mixedOrders = true) (hB : Region.lexTailB .any l.toArray n = true)
    (h : wpQuiet P l.toArray (fun w' => ∃ k, w' = w.drewN k) (fun a' => ∀ w', (∃ k, w' = w.drewN k) → wpList P l.toArray Q (l.drop n) a' w') (l.take n) a) : (Code.region id l.toArray true).wp P Q a w :=
  wp_region_qtail n _ ⟨1, rfl⟩ hm hB h
end
end Go.Proofs.Ytonbcipofakpjaa

-- espalierref06.AsLent: the walk.
namespace Go.Proofs.Ytonbcipofakpjaa
open Go.RowKit
def asX (L : List CV) (k : Nat) : List CV := List.replicate k (markCV (-8)) ++ L.drop k
theorem asX_length (L : List CV) {k : Nat} (h : k ≤ L.length) : (asX L k).length = L.length := by simp [asX]; omega
theorem asX_at (L : List CV) {k : Nat} (h : k < L.length) : (asX L k)[k]'(by rw [asX_length L (by omega)]; exact h) = L[k] := by
  unfold asX
  rw [List.getElem_append_right (by simp)]
  simp
theorem asX_set (L : List CV) {k : Nat} (h : k < L.length) : (asX L k).set k (markCV (-8)) = asX L (k + 1) := by
  unfold asX
  rw [List.set_append_right _ _ (by simp), List.length_replicate, Nat.sub_self, List.drop_eq_getElem_cons h, List.set_cons_zero, List.replicate_succ', List.append_assoc]
  rfl
structure LaterAt (W : World) (base k : Nat) (ps : List (Nat × Nat)) (cs : List PC) : Prop where
  each : ∀ i (h : i < ps.length) (h' : i < cs.length), k ≤ i → LentAt W base ps[i].1 ps[i].2 cs[i]
theorem LentAt.drewN {w : World} {base gk gv : Nat} {c : PC} (h : LentAt w base gk gv c) : ∀ n, LentAt (w.drewN n) base gk gv c
  | 0 => h
  | n + 1 => ⟨(LentAt.drewN h n).k.drew, (LentAt.drewN h n).v.drew, h.lt⟩
theorem LentAt.turn {F : Nat → Prop} {w w' : World} {base gk gv : Nat} {c : PC} (h : LentAt w base gk gv c) (ht : Turn F w w') (h1 : ¬ F gk) (h2 : ¬ F gv) : LentAt w' base gk gv c :=
  ⟨h.k.turn ht (fun g e => by injection e with e; exact e ▸ h1), h.v.turn ht (fun g e => by injection e with e; exact e ▸ h2), h.lt⟩
/-- What the k-th round finds. -/
theorem as_facts {w0 wr : World} {A : Option Addr} {c n G hi k : Nat} {LL l : List CV} {ps : List (Nat × Nat)} (hl : RdCs w0 (.slice A n c) l) (hbw : Below w0.heap.size w0 wr) (hnn : l.length = n)
    (HLL : lentL ps (pcs l) ++ List.replicate 3 (markCV (-7)) = LL) (hlen : ps.length = n) (hlt : k < n) (hb : OBlk wr G 32 (flatC (asX LL k))) (hla : LaterAt wr (G + 1) k ps (pcs l))
    (hrise : ps.Pairwise (fun p q => p.2 < q.1)) (hps : ∀ p ∈ ps, p.2 < hi) (hs : ∀ c ∈ pcs l, c.key.length ≤ 140737488355328 ∧ c.val.length ≤ 140737488355328) :
    ∃ A1 a1 B1 b1 key ck val pg ct gk gv ad, A = some ad ∧ CV.ok w0 ⟨.slice A1 key.length a1, .slice B1 val.length b1, ⟨key, ck, val, pg, ct⟩⟩ ∧
      (wr.cell? (ad.add (k * 5)) = some (.slice A1 key.length a1) ∧ wr.cell? ⟨(ad.add (k * 5)).block, (ad.add (k * 5)).off + 1, none⟩ = some (.int .i64 ck) ∧ wr.cell? ⟨(ad.add (k * 5)).block, (ad.add (k * 5)).off + 2, none⟩ = some (.slice B1 val.length b1) ∧
        wr.cell? ⟨(ad.add (k * 5)).block, (ad.add (k * 5)).off + 3, none⟩ = some (.int .i64 pg) ∧ wr.cell? ⟨(ad.add (k * 5)).block, (ad.add (k * 5)).off + 4, none⟩ = some (.int .i64 ct)) ∧
      (wr.cell? ⟨G, k * 5, none⟩ = some (.slice (some ⟨gk, 0, none⟩) key.length (key.length + 9)) ∧ wr.cell? ⟨G, k * 5 + 1, none⟩ = some (.int .i64 ck) ∧ wr.cell? ⟨G, k * 5 + 2, none⟩ = some (.slice (some ⟨gv, 0, none⟩) val.length (val.length + 9)) ∧
        wr.cell? ⟨G, k * 5 + 3, none⟩ = some (.int .i64 pg) ∧ wr.cell? ⟨G, k * 5 + 4, none⟩ = some (.int .i64 ct)) ∧
      LentAt wr (G + 1) gk gv ⟨key, ck, val, pg, ct⟩ ∧ G + 1 ≤ gk ∧ gk < gv ∧ gv < hi ∧ key.length ≤ 140737488355328 ∧ val.length ≤ 140737488355328 ∧ Hid (∀ i (h : i < ps.length), k + 1 ≤ i → gv < ps[i].1) := by
  have hcl : (pcs l).length = n := by rw [pcs_length]; exact hnn
  have hll := lentL_length (ps := ps) (cs := pcs l) (by omega)
  have hLLn : LL.length = n + 3 := by rw [← HLL, List.length_append, hll, List.length_replicate]; omega
  have hkLL : k < LL.length := by omega
  have hkL : k < (asX LL k).length := by rw [asX_length LL (by omega)]; omega
  have hkl : k < l.length := by omega
  have hkp : k < ps.length := by omega
  have e : LL[k] = lentCV ps[k].1 ps[k].2 ((pcs l)[k]'(by omega)) := by
    subst HLL
    rw [List.getElem_append_left (by omega)]
    unfold lentL
    rw [List.getElem_zipWith]
  have hcc := cellsC hb k hkL
  rw [asX_at LL hkLL, e, pcs_at hkl] at hcc
  have hlk := hla.each k hkp (by omega) (Nat.le_refl _)
  rw [pcs_at hkl] at hlk
  obtain ⟨z1, z2⟩ := hs l[k].c (by rw [← pcs_at hkl]; exact List.getElem_mem _)
  obtain ⟨ad, rfl, s0, s1, s2, s3, s4⟩ := (hl.below hbw).at_ hkl
  have hx := hl.ok _ (List.getElem_mem hkl)
  have hri : ∀ i (h : i < ps.length), k + 1 ≤ i → ps[k].2 < ps[i].1 := fun i h h1 => (List.pairwise_iff_getElem.1 hrise) k i hkp h (by omega)
  have hgk : G + 1 ≤ ps[k].1 := (Own.lt hlk.k ps[k].1 rfl).1
  have hgv : ps[k].2 < hi := hps _ (List.getElem_mem hkp)
  generalize l[k] = x at *
  obtain ⟨A1, a1, B1, b1, key, ck, val, pg, ct, rfl, _, _⟩ := CV.form hx
  exact ⟨A1, a1, B1, b1, key, ck, val, pg, ct, ps[k].1, ps[k].2, ad, rfl, hx, ⟨s0, s1, s2, s3, s4⟩, hcc, hlk, hgk, hlk.lt, hgv, z1, z2, Lib.hid hri⟩
set_option maxRecDepth 100000 in
set_option maxHeartbeats 8000000 in
theorem AsLentL_any (w0 : World) (v : Value) (l : List CV) (G hi : Nat) (ps : List (Nat × Nat)) (w : World) (hl : RdCs w0 v l) (hb0 : Below w0.heap.size w0 w) (hG : w0.heap.size ≤ G) (hGh : G < hi) (hhi : hi ≤ w.heap.size)
    (hb : OBlk w G 32 (flatC (lentL ps (pcs l) ++ List.replicate 3 (markCV (-7))))) (hL : LentsAt w (G + 1) ps (pcs l)) (hps : ∀ p ∈ ps, p.2 < hi)
    (hn : (l.length + 3) * 72 ≤ 281474976710656) (hs : ∀ c ∈ pcs l, c.key.length ≤ 140737488355328 ∧ c.val.length ≤ 140737488355328) :
    Calls Try.prog 17 #[.slice (some ⟨G, 0, none⟩) l.length (l.length + 3), v] w fun e w' => e = .returned (.bool true) ∧ Turn (fun g => G ≤ g ∧ g < hi) w w' := by
  obtain ⟨A, c, rfl, hm, hc⟩ := hl.slice
  obtain ⟨n, hnn⟩ : ∃ n, l.length = n := ⟨_, rfl⟩
  have hcl : (pcs l).length = n := by rw [pcs_length]; exact hnn
  have hll := lentL_length hL.len
  rw [hcl] at hll
  have hlen := hL.len
  rw [hcl] at hlen
  rw [hnn] at hl hn hm ⊢
  have hLL : (lentL ps (pcs l) ++ List.replicate 3 (markCV (-7))).length = n + 3 := by rw [List.length_append, hll, List.length_replicate]
  have hbi : (asX (lentL ps (pcs l) ++ List.replicate 3 (markCV (-7))) 0) = lentL ps (pcs l) ++ List.replicate 3 (markCV (-7)) := by simp [asX]
  rw [← hbi] at hb
  have HR := Lib.hid hL.rise
  have hla : LaterAt w (G + 1) 0 ps (pcs l) := ⟨fun i h h' _ => hL.each i h h'⟩
  generalize hLLg : lentL ps (pcs l) ++ List.replicate 3 (markCV (-7)) = LL at *
  have HLL := Lib.hid hLLg
  have HPS := Lib.hid hps
  have HS := Lib.hid hs
  have HNN := Lib.hid hnn
  have HLEN := Lib.hid hlen
  have HLLn := Lib.hid hLL
  clear hbi hL hLLg hps hs hnn hcl hll hlen hLL
  go_enter Try.func17, Try.ntmps17
  go_wp2_with fail
  go_loopw [7, 8] (fun gd i wr => ∃ k : Nat, k ≤ n + 3 ∧ gd = .bool true ∧ i = .int .i64 (k : Int) ∧ OBlk wr G 32 (flatC (asX LL k)) ∧ LaterAt wr (G + 1) k ps (pcs l) ∧ Turn (fun g => G ≤ g ∧ g < hi) w wr) (fun _ i _ => n + 3 - (intOf i).toNat)
  case atStart => exact ⟨0, Nat.zero_le _, rfl, rfl, hb, hla, Turn.refl _ _⟩
  case round =>
    clear hb hla
    obtain ⟨k, hk, rfl, rfl, hb, hla, hT⟩ := hrel
    by_cases hlt : k < n + 3
    · have ik : (k : Int) < (n : Int) + 3 := by omega
      have hkL : k < (asX LL k).length := by rw [asX_length LL (by rw [HLLn.out]; omega), HLLn.out]; omega
      obtain ⟨f0, f1, f2, f3, f4⟩ := frozC hb k hkL
      by_cases hkn : k < n
      · have ikn : (k : Int) < (n : Int) := by omega
        have hbw := hb0.trans (hT.below (B := w0.heap.size) hb0.size (fun b h => by omega))
        have hst : (asX LL k).set k (markCV (-8)) = asX LL (k + 1) := asX_set LL (by rw [HLLn.out]; omega)
        have hb9 := fun (w9 : World) (h : OBlk w9 G 32 (flatC (asX LL k))) => set5C h k hkL (markCV (-8))
        rw [hst] at hb9
        have HB9 := Lib.hid hb9
        obtain ⟨A1, a1, B1, b1, key, ck, val, pg, ct, gk, gv, ad, rfl, hx, ⟨s0, s1, s2, s3, s4⟩, ⟨c0, c1, c2, c3, c4⟩, hlk, hgk, hkv, hgv, z1, z2, HRI⟩ := as_facts hl hbw HNN.out HLL.out HLEN.out hkn hb hla HR.out HPS.out HS.out
        have hLC : ∀ m, Calls Try.prog 54 #[.agg #[.slice (some ⟨gk, 0, none⟩) key.length (key.length + 9), .int .i64 ck, .slice (some ⟨gv, 0, none⟩) val.length (val.length + 9), .int .i64 pg, .int .i64 ct], .agg #[.slice A1 key.length a1, .int .i64 ck, .slice B1 val.length b1, .int .i64 pg, .int .i64 ct]] (wr.drewN m) fun e w' => e = .returned (.bool true) ∧ Turn (fun g => g = gk ∨ g = gv) (wr.drewN m) w' :=
          fun m => AsLentCell_any w0 ⟨.slice A1 key.length a1, .slice B1 val.length b1, ⟨key, ck, val, pg, ct⟩⟩ gk gv (wr.drewN m) hx (belowE hbw m) (LentAt.drewN (hlk.low (b := w0.heap.size) (by omega)) m) z1 z2
        obtain ⟨bk, hbk⟩ : ∃ bk, (ck == (-7 : Int)) = bk := ⟨_, rfl⟩
        have HLC := Lib.hid hLC
        clear hLC hx z1 z2 hst hb9 hlk hbw
        have hg6 := fun w9 => grown5 w9 G k (.slice none 0 0) (.int .i64 (-8)) (.slice none 0 0) (.int .i64 0) (.int .i64 0)
        have HG6 := Lib.hid hg6
        clear hg6
        go_upto_region 11 with (fail)
        refine wp_region_dtail 8 (by kernel_rfl) (by kernel_rfl) ?_
        simp only [List.take_succ_cons, List.take_zero, List.drop_succ_cons, List.drop_zero]
        repeat (quiet_step (fail))
        refine wpQuiet_nil ?_
        rintro _ ⟨nq, rfl⟩
        have hno : ¬ (G = gk ∨ G = gv) := by omega
        go_upto_region 12 with (first
          | (go_at_call 54; refine (HLC.out nq).mono ?_; rintro e w7 ⟨rfl, hT7⟩)
          | fail)
        have hT8 : Turn (fun g => g = gk ∨ g = gv) wr w7 := ⟨hT7.os, hT7.tape, hT7.output, hT7.size, hT7.block⟩
        have hb7 := hb.turn hT8 hno
        have hla7 : LaterAt w7 (G + 1) (k + 1) ps (pcs l) := ⟨fun i h h' hi' => by
          have h1 := HRI.out i h hi'
          have h2 := hla.each i h h' (by omega)
          have h3 := h2.lt
          exact h2.turn hT8 (by omega) (by omega)⟩
        have hT9 : Turn (fun g => G ≤ g ∧ g < hi) w w7 := hT.trans hT8 (fun b e => .inl (by omega))
        have hcc := cellsC hb7 k hkL
        obtain ⟨f0, f1, f2, f3, f4⟩ := frozC hb7 k hkL
        have hb10 := HB9.out w7 hb7
        have hg10 := HG6.out w7
        clear hT hT7 hT8 hb hla HRI s0 s1 s2 s3 s4 HLC HB9 HG6
        generalize (asX LL k)[k] = x7 at *
        obtain ⟨c0, c1, c2, c3, c4⟩ := hcc
        go_wp2_with fail
        refine ⟨⟨k + 1, by omega, rfl, by go_num, hb10, ⟨fun i h h' hi' => (hla7.each i h h' hi').grown hg10 (fun e => ?_) (fun e => ?_)⟩, hT9.grown hg10 (fun b e => ?_)⟩, by simp [intOf]; omega⟩
        · have h1 : ps[i].1 = G := Option.some.inj e
          have h2 := (Own.lt (hla7.each i h h' hi').k ps[i].1 rfl).1
          omega
        · have h1 : ps[i].2 = G := Option.some.inj e
          have h2 := (Own.lt (hla7.each i h h' hi').v ps[i].2 rfl).1
          omega
        · have e' : G = b := Option.some.inj e
          exact .inl ⟨by omega, by omega⟩
      · have ikn : ¬ (k : Int) < (n : Int) := by omega
        have hkLL : k < LL.length := by rw [HLLn.out]; exact hlt
        have hcc := cellsC hb k hkL
        have e : LL[k] = markCV (-7) := by
          have h := HLL.out
          subst h
          have hll := lentL_length (ps := ps) (cs := pcs l) (by rw [HLEN.out, pcs_length, HNN.out])
          rw [List.getElem_append_right (by rw [hll, pcs_length, HNN.out]; omega), List.getElem_replicate]
        rw [asX_at LL hkLL, e] at hcc
        obtain ⟨c0, c1, c2, c3, c4⟩ := hcc
        unfold markCV at c0 c1 c2 c3 c4
        have hb6 := set5C hb k hkL (markCV (-8))
        rw [asX_set LL hkLL] at hb6
        have hg6 := grown5 wr G k (.slice none 0 0) (.int .i64 (-8)) (.slice none 0 0) (.int .i64 0) (.int .i64 0)
        clear e
        go_wp2_with fail
        refine ⟨⟨k + 1, by omega, rfl, by go_num, hb6, ⟨fun i h h' hi => by have := HLEN.out; omega⟩, hT.grown hg6 (fun b e => ?_)⟩, by simp [intOf]; omega⟩
        have e' : G = b := Option.some.inj e
        exact .inl ⟨by omega, by omega⟩
    · obtain rfl : k = n + 3 := by omega
      clear hb hla
      go_wp2_with fail
      go_ret
      exact ⟨rfl, hT⟩
end Go.Proofs.Ytonbcipofakpjaa

-- Pieces of memory: a book, cells that were lent.
namespace Go.Proofs.Ytonbcipofakpjaa
open Go.RowKit
theorem Sep.rdCs {w0 w v : World} {L : List Ent} {x : Value} {l : List CV} (h : Sep w0 w L) (hm : oldE v ∈ L) (hr : RdCs v x l) : RdCs w x l :=
  ⟨hr.form.keep (h.old_cell hm), fun y hy => { hr.ok y hy with k := h.rd hm (hr.ok y hy).k, v := h.rd hm (hr.ok y hy).v }⟩
/-! ### cells that were lent -/
structure LentsIn (w : World) (G hi : Nat) (ps : List (Nat × Nat)) (cs : List PC) : Prop where
  blk : OBlk w G 32 (flatC (lentL ps cs ++ List.replicate 3 (markCV (-7))))
  each : LentsAt w (G + 1) ps cs
  ps_lt : ∀ p ∈ ps, p.2 < hi
  lt : G < hi
theorem LentsAt.in_ {w : World} {base hi : Nat} {ps : List (Nat × Nat)} {cs : List PC} (h : LentsAt w base ps cs) (hp : ∀ p ∈ ps, p.2 < hi) : ∀ i (h1 : i < ps.length), base ≤ ps[i].1 ∧ ps[i].1 < ps[i].2 ∧ ps[i].2 < hi := fun i h1 => by
  have e := h.each i h1 (by rw [← h.len]; exact h1)
  exact ⟨(Own.lt e.k ps[i].1 rfl).1, e.lt, hp _ (List.getElem_mem h1)⟩
def lentsE (G hi : Nat) (ps : List (Nat × Nat)) (cs : List PC) : Ent :=
  ⟨fun g => G ≤ g ∧ g < hi, fun w => LentsIn w G hi ps cs, fun {w w'} h k => by
    refine ⟨k.blk.of_heap (h G ⟨Nat.le_refl _, k.lt⟩), ⟨k.each.len, fun i h1 h2 => ?_, k.each.rise⟩, k.ps_lt, k.lt⟩
    have e := k.each.each i h1 h2
    obtain ⟨b1, b2, b3⟩ := k.each.in_ k.ps_lt i h1
    exact ⟨Own.heap e.k (fun g hg => h g (by have hg' : ps[i].1 = g := Option.some.inj hg; omega)), Own.heap e.v (fun g hg => h g (by have hg' : ps[i].2 = g := Option.some.inj hg; omega)), e.lt⟩⟩
/-- A lent list reads as the list that it was made of. -/
theorem LentsIn.rd {w : World} {G hi : Nat} {ps : List (Nat × Nat)} {cs : List PC} {n : Nat} (h : LentsIn w G hi ps cs) (hn : cs.length = n) (hm : n + 3 ≤ 140737488355328) (hr : ∀ c ∈ cs, i64r c.kind ∧ i64r c.page ∧ i64r c.count) : RdCs w (.slice (some ⟨G, 0, none⟩) n (n + 3)) (lentL ps cs) := by
  have hll := lentL_length h.each.len
  refine ⟨⟨by rw [flatC_length], _, n + 3, by rw [hll, hn], by omega, by simp only [maxLen]; omega, fun j u hj => ⟨_, rfl, ?_⟩⟩, fun x hx => ?_⟩
  · rw [add_row, h.blk.cell, flatC_append, Nat.zero_add, List.getElem?_append_left (List.getElem?_eq_some_iff.1 hj).1]
    exact hj
  · obtain ⟨i, hi', rfl⟩ := List.getElem_of_mem hx
    rw [hll] at hi'
    have hip : i < ps.length := by rw [h.each.len]; exact hi'
    have e := h.each.each i hip hi'
    have ex : (lentL ps cs)[i]'(by omega) = lentCV ps[i].1 ps[i].2 cs[i] := by simp only [lentL, List.getElem_zipWith]
    rw [ex]
    obtain ⟨r1, r2, r3⟩ := hr cs[i] (List.getElem_mem hi')
    exact ⟨lentC_rd e.k, lentC_rd e.v, r1, r2, r3⟩
theorem pcs_lentL {ps : List (Nat × Nat)} {cs : List PC} (h : ps.length = cs.length) : pcs (lentL ps cs) = cs := by
  refine List.ext_getElem (by rw [pcs_length, lentL_length h]) fun i h1 h2 => ?_
  have hi : i < (lentL ps cs).length := by rw [lentL_length h]; exact h2
  rw [pcs_at hi]
  have hp : i < ps.length := by omega
  have ex : (lentL ps cs)[i] = lentCV ps[i].1 ps[i].2 cs[i] := by simp only [lentL, List.getElem_zipWith]
  rw [ex]; rfl
theorem Lent_sep {w0 w : World} {L : List Ent} {v : Value} {l : List CV} (h : Sep w0 w L) (hl : RdCs w v l) (hn : (l.length + 3) * 72 ≤ 281474976710656) (hs : ∀ c ∈ pcs l, c.key.length ≤ 140737488355328 ∧ c.val.length ≤ 140737488355328) :
    Calls Try.prog 14 #[v] w fun e w' => ∃ G hi ps, e = .returned (.slice (some ⟨G, 0, none⟩) l.length (l.length + 3)) ∧ Sep w0 w' (lentsE G hi ps (pcs l) :: L) := by
  refine (LentL_any v l w hl hn hs).mono ?_
  rintro e w' ⟨ps, rfl, ho, hL, hb⟩
  have hin : ∀ p ∈ ps, p.2 < w'.heap.size := fun p hp => by
    obtain ⟨i, hi, rfl⟩ := List.getElem_of_mem hp
    exact (Own.lt (hL.each i hi (by rw [← hL.len]; exact hi)).v ps[i].2 rfl).2
  exact ⟨w.heap.size, w'.heap.size, ps, rfl, h.new hb (E := lentsE _ _ _ _) ⟨ho, hL, hin, ho.lt⟩ (fun g hg => hg)⟩
theorem AsLent_sep {w0 w5 w : World} {L : List Ent} {v : Value} {l : List CV} {G hi : Nat} {ps : List (Nat × Nat)} (h : Sep w0 w (lentsE G hi ps (pcs l) :: L)) (hm : oldE w5 ∈ L) (h5 : Same w5 w) (hl : RdCs w5 v l)
    (hn : (l.length + 3) * 72 ≤ 281474976710656) (hs : ∀ c ∈ pcs l, c.key.length ≤ 140737488355328 ∧ c.val.length ≤ 140737488355328) :
    Calls Try.prog 17 #[.slice (some ⟨G, 0, none⟩) l.length (l.length + 3), v] w fun e w' => e = .returned (.bool true) ∧ Sep w0 w' L := by
  have hp : LentsIn w G hi ps (pcs l) := h.head
  have hG : w5.heap.size ≤ G := Nat.le_of_not_lt fun e => h.far hm G ⟨Nat.le_refl _, hp.lt⟩ e
  have hhi : hi ≤ w.heap.size := by
    have := h.lt (hi - 1) ⟨by have := hp.lt; omega, by have := hp.lt; omega⟩
    omega
  refine (AsLentL_any w5 v l G hi ps w hl ⟨h5.os, h5.tape, h5.output, h5.size, h.tail.of_mem hm⟩ hG hp.lt hhi hp.blk hp.each hp.ps_lt hn hs).mono ?_
  rintro e w' ⟨rfl, ht⟩
  exact ⟨rfl, h.kill ht⟩
end Go.Proofs.Ytonbcipofakpjaa

-- espalierref06.Book: lists of cells that came out: words and laws.
namespace Go.Proofs.Ytonbcipofakpjaa
open Go.RowKit
theorem Own.cap_same {w : World} {b b' g n n' c c' size : Nat} {T : TypeId} {xs xs' : List Value} (h : Own w b T size (.slice (some ⟨g, 0, none⟩) n c) n xs) (h' : Own w b' T size (.slice (some ⟨g, 0, none⟩) n' c') n' xs') (hs : 0 < size) : c = c' := by
  rcases h.2 with ⟨h, _⟩ | ⟨g1, c1, cs1, hv, _, hg, _, _, h3, _⟩
  · cases h
  rcases h'.2 with ⟨h, _⟩ | ⟨g2, c2, cs2, hv', _, hg', _, _, h3', _⟩
  · cases h
  injection hv with hA _ hc
  injection hA with hA
  injection hA with hA
  injection hv' with hB _ hd
  injection hB with hB
  injection hB with hB
  subst hA; subst hc; subst hB; subst hd
  obtain ⟨_, rfl⟩ := hg.same hg'
  exact Nat.eq_of_mul_eq_mul_right hs (h3.symm.trans h3')
/-- What is in the same block and no longer reads as it did, where the longer one does. -/
theorem Own.shorter {w w' : World} {g n m c c' size : Nat} {T : TypeId} {xs ys : List Value} (hs : 0 < size) (he : Own w 0 T size (.slice (some ⟨g, 0, none⟩) m c) m ys) (hx : Own w 0 T size (.slice (some ⟨g, 0, none⟩) n c') n xs) (hx' : Own w' 0 T size (.slice (some ⟨g, 0, none⟩) n c') n xs)
    (hm : m ≤ n) : Own w' 0 T size (.slice (some ⟨g, 0, none⟩) m c) m ys := by
  have hcc := he.cap_same hx hs
  subst hcc
  rcases he.2 with ⟨h, _⟩ | ⟨g1, c1, cs1, hv, _, hg, a1, _, a3, a4⟩
  · cases h
  rcases hx.2 with ⟨h, _⟩ | ⟨g2, c2, cs2, hv2, _, hg2, _, _, _, b4⟩
  · cases h
  rcases hx'.2 with ⟨h, _⟩ | ⟨g3, c3, cs3, hv3, _, hg3, d1, d2, d3, d4⟩
  · cases h
  injection hv with hA _ hc; injection hA with hA; injection hA with hA; subst hA; subst hc
  injection hv2 with hA _ hc; injection hA with hA; injection hA with hA; subst hA; subst hc
  injection hv3 with hA _ hc; injection hA with hA; injection hA with hA; subst hA; subst hc
  obtain ⟨_, rfl⟩ := hg.same hg2
  have hmn : m * size ≤ n * size := Nat.mul_le_mul_right _ hm
  refine ⟨he.1, .inr ⟨g, c, cs3, rfl, Nat.zero_le _, hg3, a1, d2, d3, ?_⟩⟩
  have e1 : cs3.take (m * size) = (cs3.take (n * size)).take (m * size) := by rw [List.take_take, Nat.min_eq_left hmn]
  have e2 : cs1.take (m * size) = (cs1.take (n * size)).take (m * size) := by rw [List.take_take, Nat.min_eq_left hmn]
  rw [e1, d4, ← b4, ← e2, a4]
/-- Cells of the call's own, of which the first q are of a kind. -/
def OwQ (w : World) (u : Value) (n : Nat) (m : Int) (q : Nat) : Prop := ∃ xs, Own w 0 32 5 u n xs ∧ ∀ k, k < q → xs[k * 5 + 1]? = some (.int .i64 m)
theorem OwQ.grown {w w' : World} {u : Value} {n q : Nat} {m : Int} {row : Option Nat} (h : OwQ w u n m q) (hg : w.grownBy w' row) (hne : ∀ g, u.ownBlock = some g → some g ≠ row) : OwQ w' u n m q := by
  obtain ⟨xs, h1, h2⟩ := h; exact ⟨xs, h1.grown hg hne, h2⟩
theorem OwQ.lt {w : World} {u : Value} {n q : Nat} {m : Int} (h : OwQ w u n m q) : ∀ k, u.ownBlock = some k → k < w.heap.size := by
  obtain ⟨xs, h1, h2⟩ := h; exact fun k hk => (h1.lt k hk).2
theorem OwQ.blkC {w : World} {u : Value} {n q : Nat} {m : Int} (h : OwQ w u n m q) {g : Nat} (hg : u.ownBlock = some g) : ∃ cs, OBlk w g 32 cs := by
  obtain ⟨xs, h1, _⟩ := h; exact h1.oblk hg
theorem OwQ.ne_T {w : World} {u : Value} {n q g : Nat} {m : Int} {T : TypeId} {cs : List Value} (h : OwQ w u n m q) (hg : OBlk w g T cs) (hT : 32 ≠ T) : some g ≠ u.ownBlock := fun e => by
  obtain ⟨cs', h'⟩ := h.blkC e.symm
  exact h'.ne hg hT rfl
theorem OwQ.ne_own {w : World} {u v : Value} {n q N b size : Nat} {m : Int} {T : TypeId} {xs : List Value} (h : OwQ w u n m q) (h' : Own w b T size v N xs) (hT : 32 ≠ T) : ∀ g, u.ownBlock = some g → some g ≠ v.ownBlock := fun g hg e => by
  obtain ⟨cs', h1⟩ := h.blkC hg
  obtain ⟨cs2, h2⟩ := h'.oblk e.symm
  exact h1.ne h2 hT rfl
/-- One more is turned. -/
theorem OwQ.set {w : World} {g n c q : Nat} {m : Int} (h : OwQ w (.slice (some ⟨g, 0, none⟩) n c) n m q) (hq : q < n) :
    OwQ (((((w.setCell ⟨g, q * 5, none⟩ (.slice none 0 0)).setCell ⟨g, q * 5 + 1, none⟩ (.int .i64 m)).setCell ⟨g, q * 5 + 2, none⟩ (.slice none 0 0)).setCell ⟨g, q * 5 + 3, none⟩ (.int .i64 0)).setCell ⟨g, q * 5 + 4, none⟩ (.int .i64 0)) (.slice (some ⟨g, 0, none⟩) n c) n m (q + 1) := by
  obtain ⟨xs, h1, h2⟩ := h
  refine ⟨_, ((((h1.set (q * 5) _).set (q * 5 + 1) _).set (q * 5 + 2) _).set (q * 5 + 3) _).set (q * 5 + 4) _, fun k hk => ?_⟩
  have hl := h1.1
  by_cases e : k = q
  · subst e
    rw [List.getElem?_set_ne (by omega), List.getElem?_set_ne (by omega), List.getElem?_set_ne (by omega), List.getElem?_set_self (by rw [List.length_set]; omega)]
  · rw [List.getElem?_set_ne (by omega), List.getElem?_set_ne (by omega), List.getElem?_set_ne (by omega), List.getElem?_set_ne (by omega), List.getElem?_set_ne (by omega)]
    exact h2 k (by omega)
theorem OwQ.cells {w : World} {g n c q : Nat} {m : Int} {j r : Nat} (h : OwQ w (.slice (some ⟨g, 0, none⟩) n c) n m q) (hj : j < n) (hr : r < 5) : (∃ u, w.cell? ⟨g, j * 5 + r, none⟩ = some u) ∧ w.frozen? ⟨g, j * 5 + r, none⟩ = false := by
  obtain ⟨xs, h1, _⟩ := h
  have hl := h1.1
  have hlt : j * 5 + r < xs.length := by rw [hl]; omega
  exact ⟨⟨_, h1.cells (j * 5 + r) _ (List.getElem?_eq_getElem hlt)⟩, h1.frozen hlt⟩
theorem OwQ.kind {w : World} {g n c q : Nat} {m : Int} {j : Nat} (h : OwQ w (.slice (some ⟨g, 0, none⟩) n c) n m q) (hj : j < q) : w.cell? ⟨g, j * 5 + 1, none⟩ = some (.int .i64 m) := by
  obtain ⟨xs, h1, h2⟩ := h
  exact h1.cells (j * 5 + 1) _ (h2 j hj)
/-- The slice e holds the marks of list b; where it lies in x's block it is no longer than n, and b is x's list. -/
def KOk (w : World) (x : Value) (n : Nat) (bx : Nat) (e : Value) (m b : Nat) : Prop := OwQ w e m (1000 + (b : Int)) m ∧ (∀ g, e.ownBlock = some g → x.ownBlock = some g → m ≤ n ∧ b = bx)
theorem KOk.step {w w' : World} {n s : Nat} {x x' e : Value} {xs : List Value} {bx m b : Nat} (h : KOk w x n bx e m b) (hx : Own w 0 32 5 x n xs) (hx' : Own w' 0 32 5 x n xs) (hg : w.grownBy w' x.ownBlock)
    (hb : x'.ownBlock = x.ownBlock ∨ x'.ownBlock = some s) (hs : w.heap.size ≤ s) : KOk w' x' (n + 1) bx e m b := by
  obtain ⟨ho, hm⟩ := h
  have hnew : ∀ g, e.ownBlock = some g → x'.ownBlock = some g → m ≤ n + 1 ∧ b = bx := by
    intro g he hxe
    rcases hb with hb | hb
    · rw [hb] at hxe
      have := hm g he hxe
      exact ⟨by omega, this.2⟩
    · rw [hb] at hxe
      injection hxe with hxe
      have := ho.lt g he; omega
  refine ⟨?_, hnew⟩
  by_cases hsame : ∃ g, e.ownBlock = some g ∧ x.ownBlock = some g
  · obtain ⟨g, he, hxg⟩ := hsame
    obtain ⟨hmn, rfl⟩ := hm g he hxg
    obtain ⟨ys, ho, hmk⟩ := ho
    rcases ho.form with ⟨rfl, _⟩ | ⟨g1, c1, rfl, _⟩
    · cases he
    rcases hx.form with ⟨rfl, _⟩ | ⟨g2, c2, rfl, _⟩
    · cases hxg
    simp [Value.ownBlock] at he hxg
    subst he; subst hxg
    exact ⟨ys, ho.shorter (by omega) hx hx' hmn, hmk⟩
  · exact ho.grown hg (fun g he hr => hsame ⟨g, he, hr.symm⟩)
theorem KOk.grown {w w' : World} {n : Nat} {x e : Value} {bx m b : Nat} {row : Option Nat} (h : KOk w x n bx e m b) (hg : w.grownBy w' row) (hne : ∀ g, e.ownBlock = some g → some g ≠ row) : KOk w' x n bx e m b :=
  ⟨h.1.grown hg hne, h.2⟩
theorem KOk.fresh {w : World} {n n' : Nat} {x y e : Value} {bx by' m b : Nat} (h : KOk w x n bx e m b) (hne : ∀ g, e.ownBlock = some g → y.ownBlock ≠ some g) : KOk w y n' by' e m b :=
  ⟨h.1, fun g he hy => absurd hy (hne g he)⟩
/-- Where the growing of list k stands. -/
structure InvK (F : Nat → Prop) (w : World) (s2 : Nat) (vs : List Value) (f : Nat → Nat) (v : Value) (k q : Nat) (gr x : Value) (es : List Value) (wi : World) : Prop where
  len : es.length = 5 * k + q
  own : Own wi s2 25 1 gr es.length es
  ox : OwQ wi x (f k + q) (1000 + (k : Int)) (f k + q)
  hE : ∀ (j : Nat) (e : Value), es[j]? = some e → (∃ m, KOk wi x (f k + q) k e m (j / 5)) ∧ ∀ (i : Nat) (u : Value), k < i → vs[i]? = some u → ∀ g, e.ownBlock = some g → u.ownBlock ≠ some g
  hk : ∀ (u : Value), vs[k]? = some u → KOk wi x (f k + q) k u (f k) k
  hx : ∀ (i : Nat) (u : Value), i ≠ k → vs[i]? = some u → ∀ g, x.ownBlock = some g → u.ownBlock ≠ some g
  hv : Own wi 0 25 1 v vs.length vs
  hl : ∀ (j : Nat) (u : Value), j ≠ k → vs[j]? = some u → OwQ wi u (f j) (1000 + (j : Int)) (f j)
  hs : ∀ (j : Nat) (u : Value), vs[j]? = some u → ∀ g, u.ownBlock = some g → g < s2
  ht : Turn F w wi
  hxF : ∀ g, x.ownBlock = some g → F g ∨ w.heap.size ≤ g
  s2w : w.heap.size ≤ s2
  size : s2 ≤ wi.heap.size
section
variable {F : Nat → Prop} {w wi w3 w4 : World} {s2 : Nat} {vs : List Value} {f : Nat → Nat} {v : Value} {k q : Nat} {gr x x3 gr4 : Value} {es xs : List Value}
/-- A cell is put behind x, and x is kept. -/
theorem InvK.step (h : InvK F w s2 vs f v k q gr x es wi) (hq : q < 5) (hV : ∀ g, v.ownBlock = some g → g < s2)
    (hox : Own wi 0 32 5 x (f k + q) xs) (hmk : ∀ j, j < f k + q → xs[j * 5 + 1]? = some (.int .i64 (1000 + (k : Int))))
    (ho3 : Own w3 0 32 5 x3 (f k + q + 1) (xs ++ [.slice none 0 0, .int .i64 (1000 + (k : Int)), .slice none 0 0, .int .i64 0, .int .i64 0])) (hg3 : wi.grownBy w3 x.ownBlock) (hb3 : x3.ownBlock = x.ownBlock ∨ x3.ownBlock = some (wi.heap.size + 1))
    (hk3 : Own w3 0 32 5 x (f k + q) xs)
    (hgr4 : Own w4 s2 25 1 gr4 (es.length + 1) (es ++ [x3])) (hg4 : w3.grownBy w4 gr.ownBlock) : InvK F w s2 vs f v k (q + 1) gr4 x3 (es ++ [x3]) w4 := by
  have hlen := h.len
  have hTT : 32 ≠ 25 := by decide
  have hgr3 : Own w3 s2 25 1 gr es.length es := h.own.grown hg3 (fun g hg e => h.ox.ne_own h.own hTT g e.symm hg.symm)
  have ho3q : OwQ w3 x3 (f k + (q + 1)) (1000 + (k : Int)) (f k + (q + 1)) := by
    refine ⟨_, ho3, fun j hj => ?_⟩
    have hl := hox.1
    rcases Nat.lt_or_ge j (f k + q) with h1 | h1
    · rw [List.getElem?_append_left (by omega)]
      exact hmk j h1
    · have : j = f k + q := by omega
      subst this
      rw [List.getElem?_append_right (by omega), hl, Nat.add_sub_cancel_left]
      rfl
  have hsz := h.ht.size
  have s3 := hg3.size
  have s4 := hg4.size
  have hz := h.size
  have hne : ∀ {u : Value} {n q' : Nat} {m : Int}, OwQ w3 u n m q' → ∀ g, u.ownBlock = some g → some g ≠ gr.ownBlock := fun hu => hu.ne_own hgr3 hTT
  have hv3 : Own w3 0 25 1 v vs.length vs := h.hv.grown hg3 (fun g hg e => h.ox.ne_own h.hv hTT g e.symm hg.symm)
  have hxx : ∀ (i : Nat) (u : Value), i ≠ k → vs[i]? = some u → ∀ g, x3.ownBlock = some g → u.ownBlock ≠ some g := by
    intro i u hi hu g hg hu'
    rcases hb3 with e | e
    · exact h.hx i u hi hu g (e ▸ hg) hu'
    · rw [e] at hg
      injection hg with hg
      have := h.hs i u hu g hu'
      omega
  refine ⟨by simp [hlen]; omega, by simpa using hgr4, ho3q.grown hg4 (hne ho3q), ?_, fun u hu => ?_, hxx, ?_, fun j u hj hu => ?_, h.hs, ?_, ?_, h.s2w, by omega⟩
  · intro j e hj
    rcases Nat.lt_or_ge j es.length with hlt | hge
    · rw [List.getElem?_append_left hlt] at hj
      obtain ⟨⟨m, he⟩, hn⟩ := h.hE j e hj
      have he3 := he.step hox hk3 hg3 hb3 (by omega)
      exact ⟨⟨m, he3.grown hg4 (hne he3.1)⟩, hn⟩
    · rw [List.getElem?_append_right hge] at hj
      have hj0 : j = es.length := by
        have := (List.getElem?_eq_some_iff.mp hj).1
        simp at this; omega
      subst hj0
      simp at hj
      subst hj
      have hd : es.length / 5 = k := by rw [hlen]; omega
      rw [hd]
      exact ⟨⟨_, ho3q.grown hg4 (hne ho3q), fun g _ _ => ⟨Nat.le_refl _, rfl⟩⟩, fun i u hi hu => hxx i u (by omega) hu⟩
  · have he3 := (h.hk u hu).step hox hk3 hg3 hb3 (by omega)
    exact he3.grown hg4 (hne he3.1)
  · refine hv3.grown hg4 (fun g hg he => ?_)
    have h1 := hV g hg
    have h2 := (hgr3.lt g he.symm).1
    omega
  · have h3 := (h.hl j u hj hu).grown hg3 (fun g hg he => h.hx j u hj hu g he.symm hg)
    exact h3.grown hg4 (hne h3)
  · refine (h.ht.grown hg3 (fun g hg => h.hxF g hg)).grown hg4 (fun g hg => ?_)
    have h1 := (hgr3.lt g hg).1
    have h2 := h.s2w
    right; omega
  · intro g hg
    rcases hb3 with e | e
    · exact h.hxF g (e ▸ hg)
    · rw [e] at hg
      injection hg with hg
      right; omega
end
theorem InvK.gr3 {F : Nat → Prop} {w wi : World} {s2 : Nat} {vs : List Value} {f : Nat → Nat} {v : Value} {k q : Nat} {gr x : Value} {es : List Value} (h : InvK F w s2 vs f v k q gr x es wi) :
    ∀ w3, wi.grownBy w3 x.ownBlock → Own w3 s2 25 1 gr es.length es := fun _ hg3 => h.own.grown hg3 (fun g hg e => h.ox.ne_own h.own (by decide) g e.symm hg.symm)
theorem LC_info : (Try.prog.info? 25).map (fun i => (i.zero, i.size, i.bytes)) = some (some (.slice none 0 0), 1, 24) := by kernel_rfl
section laws
variable {w : World} {ops : Array Oper} {rest : List Oper} {o : Oper} {a : Act} {Q : Exit → Act → World → Prop}
/-- append(vs, u) of one list of cells that has just been laid. -/
theorem wp_append_LC (hgd : o.guard = none) (s x : Operand)
    (ho : o.op = .call { callee := .builtin .append, args := #[s, x], argTypes := #[54, 54] })
    (base : Nat) (v : Value) (vs : List Value) (hs : a.eval s = v) (hown : Own w base 25 1 v vs.length vs)
    (u : Value) (hu : u.oneCell' = true) (T : TypeId) (hx : a.eval x = .slice (some ⟨w.heap.size, 0, none⟩) 1 1) (hsm : (vs.length + 1) * 24 ≤ 140737488355328) (hbase : base ≤ w.heap.size)
    (h : ∀ v' w', Own w' base 25 1 v' (vs.length + 1) (vs ++ [u]) → w.grownBy w' v.ownBlock → (v'.ownBlock = v.ownBlock ∨ (v'.ownBlock = some (w.heap.size + 1))) → wpList Try.prog ops Q rest (a.put o.dst v') w') :
    wpList Try.prog ops Q (o :: rest) a (w.alloc (.cells #[u] T)) := by
  obtain ⟨i, hi, hz0, hz1, hz2⟩ := info_parts LC_info
  refine wp_append hgd s x _ _ ho base 25 i _ 1 24 Try.underlying54 hi hz0 hz1 hz2 rfl v vs.length vs hs (hown.alloc _) (.slice (some ⟨w.heap.size, 0, none⟩) 1 1) 1 [u] hx
    (Rd.src _ Try.underlying54 (by omega) (Rd.one w u T) (by simpa using hu)) (by omega) (by omega) (by simp; omega) ?_
  intro v' w' h1 h2 h3
  refine h v' w' h1 ⟨h2.os, h2.tape, h2.output, ?_, fun k hk hne => (h2.block k (by simp; omega) hne).trans (Below.heap_alloc _ _ _ hk)⟩ (by simpa using h3)
  have := h2.size
  simp at this; omega
/-- append(l, c) of one cell that has just been laid; l reads as it did. -/
theorem wp_append_C1 (hgd : o.guard = none) (s x : Operand)
    (ho : o.op = .call { callee := .builtin .append, args := #[s, x], argTypes := #[25, 25] })
    (v : Value) (n : Nat) (xs : List Value) (hs : a.eval s = v) (hown : Own w 0 32 5 v n xs)
    (m : Int) (T : TypeId) (hx : a.eval x = .slice (some ⟨w.heap.size, 0, none⟩) 1 1) (hsm : (n + 1) * 72 ≤ 140737488355328)
    (h : ∀ v' w', Own w' 0 32 5 v' (n + 1) (xs ++ [.slice none 0 0, .int .i64 m, .slice none 0 0, .int .i64 0, .int .i64 0]) → w.grownBy w' v.ownBlock → (v'.ownBlock = v.ownBlock ∨ (v'.ownBlock = some (w.heap.size + 1))) → Own w' 0 32 5 v n xs → wpList Try.prog ops Q rest (a.put o.dst v') w') :
    wpList Try.prog ops Q (o :: rest) a (w.alloc (.cells #[.slice none 0 0, .int .i64 m, .slice none 0 0, .int .i64 0, .int .i64 0] T)) := by
  obtain ⟨i, hi, hz0, hz1, hz2⟩ := info_parts cell_info
  refine wp_append_keep hgd s x _ _ ho 0 32 i _ 5 72 Try.underlying25 hi hz0 hz1 hz2 rfl v n xs hs (hown.alloc _) (.slice (some ⟨w.heap.size, 0, none⟩) 1 1) 1 [.slice none 0 0, .int .i64 m, .slice none 0 0, .int .i64 0, .int .i64 0] hx
    (Rd.src _ Try.underlying25 (by omega) (Rd.five w _ _ _ _ _ T) (by intro u hu; simp only [List.mem_cons, List.not_mem_nil, or_false] at hu; rcases hu with rfl | rfl | rfl | rfl | rfl <;> rfl)) (by omega) (by omega) (Nat.zero_le _) ?_
  intro v' w' h1 h2 h3 h4
  refine h v' w' h1 ⟨h2.os, h2.tape, h2.output, ?_, fun k hk hne => (h2.block k (by simp; omega) hne).trans (Below.heap_alloc _ _ _ hk)⟩ (by simpa using h3) h4
  have := h2.size
  simp at this; omega
end laws
end Go.Proofs.Ytonbcipofakpjaa

-- (*espalierref06.Book).Owned: the walk.
namespace Go.Proofs.Ytonbcipofakpjaa
open Go.RowKit
theorem OwQ.slice {w : World} {u : Value} {n q : Nat} {m : Int} (h : OwQ w u n m q) : ∃ A c, u = .slice A n c := by obtain ⟨xs, h1, _⟩ := h; exact h1.slice
theorem OwQ.some' {w : World} {B : Option Addr} {n c q : Nat} {m : Int} (h : OwQ w (.slice B n c) n m q) (h0 : 0 < n) : ∃ g, B = some ⟨g, 0, none⟩ := by
  obtain ⟨xs, h1, _⟩ := h
  rcases h1.form with ⟨_, h⟩ | ⟨g, c', h, _⟩
  · omega
  · injection h with h; exact ⟨g, h⟩
theorem Own.some' {w : World} {b n N c size : Nat} {T : TypeId} {B : Option Addr} {xs : List Value} (h : Own w b T size (.slice B n c) N xs) (h0 : 0 < N) : ∃ g, B = some ⟨g, 0, none⟩ := by
  rcases h.form with ⟨_, h⟩ | ⟨g, c', h, _⟩
  · omega
  · injection h with h; exact ⟨g, h⟩
/-- Lists of cells that the call owns: those below k are marked, of the k-th the first q cells. -/
def MkL (w : World) (vs : List Value) (f : Nat → Nat) (k q : Nat) : Prop := ∀ (j : Nat) (u : Value), vs[j]? = some u → OwQ w u (f j) (1000 + (j : Int)) (if j < k then f j else if j = k then q else 0)
theorem MkL.set {w w' : World} {vs : List Value} {f : Nat → Nat} {k q g c n : Nat} (h : MkL w vs f k q) (ha : ApartL vs) (hk : vs[k]? = some (.slice (some ⟨g, 0, none⟩) n c)) (hn : n = f k)
    (hg : w.grownBy w' (some g)) (hs : OwQ w' (.slice (some ⟨g, 0, none⟩) n c) n (1000 + (k : Int)) (q + 1)) : MkL w' vs f k (q + 1) := by
  intro j u hj
  have h0 := h j u hj
  by_cases e : j = k
  · subst e
    rw [hk] at hj
    injection hj with hj
    subst hj
    rw [if_neg (by omega), if_pos rfl, ← hn]
    exact hs
  · rw [if_neg e] at h0 ⊢
    exact h0.grown hg (fun g' hg' => ha j k u _ e hj hk g' hg')
theorem MkL.next {w : World} {vs : List Value} {f : Nat → Nat} {k : Nat} (h : MkL w vs f k (f k)) : MkL w vs f (k + 1) 0 := fun j u hj => by
  have h0 := h j u hj
  by_cases e : j = k
  · subst e
    rw [if_neg (by omega), if_pos rfl] at h0
    rw [if_pos (by omega)]; exact h0
  · by_cases h1 : j < k
    · rw [if_pos h1] at h0; rw [if_pos (by omega)]; exact h0
    · rw [if_neg h1, if_neg e] at h0
      rw [if_neg (by omega)]
      by_cases h2 : j = k + 1
      · rw [if_pos h2]; exact h0
      · rw [if_neg h2]; exact h0
set_option maxRecDepth 100000 in
set_option maxHeartbeats 8000000 in
theorem Lists_any (P : World → Prop) (v : Value) (vs : List Value) (f : Nat → Nat) (bb : Nat) (w : World) (hP : ∀ w1, P w1 → ∃ bv, OBlk w1 bb 56 [bv, v] ∧ Own w1 0 25 1 v vs.length vs ∧ MkL w1 vs f 0 0) (ha : ApartL vs)
    (hn : vs.length ≤ 1000000) (hsz : ∀ j, j < vs.length → f j ≤ 1000000000)
    (hbook : Calls Try.prog 19 #[.pointer (some ⟨bb, 0, none⟩)] w fun e w' => e = .returned (.bool true) ∧ P w') :
    Calls Try.prog 31 #[.pointer (some ⟨bb, 0, none⟩)] w fun e w' => e = .returned (.bool true) ∧ ∃ w1, P w1 ∧ Turn (InL vs) w1 w' := by
  have HPP := Lib.hid hP
  clear hP
  go_enter Try.func31, Try.ntmps31
  go_wp2_with fail
  refine hbook.mono ?_
  rintro e w2 ⟨rfl, hP2⟩
  obtain ⟨bv, hblk, hv, hl⟩ := HPP.out w2 hP2
  obtain ⟨A, cv, rfl⟩ := hv.slice
  have HP2 := Lib.hid hP2
  clear hbook hP2
  have c0 := hblk.cell' (j := 1) rfl
  go_wp2_with fail
  go_loopw [4] (fun i wr => ∃ k : Nat, i = .int .i64 (k : Int) ∧ k ≤ vs.length ∧ Own wr 0 25 1 (.slice A vs.length cv) vs.length vs ∧ MkL wr vs f k 0 ∧ OBlk wr bb 56 [bv, .slice A vs.length cv] ∧ Turn (InL vs) w2 wr)
    (fun i _ => vs.length - (intOf i).toNat)
  case atStart => exact ⟨0, rfl, Nat.zero_le _, hv, hl, hblk, Turn.refl _ _⟩
  case round =>
    clear hv hl hblk c0
    obtain ⟨k, rfl, hk, hv, hl, hblk, hT⟩ := hrel
    have c0 := hblk.cell' (j := 1) rfl
    by_cases hlt : k < vs.length
    · obtain ⟨gL, rfl⟩ := hv.some' (by omega)
      have hku : vs[k]? = some vs[k] := List.getElem?_eq_getElem hlt
      have how := hl k _ hku
      have hcell := hv.cells k _ hku
      obtain ⟨B, c, hform⟩ := how.slice
      rw [hform] at hku hcell
      have HU := Lib.hid hku
      have hm1 := hsz k hlt
      obtain ⟨n, hnf⟩ : ∃ n, f k = n := ⟨_, rfl⟩
      rw [hnf] at hcell hm1 HU
      have HNF := Lib.hid hnf
      clear how hform hku hnf
      go_wp2_with fail
      obtain ⟨wq, rfl⟩ : ∃ wq, wq = wr := ⟨_, rfl⟩
      go_loopw [6] (fun i wi => ∃ q : Nat, i = .int .i64 (q : Int) ∧ q ≤ n ∧ Own wi 0 25 1 (.slice (some ⟨gL, 0, none⟩) vs.length cv) vs.length vs ∧ MkL wi vs f k q ∧ OBlk wi bb 56 [bv, .slice (some ⟨gL, 0, none⟩) vs.length cv] ∧ Turn (InL vs) w2 wi)
        (fun i _ => n - (intOf i).toNat)
      case atStart => exact ⟨0, rfl, Nat.zero_le _, hv, hl, hblk, hT⟩
      case round =>
        clear hv hl hblk hT hcell c0
        obtain ⟨q, rfl, hq, hv, hl, hblk, hT⟩ := hrel
        by_cases hql : q < n
        · have how := hl k _ HU.out
          rw [HNF.out, if_neg (Nat.lt_irrefl k), if_pos rfl] at how
          obtain ⟨g, rfl⟩ := how.some' (by omega)
          obtain ⟨⟨u0, d0⟩, f0⟩ := how.cells (r := 0) hql (by omega)
          obtain ⟨⟨u1, d1⟩, f1⟩ := how.cells (r := 1) hql (by omega)
          obtain ⟨⟨u2, d2⟩, f2⟩ := how.cells (r := 2) hql (by omega)
          obtain ⟨⟨u3, d3⟩, f3⟩ := how.cells (r := 3) hql (by omega)
          obtain ⟨⟨u4, d4⟩, f4⟩ := how.cells (r := 4) hql (by omega)
          rw [Nat.add_zero] at d0 f0
          have hTT : 32 ≠ 25 := by decide
          have hTB : 32 ≠ 56 := by decide
          have hg5 := grown5 wr g q (.slice none 0 0) (.int .i64 (1000 + (k : Int))) (.slice none 0 0) (.int .i64 0) (.int .i64 0)
          have hv5 := hv.grown hg5 (fun g' hg' e => by
            have e' : g' = g := Option.some.inj e
            exact how.ne_own hv hTT g (by rfl) (by rw [hg', e']))
          have hb5 := hblk.grown hg5 (fun e => how.ne_T hblk hTB (by rw [e]; rfl))
          have hs5 := OwQ.set (m := 1000 + (k : Int)) how hql
          have hl5 := hl.set ha HU.out HNF.out.symm hg5 hs5
          have hT5 := hT.grown hg5 (fun b e => .inl ⟨k, _, HU.out, e⟩)
          have HA := Lib.hid (And.intro hv5 (And.intro hl5 (And.intro hb5 hT5)))
          have iq : (q : Int) < (n : Int) := by omega
          clear how hg5 hs5 hv5 hb5 hl5 hT5 hv hl hblk hT hTT hTB
          go_wp2_with fail
          exact ⟨⟨q + 1, by go_num, by omega, HA.out.1, HA.out.2.1, HA.out.2.2.1, HA.out.2.2.2⟩, by simp [intOf]; omega⟩
        · obtain rfl : q = n := by omega
          go_wp2_with fail
          go_roundw
          case rel => exact ⟨k + 1, by go_num, by omega, hv, (by rw [← HNF.out] at hl; exact hl.next), hblk, hT⟩
          case measure => simp [intOf]; omega
    · obtain rfl : k = vs.length := by omega
      have hl2 : ∀ (j : Nat) (u : Value), vs[j]? = some u → OwQ wr u (f j) (1000 + (j : Int)) (f j) := fun j u hj => by
        have hjl := (List.getElem?_eq_some_iff.mp hj).1
        have := hl j u hj
        rwa [if_pos hjl] at this
      clear hl
      go_wp2_with fail
      obtain ⟨w3, rfl⟩ : ∃ w3, w3 = wr := ⟨_, rfl⟩
      have hw2 := hT.size
      go_loopw [7, 8] (fun gr i wr => ∃ (k : Nat) (es : List Value), i = .int .i64 (k : Int) ∧ k ≤ vs.length ∧ es.length = 5 * k ∧ Own wr w3.heap.size 25 1 gr es.length es ∧
          (∀ (j : Nat) (e : Value), es[j]? = some e → (∃ m, KOk wr (.slice none 0 0) 0 0 e m (j / 5)) ∧ ∀ (i : Nat) (u : Value), k ≤ i → vs[i]? = some u → ∀ g, e.ownBlock = some g → u.ownBlock ≠ some g) ∧
          Own wr 0 25 1 (.slice A vs.length cv) vs.length vs ∧ (∀ (j : Nat) (u : Value), vs[j]? = some u → OwQ wr u (f j) (1000 + (j : Int)) (f j)) ∧ (∀ (j : Nat) (u : Value), vs[j]? = some u → ∀ g, u.ownBlock = some g → g < w3.heap.size) ∧
          OBlk wr bb 56 [bv, .slice A vs.length cv] ∧ Turn (InL vs) w2 wr ∧ w3.heap.size ≤ wr.heap.size)
        (fun _ i _ => vs.length - (intOf i).toNat)
      case atStart => exact ⟨0, [], rfl, Nat.zero_le _, rfl, Own.nil _ _ _ _, fun j e h => by simp at h, hv, hl2, fun j u hj g hg => (hl2 j u hj).lt g hg, hblk, hT, Nat.le_refl _⟩
      case round =>
        have hvlt := fun g h => (hv.lt g h).2
        have HV := Lib.hid hvlt
        clear hvlt hv hl2 hT c0 hblk
        obtain ⟨k, es, rfl, hk, hes, hgr, hE, hv, hl, hs, hblk, hT, hsz2⟩ := hrel
        have c0 := hblk.cell' (j := 1) rfl
        by_cases hlt : k < vs.length
        · obtain ⟨gL, rfl⟩ := hv.some' (by omega)
          have hku : vs[k]? = some vs[k] := List.getElem?_eq_getElem hlt
          have how := hl k _ hku
          have hcell := hv.cells k _ hku
          generalize vs[k] = u at *
          have hm1 := hsz k hlt
          have HU := Lib.hid hku
          have HES := Lib.hid hes
          obtain ⟨G, cG, rfl⟩ := hgr.slice
          clear hku
          rw [hes]
          clear hes
          go_wp2_with fail
          obtain ⟨wq, rfl⟩ : ∃ wq, wq = wr := ⟨_, rfl⟩
          go_loopw [7, 9, 10] (fun gr x j wi => ∃ (q : Nat) (es : List Value), j = .int .i64 (q : Int) ∧ q ≤ 5 ∧ InvK (InL vs) w2 w3.heap.size vs f (.slice (some ⟨gL, 0, none⟩) vs.length cv) k q gr x es wi ∧ OBlk wi bb 56 [bv, .slice (some ⟨gL, 0, none⟩) vs.length cv])
            (fun _ _ j _ => 5 - (intOf j).toNat)
          case atStart =>
            refine ⟨0, es, rfl, by omega, ⟨HES.out, ?_, how, ?_, ?_, ?_, hv, fun j u _ hu => hl j u hu, hs, hT, fun g hg => .inl ⟨k, u, HU.out, hg⟩, hw2, hsz2⟩, hblk⟩
            · rw [HES.out]; rw [HES.out] at hgr; exact hgr
            · exact fun j e hj => ⟨⟨(hE j e hj).1.choose, (hE j e hj).1.choose_spec.fresh (fun g hg => (hE j e hj).2 k u (Nat.le_refl _) HU.out g hg)⟩, fun i u' hi hu' => (hE j e hj).2 i u' (Nat.le_of_lt hi) hu'⟩
            · intro u' hu'
              rw [HU.out] at hu'
              injection hu' with hu'
              subst hu'
              exact ⟨how, fun g _ _ => ⟨Nat.le_refl _, rfl⟩⟩
            · exact fun i u' hi hu' g hg hg' => ha k i u u' (fun e => hi e.symm) HU.out hu' g hg hg'.symm
          case round =>
            clear hgr hE hv hl hs hT hsz2 how hcell hblk c0
            obtain ⟨q, es, rfl, hq, hI, hblk⟩ := hrel
            by_cases hql : q < 5
            · have hlen3 := hI.len
              have hel : es.length ≤ 5000005 := by omega
              have hs2 := hI.size
              obtain ⟨xs, hox, hmk⟩ := hI.ox
              have HI := Lib.hid hI
              have HMK := Lib.hid hmk
              obtain ⟨n, hN⟩ : ∃ n, n = f k + q := ⟨_, rfl⟩
              rw [← hN] at hox
              have HN := Lib.hid hN
              have hnb : n ≤ 1000000005 := by omega
              obtain ⟨X, cX, rfl⟩ := hox.slice
              clear hlen3 hN hmk hI
              have iq : (q : Int) < 5 := by omega
              go_upto_region 19 with (first
                | (at_builtin; refine wp_append_C1 rfl (.tmp 65) (.tmp 69) rfl _ n xs rfl hox (1000 + (k : Int)) 32 rfl (by omega) ?_; intro x3 w4 ho3 hg3 hb3 hk3; obtain ⟨B3, c3, rfl⟩ := ho3.slice)
                | fail)
              have ho1 : (Value.slice B3 (n + 1) c3).oneCell' = true := rfl
              have hTB : 25 ≠ 56 := by decide
              have hTC : 32 ≠ 56 := by decide
              have hblk3 := hblk.grown hg3 (fun e => hox.ne_Tb hblk hTC e)
              have hgrn := HI.out.gr3 _ hg3
              have HOX := Lib.hid hox
              clear hTC hox
              go_upto_region 17 with (first
                | (at_builtin; refine wp_append_LC rfl (.tmp 71) (.tmp 73) rfl w3.heap.size _ es rfl hgrn _ ho1 25 rfl (by omega) (Nat.le_trans hs2 hg3.size) ?_; intro gr4 w5 hgr4 hg4 _)
                | fail)
              have hblk4 := hblk3.grown hg4 (fun e => hgrn.ne_Tb hblk3 hTB e)
              have hox := HOX.out
              have hN := HN.out
              subst hN
              go_wp2_with fail
              exact ⟨⟨q + 1, _, by go_num, by omega, HI.out.step hql HV.out hox HMK.out ho3 hg3 hb3 hk3 hgr4 hg4, hblk4⟩, by simp [intOf]; omega⟩
            · obtain rfl : q = 5 := by omega
              have i1 : ¬ ((5 : Nat) : Int) < 5 := by omega
              have HI := Lib.hid hI
              have hlen3 := hI.len
              clear hI
              go_wp2_with fail
              go_roundw
              case rel =>
                have hI := HI.out
                refine ⟨k + 1, es, by go_num, by omega, by omega, hI.own, fun j e hj => ⟨⟨(hI.hE j e hj).1.choose, (hI.hE j e hj).1.choose_spec.fresh (fun g _ h => by cases h)⟩, fun i u' hi hu' => (hI.hE j e hj).2 i u' (by omega) hu'⟩, hI.hv, fun j u' hu' => ?_, hI.hs, hblk, hI.ht, hI.size⟩
                by_cases e : j = k
                · subst e; exact (hI.hk u' hu').1
                · exact hI.hl j u' e hu'
              case measure => simp [intOf]; omega
        · obtain rfl : k = vs.length := by omega
          have hE2 : ∀ (j : Nat) (e : Value), es[j]? = some e → ∃ m, OwQ wr e m (1000 + ((j / 5 : Nat) : Int)) m := fun j e hj => by
            obtain ⟨⟨m, h1⟩, _⟩ := hE j e hj
            exact ⟨m, h1.1⟩
          clear hE
          obtain ⟨G, cG, rfl⟩ := hgr.slice
          have hsm : es.length ≤ 5000000 := by omega
          have HE := Lib.hid hE2
          clear hE2 hes hl
          go_wp2_with fail
          obtain ⟨w5, rfl⟩ : ∃ w5, w5 = wr := ⟨_, rfl⟩
          go_loopw [11] (fun i wr => ∃ j : Nat, i = .int .i64 (j : Int) ∧ j ≤ es.length ∧ wr = w5)
            (fun i _ => es.length - (intOf i).toNat)
          case atStart => exact ⟨0, rfl, Nat.zero_le _, rfl⟩
          case round =>
            obtain ⟨j, rfl, hj, rfl⟩ := hrel
            by_cases hjl : j < es.length
            · have hju : es[j]? = some es[j] := List.getElem?_eq_getElem hjl
              obtain ⟨m, how⟩ := HE.out j _ hju
              obtain ⟨gG, rfl⟩ := hgr.some' (by omega)
              have hcell := hgr.cells j _ hju
              obtain ⟨B, cB, hform⟩ := how.slice
              have hmm : m ≤ 9223372036854775807 := by
                obtain ⟨xs, h1, _⟩ := how
                rcases h1.form with ⟨_, h⟩ | ⟨g, c', _, _, _, h2, h3⟩
                · omega
                · simp only [maxLen] at h3; omega
              rw [hform] at hcell how
              clear hju hform
              go_wp2_with fail
              obtain ⟨w6, rfl⟩ : ∃ w6, w6 = wr := ⟨_, rfl⟩
              go_loopw [12] (fun i wr => ∃ q : Nat, i = .int .i64 (q : Int) ∧ q ≤ m ∧ wr = w6)
                (fun i _ => m - (intOf i).toNat)
              case atStart => exact ⟨0, rfl, Nat.zero_le _, rfl⟩
              case round =>
                obtain ⟨q, rfl, hq, rfl⟩ := hrel
                by_cases hql : q < m
                · obtain ⟨g, rfl⟩ := how.some' (by omega)
                  have hkd := how.kind hql
                  have iq : (q : Int) < (m : Int) := by omega
                  have hdv : (j : Int) / 5 = ((j / 5 : Nat) : Int) := by omega
                  have hbe : ((1000 + ((j / 5 : Nat) : Int)) != (1000 + ((j / 5 : Nat) : Int))) = false := by simp
                  generalize hjd : ((j / 5 : Nat) : Int) = jd at *
                  clear how hjd
                  go_wp2_with fail
                  exact ⟨⟨q + 1, by go_num, by omega, trivial⟩, by simp [intOf]; omega⟩
                · obtain rfl : q = m := by omega
                  go_wp2_with fail
                  exact ⟨⟨j + 1, by go_num, by omega, trivial⟩, by simp [intOf]; omega⟩
            · obtain rfl : j = es.length := by omega
              go_wp2_with fail
              go_ret
              exact ⟨rfl, w2, HP2.out, hT⟩
end Go.Proofs.Ytonbcipofakpjaa

-- espalierref01.ReadFixed of bytes that are there: the walk.
namespace Go.Proofs.Ytonbcipofakpjaa
open Go.RowKit
set_option maxRecDepth 20000 in
set_option maxHeartbeats 2000000 in
theorem RReadFixed_any (v : Value) (l : List UInt8) (a k : Nat) (h1 : 1 ≤ k) (h8 : k ≤ 8) (hal : a + k ≤ l.length) (w : World) (hv : RdB w v l) :
    Calls Try.prog 93 #[v, .int .i64 (a : Int), .int .i64 (k : Int)] w fun e w' => e = .returned (.tuple #[.int .u64 (numF ((l.drop a).take k) : Nat), .int .i64 0]) ∧ w = w' := by
  obtain ⟨A, c, rfl, hm⟩ := hv.form
  go_enter Try.func93, Try.ntmps93
  go_wp2_with fail
  go_loopw [8, 9] (fun n i wr => ∃ (j N : Nat), i = .int .i64 ((a : Int) + (j : Int)) ∧ n = .int .u64 (N : Int) ∧ j ≤ k ∧ Hid (N = numF ((l.drop a).take j)) ∧ w = wr)
    (fun _ i _ => a + k - (intOf i).toNat)
  case atStart => exact ⟨0, 0, by simp, rfl, Nat.zero_le _, Lib.hid (by simp [numF]), rfl⟩
  case round =>
    obtain ⟨j, N, rfl, rfl, hj, HN, rfl⟩ := hrel
    by_cases hlt : j < k
    · have hjl : a + j < l.length := by omega
      obtain ⟨ad, rfl, hc⟩ := hv.at_ hjl
      have hdl : j < (l.drop a).length := by simp; omega
      have hn2 : Hid (numF ((l.drop a).take (j + 1)) = N * 256 + l[a + j].toNat) := Lib.hid (by
        rw [← List.take_append_getElem hdl, numF_snoc, ← HN.out, List.getElem_drop])
      have hN7 : N < 72057594037927936 := by rw [HN.out]; exact numF_lt7 _ (by simp; omega)
      have hxb : l[a + j].toNat < 256 := l[a + j].toNat_lt
      generalize l[a + j].toNat = x at hc hn2 hxb
      have i1 : (a : Int) + (j : Int) < (l.length : Int) := by omega
      go_wp2_with fail
      go_roundw
      case rel => exact ⟨j + 1, N * 256 + x, by go_num, by congr 1; omega, by omega, Lib.hid hn2.out.symm, trivial⟩
      case measure => simp [intOf]; omega
    · obtain rfl : j = k := by omega
      go_wp2_with fail
      go_ret2
      rw [← HN.out]; exact ⟨rfl, rfl⟩
end Go.Proofs.Ytonbcipofakpjaa

-- Bytes that grow, as pieces.
namespace Go.Proofs.Ytonbcipofakpjaa
open Go.RowKit
/-- An append to bytes of the call's own, in the words of pieces. -/
theorem Sep.appended {w0 w w' : World} {v v' : Value} {l m : List UInt8} {L : List Ent} (h : Sep w0 w (bytesE v l :: L)) (ho : OwB w' 0 v' m) (hg : w.grownBy w' v.ownBlock) (hk : v'.ownBlock = v.ownBlock ∨ v'.ownBlock = some w.heap.size) : Sep w0 w' (bytesE v' m :: L) :=
  h.upd (Turn.of_grown hg (fun _ e => e)) ho (fun g hg' => ⟨by
    rcases hk with e | e
    · exact .inl (e.symm.trans hg' : v.ownBlock = some g)
    · right
      have := e.symm.trans hg'
      injection this with this
      omega, (Own.lt ho g hg').2⟩)
theorem Sep.nil {w0 w : World} {L : List Ent} (h : Sep w0 w L) : Sep w0 w (bytesE (.slice none 0 0) [] :: L) :=
  h.cons (OwB.nil w 0) (fun g hg => by cases hg) (fun _ _ g hg => by cases hg)
end Go.Proofs.Ytonbcipofakpjaa
