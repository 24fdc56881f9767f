/- espalierlaw06.PlainEncodes: the statement 'PlainEncodesSaid' is proved: whatever the input, the law returns true and the input reads as it did. -/
import Derived.Test.YtonbcipofakpjaaG1
import Derived.Test.YtonbcipofakpjaaG2
import Derived.Test.YtonbcipofakpjaaG3
import Derived.Test.YtonbcipofakpjaaG9
import Derived.Below
import Derived.ChangeSame
import Derived.WalkKit
import Derived.ProofKit
import Derived.OpenShut
import Derived.SizedLaws
import Derived.Carry
import Derived.Lib.SmallJoins
import Derived.WideKeyArgs
import Derived.Deep.Slices
import Derived.Deep.Fields
import Derived.Test.YtonbcipofakpjaaRows
import Derived.JoinedCond
-- espalierref06.AsLent: the walk.
namespace Go.Proofs.Ytonbcipofakpjaa
open Go.RowKit
def asX (L : List CV) (k : Nat) : List CV := List.replicate k (markCV (-8)) ++ L.drop k
theorem asX_length (L : List CV) {k : Nat} (h : k ≤ L.length) : (asX L k).length = L.length := by simp [asX]; omega
theorem asX_at (L : List CV) {k : Nat} (h : k < L.length) : (asX L k)[k]'(by rw [asX_length L (by omega)]; exact h) = L[k] := by
  unfold asX
  rw [List.getElem_append_right (by simp)]
  simp
theorem asX_set (L : List CV) {k : Nat} (h : k < L.length) : (asX L k).set k (markCV (-8)) = asX L (k + 1) := by
  unfold asX
  rw [List.set_append_right _ _ (by simp), List.length_replicate, Nat.sub_self, List.drop_eq_getElem_cons h, List.set_cons_zero, List.replicate_succ', List.append_assoc]
  rfl
structure LaterAt (W : World) (base k : Nat) (ps : List (Nat × Nat)) (cs : List PC) : Prop where
  each : ∀ i (h : i < ps.length) (h' : i < cs.length), k ≤ i → LentAt W base ps[i].1 ps[i].2 cs[i]
theorem LentAt.drewN {w : World} {base gk gv : Nat} {c : PC} (h : LentAt w base gk gv c) : ∀ n, LentAt (w.drewN n) base gk gv c
  | 0 => h
  | n + 1 => ⟨(LentAt.drewN h n).k.drew, (LentAt.drewN h n).v.drew, h.lt⟩
theorem LentAt.turn {F : Nat → Prop} {w w' : World} {base gk gv : Nat} {c : PC} (h : LentAt w base gk gv c) (ht : Turn F w w') (h1 : ¬ F gk) (h2 : ¬ F gv) : LentAt w' base gk gv c :=
  ⟨h.k.turn ht (fun g e => by injection e with e; exact e ▸ h1), h.v.turn ht (fun g e => by injection e with e; exact e ▸ h2), h.lt⟩
/-- What the k-th round finds. -/
theorem as_facts {w0 wr : World} {A : Option Addr} {c n G hi k : Nat} {LL l : List CV} {ps : List (Nat × Nat)} (hl : RdCs w0 (.slice A n c) l) (hbw : Below w0.heap.size w0 wr) (hnn : l.length = n)
    (HLL : lentL ps (pcs l) ++ List.replicate 3 (markCV (-7)) = LL) (hlen : ps.length = n) (hlt : k < n) (hb : OBlk wr G 32 (flatC (asX LL k))) (hla : LaterAt wr (G + 1) k ps (pcs l))
    (hrise : ps.Pairwise (fun p q => p.2 < q.1)) (hps : ∀ p ∈ ps, p.2 < hi) (hs : ∀ c ∈ pcs l, c.key.length ≤ 140737488355328 ∧ c.val.length ≤ 140737488355328) :
    ∃ A1 a1 B1 b1 key ck val pg ct gk gv ad, A = some ad ∧ CV.ok w0 ⟨.slice A1 key.length a1, .slice B1 val.length b1, ⟨key, ck, val, pg, ct⟩⟩ ∧
      (wr.cell? (ad.add (k * 5)) = some (.slice A1 key.length a1) ∧ wr.cell? ⟨(ad.add (k * 5)).block, (ad.add (k * 5)).off + 1, none⟩ = some (.int .i64 ck) ∧ wr.cell? ⟨(ad.add (k * 5)).block, (ad.add (k * 5)).off + 2, none⟩ = some (.slice B1 val.length b1) ∧
        wr.cell? ⟨(ad.add (k * 5)).block, (ad.add (k * 5)).off + 3, none⟩ = some (.int .i64 pg) ∧ wr.cell? ⟨(ad.add (k * 5)).block, (ad.add (k * 5)).off + 4, none⟩ = some (.int .i64 ct)) ∧
      (wr.cell? ⟨G, k * 5, none⟩ = some (.slice (some ⟨gk, 0, none⟩) key.length (key.length + 9)) ∧ wr.cell? ⟨G, k * 5 + 1, none⟩ = some (.int .i64 ck) ∧ wr.cell? ⟨G, k * 5 + 2, none⟩ = some (.slice (some ⟨gv, 0, none⟩) val.length (val.length + 9)) ∧
        wr.cell? ⟨G, k * 5 + 3, none⟩ = some (.int .i64 pg) ∧ wr.cell? ⟨G, k * 5 + 4, none⟩ = some (.int .i64 ct)) ∧
      LentAt wr (G + 1) gk gv ⟨key, ck, val, pg, ct⟩ ∧ G + 1 ≤ gk ∧ gk < gv ∧ gv < hi ∧ key.length ≤ 140737488355328 ∧ val.length ≤ 140737488355328 ∧ Hid (∀ i (h : i < ps.length), k + 1 ≤ i → gv < ps[i].1) := by
  have hcl : (pcs l).length = n := by rw [pcs_length]; exact hnn
  have hll := lentL_length (ps := ps) (cs := pcs l) (by omega)
  have hLLn : LL.length = n + 3 := by rw [← HLL, List.length_append, hll, List.length_replicate]; omega
  have hkLL : k < LL.length := by omega
  have hkL : k < (asX LL k).length := by rw [asX_length LL (by omega)]; omega
  have hkl : k < l.length := by omega
  have hkp : k < ps.length := by omega
  have e : LL[k] = lentCV ps[k].1 ps[k].2 ((pcs l)[k]'(by omega)) := by
    subst HLL
    rw [List.getElem_append_left (by omega)]
    unfold lentL
    rw [List.getElem_zipWith]
  have hcc := cellsC hb k hkL
  rw [asX_at LL hkLL, e, pcs_at hkl] at hcc
  have hlk := hla.each k hkp (by omega) (Nat.le_refl _)
  rw [pcs_at hkl] at hlk
  obtain ⟨z1, z2⟩ := hs l[k].c (by rw [← pcs_at hkl]; exact List.getElem_mem _)
  obtain ⟨ad, rfl, s0, s1, s2, s3, s4⟩ := (hl.below hbw).at_ hkl
  have hx := hl.ok _ (List.getElem_mem hkl)
  have hri : ∀ i (h : i < ps.length), k + 1 ≤ i → ps[k].2 < ps[i].1 := fun i h h1 => (List.pairwise_iff_getElem.1 hrise) k i hkp h (by omega)
  have hgk : G + 1 ≤ ps[k].1 := (Own.lt hlk.k ps[k].1 rfl).1
  have hgv : ps[k].2 < hi := hps _ (List.getElem_mem hkp)
  generalize l[k] = x at *
  obtain ⟨A1, a1, B1, b1, key, ck, val, pg, ct, rfl, _, _⟩ := CV.form hx
  exact ⟨A1, a1, B1, b1, key, ck, val, pg, ct, ps[k].1, ps[k].2, ad, rfl, hx, ⟨s0, s1, s2, s3, s4⟩, hcc, hlk, hgk, hlk.lt, hgv, z1, z2, Lib.hid hri⟩
set_option maxRecDepth 100000 in
set_option maxHeartbeats 8000000 in
theorem AsLentL_any (w0 : World) (v : Value) (l : List CV) (G hi : Nat) (ps : List (Nat × Nat)) (w : World) (hl : RdCs w0 v l) (hb0 : Below w0.heap.size w0 w) (hG : w0.heap.size ≤ G) (hGh : G < hi) (hhi : hi ≤ w.heap.size)
    (hb : OBlk w G 32 (flatC (lentL ps (pcs l) ++ List.replicate 3 (markCV (-7))))) (hL : LentsAt w (G + 1) ps (pcs l)) (hps : ∀ p ∈ ps, p.2 < hi)
    (hn : (l.length + 3) * 72 ≤ 281474976710656) (hs : ∀ c ∈ pcs l, c.key.length ≤ 140737488355328 ∧ c.val.length ≤ 140737488355328) :
    Calls Try.prog 17 #[.slice (some ⟨G, 0, none⟩) l.length (l.length + 3), v] w fun e w' => e = .returned (.bool true) ∧ Turn (fun g => G ≤ g ∧ g < hi) w w' := by
  obtain ⟨A, c, rfl, hm, hc⟩ := hl.slice
  obtain ⟨n, hnn⟩ : ∃ n, l.length = n := ⟨_, rfl⟩
  have hcl : (pcs l).length = n := by rw [pcs_length]; exact hnn
  have hll := lentL_length hL.len
  rw [hcl] at hll
  have hlen := hL.len
  rw [hcl] at hlen
  rw [hnn] at hl hn hm ⊢
  have hLL : (lentL ps (pcs l) ++ List.replicate 3 (markCV (-7))).length = n + 3 := by rw [List.length_append, hll, List.length_replicate]
  have hbi : (asX (lentL ps (pcs l) ++ List.replicate 3 (markCV (-7))) 0) = lentL ps (pcs l) ++ List.replicate 3 (markCV (-7)) := by simp [asX]
  rw [← hbi] at hb
  have HR := Lib.hid hL.rise
  have hla : LaterAt w (G + 1) 0 ps (pcs l) := ⟨fun i h h' _ => hL.each i h h'⟩
  generalize hLLg : lentL ps (pcs l) ++ List.replicate 3 (markCV (-7)) = LL at *
  have HLL := Lib.hid hLLg
  have HPS := Lib.hid hps
  have HS := Lib.hid hs
  have HNN := Lib.hid hnn
  have HLEN := Lib.hid hlen
  have HLLn := Lib.hid hLL
  clear hbi hL hLLg hps hs hnn hcl hll hlen hLL
  go_enter Try.func17, Try.ntmps17
  go_wp2_with fail
  go_loopw [7, 8] (fun gd i wr => ∃ k : Nat, k ≤ n + 3 ∧ gd = .bool true ∧ i = .int .i64 (k : Int) ∧ OBlk wr G 32 (flatC (asX LL k)) ∧ LaterAt wr (G + 1) k ps (pcs l) ∧ Turn (fun g => G ≤ g ∧ g < hi) w wr) (fun _ i _ => n + 3 - (intOf i).toNat)
  case atStart => exact ⟨0, Nat.zero_le _, rfl, rfl, hb, hla, Turn.refl _ _⟩
  case round =>
    clear hb hla
    obtain ⟨k, hk, rfl, rfl, hb, hla, hT⟩ := hrel
    by_cases hlt : k < n + 3
    · have ik : (k : Int) < (n : Int) + 3 := by omega
      have hkL : k < (asX LL k).length := by rw [asX_length LL (by rw [HLLn.out]; omega), HLLn.out]; omega
      obtain ⟨f0, f1, f2, f3, f4⟩ := frozC hb k hkL
      by_cases hkn : k < n
      · have ikn : (k : Int) < (n : Int) := by omega
        have hbw := hb0.trans (hT.below (B := w0.heap.size) hb0.size (fun b h => by omega))
        have hst : (asX LL k).set k (markCV (-8)) = asX LL (k + 1) := asX_set LL (by rw [HLLn.out]; omega)
        have hb9 := fun (w9 : World) (h : OBlk w9 G 32 (flatC (asX LL k))) => set5C h k hkL (markCV (-8))
        rw [hst] at hb9
        have HB9 := Lib.hid hb9
        obtain ⟨A1, a1, B1, b1, key, ck, val, pg, ct, gk, gv, ad, rfl, hx, ⟨s0, s1, s2, s3, s4⟩, ⟨c0, c1, c2, c3, c4⟩, hlk, hgk, hkv, hgv, z1, z2, HRI⟩ := as_facts hl hbw HNN.out HLL.out HLEN.out hkn hb hla HR.out HPS.out HS.out
        have hLC : ∀ m, Calls Try.prog 54 #[.agg #[.slice (some ⟨gk, 0, none⟩) key.length (key.length + 9), .int .i64 ck, .slice (some ⟨gv, 0, none⟩) val.length (val.length + 9), .int .i64 pg, .int .i64 ct], .agg #[.slice A1 key.length a1, .int .i64 ck, .slice B1 val.length b1, .int .i64 pg, .int .i64 ct]] (wr.drewN m) fun e w' => e = .returned (.bool true) ∧ Turn (fun g => g = gk ∨ g = gv) (wr.drewN m) w' :=
          fun m => AsLentCell_any w0 ⟨.slice A1 key.length a1, .slice B1 val.length b1, ⟨key, ck, val, pg, ct⟩⟩ gk gv (wr.drewN m) hx (belowE hbw m) (LentAt.drewN (hlk.low (b := w0.heap.size) (by omega)) m) z1 z2
        obtain ⟨bk, hbk⟩ : ∃ bk, (ck == (-7 : Int)) = bk := ⟨_, rfl⟩
        have HLC := Lib.hid hLC
        clear hLC hx z1 z2 hst hb9 hlk hbw
        have hg6 := fun w9 => grown5 w9 G k (.slice none 0 0) (.int .i64 (-8)) (.slice none 0 0) (.int .i64 0) (.int .i64 0)
        have HG6 := Lib.hid hg6
        clear hg6
        go_upto_region 11 with (fail)
        refine wp_region_dtail 8 (by kernel_rfl) (by kernel_rfl) ?_
        simp only [List.take_succ_cons, List.take_zero, List.drop_succ_cons, List.drop_zero]
        repeat (quiet_step (fail))
        refine wpQuiet_nil ?_
        rintro _ ⟨nq, rfl⟩
        have hno : ¬ (G = gk ∨ G = gv) := by omega
        go_upto_region 12 with (first
          | (go_at_call 54; refine (HLC.out nq).mono ?_; rintro e w7 ⟨rfl, hT7⟩)
          | fail)
        have hT8 : Turn (fun g => g = gk ∨ g = gv) wr w7 := ⟨hT7.os, hT7.tape, hT7.output, hT7.size, hT7.block⟩
        have hb7 := hb.turn hT8 hno
        have hla7 : LaterAt w7 (G + 1) (k + 1) ps (pcs l) := ⟨fun i h h' hi' => by
          have h1 := HRI.out i h hi'
          have h2 := hla.each i h h' (by omega)
          have h3 := h2.lt
          exact h2.turn hT8 (by omega) (by omega)⟩
        have hT9 : Turn (fun g => G ≤ g ∧ g < hi) w w7 := hT.trans hT8 (fun b e => .inl (by omega))
        have hcc := cellsC hb7 k hkL
        obtain ⟨f0, f1, f2, f3, f4⟩ := frozC hb7 k hkL
        have hb10 := HB9.out w7 hb7
        have hg10 := HG6.out w7
        clear hT hT7 hT8 hb hla HRI s0 s1 s2 s3 s4 HLC HB9 HG6
        generalize (asX LL k)[k] = x7 at *
        obtain ⟨c0, c1, c2, c3, c4⟩ := hcc
        go_wp2_with fail
        refine ⟨⟨k + 1, by omega, rfl, by go_num, hb10, ⟨fun i h h' hi' => (hla7.each i h h' hi').grown hg10 (fun e => ?_) (fun e => ?_)⟩, hT9.grown hg10 (fun b e => ?_)⟩, by simp [intOf]; omega⟩
        · have h1 : ps[i].1 = G := Option.some.inj e
          have h2 := (Own.lt (hla7.each i h h' hi').k ps[i].1 rfl).1
          omega
        · have h1 : ps[i].2 = G := Option.some.inj e
          have h2 := (Own.lt (hla7.each i h h' hi').v ps[i].2 rfl).1
          omega
        · have e' : G = b := Option.some.inj e
          exact .inl ⟨by omega, by omega⟩
      · have ikn : ¬ (k : Int) < (n : Int) := by omega
        have hkLL : k < LL.length := by rw [HLLn.out]; exact hlt
        have hcc := cellsC hb k hkL
        have e : LL[k] = markCV (-7) := by
          have h := HLL.out
          subst h
          have hll := lentL_length (ps := ps) (cs := pcs l) (by rw [HLEN.out, pcs_length, HNN.out])
          rw [List.getElem_append_right (by rw [hll, pcs_length, HNN.out]; omega), List.getElem_replicate]
        rw [asX_at LL hkLL, e] at hcc
        obtain ⟨c0, c1, c2, c3, c4⟩ := hcc
        unfold markCV at c0 c1 c2 c3 c4
        have hb6 := set5C hb k hkL (markCV (-8))
        rw [asX_set LL hkLL] at hb6
        have hg6 := grown5 wr G k (.slice none 0 0) (.int .i64 (-8)) (.slice none 0 0) (.int .i64 0) (.int .i64 0)
        clear e
        go_wp2_with fail
        refine ⟨⟨k + 1, by omega, rfl, by go_num, hb6, ⟨fun i h h' hi => by have := HLEN.out; omega⟩, hT.grown hg6 (fun b e => ?_)⟩, by simp [intOf]; omega⟩
        have e' : G = b := Option.some.inj e
        exact .inl ⟨by omega, by omega⟩
    · obtain rfl : k = n + 3 := by omega
      clear hb hla
      go_wp2_with fail
      go_ret
      exact ⟨rfl, hT⟩
end Go.Proofs.Ytonbcipofakpjaa

-- Pieces of memory: a book, cells that were lent.
namespace Go.Proofs.Ytonbcipofakpjaa
open Go.RowKit
theorem Sep.rdCs {w0 w v : World} {L : List Ent} {x : Value} {l : List CV} (h : Sep w0 w L) (hm : oldE v ∈ L) (hr : RdCs v x l) : RdCs w x l :=
  ⟨hr.form.keep (h.old_cell hm), fun y hy => { hr.ok y hy with k := h.rd hm (hr.ok y hy).k, v := h.rd hm (hr.ok y hy).v }⟩
/-! ### the book -/
def bkF (xs : List (Value × List UInt8)) (j : Nat) : List UInt8 := (xs.getD j (.slice none 0 0, [])).2
def bookE (bb : Nat) (v : Value) (xs : List (Value × List UInt8)) : Ent :=
  ⟨fun g => g = bb ∨ v.ownBlock = some g ∨ InL (xs.map Prod.fst) g, fun w => BookAt w 0 bb v (xs.map Prod.fst) (bkF xs), fun h k =>
    ⟨k.blk.of_heap (h bb (.inl rfl)), Own.heap k.own (fun g hg => h g (.inr (.inl hg))), fun j u hj => Own.heap (k.each j u hj) (fun g hg => h g (.inr (.inr ⟨j, u, hj, hg⟩))), k.apart⟩⟩
theorem Sep.book {w0 w : World} {L : List Ent} (h : Sep w0 w L) : Sep w0 (w.alloc (.cells #[.slice none 0 0] 38)) (bookE w.heap.size (.slice none 0 0) [] :: L) := by
  refine (h.alloc 38 [.slice none 0 0]).weak (fun hp => ⟨hp, Own.nil _ _ _ _, fun j u hj => by simp at hj, fun i j u u' _ hi => by simp at hi⟩) (fun g hg => ?_)
  rcases hg with rfl | hg | ⟨j, u, hj, _⟩
  · rfl
  · cases hg
  · simp at hj
theorem Take_sep {w0 w : World} {L : List Ent} {bb : Nat} {v u : Value} {xs : List (Value × List UInt8)} {l : List UInt8} (h : Sep w0 w (bookE bb v xs :: bytesE u l :: L)) (hn : xs.length ≤ 100000000) :
    Calls Try.prog 18 #[.pointer (some ⟨bb, 0, none⟩), u] w fun e w' => (∃ x, e = .returned x) ∧ ∃ v', Sep w0 w' (bookE bb v' (xs ++ [(u, l)]) :: L) := by
  have hB : BookAt w 0 bb v (xs.map Prod.fst) (bkF xs) := h.head
  have hU : OwB w 0 u l := h.tail.head
  refine (Take_any w 0 bb v _ _ u l hB (Nat.zero_le _) (by simpa using hn) hU (fun j y hj g hg hy => h.far (List.mem_cons_self ..) g (.inr (.inr ⟨j, y, hj, hy⟩)) hg)).mono ?_
  rintro e w' ⟨hx, v', hb', ht, hv'⟩
  refine ⟨hx, v', h.join.upd (ht.mono fun b hb => .inl (hb.elim .inl (fun h => .inr (.inl h)))) (E' := bookE bb v' (xs ++ [(u, l)])) ?_ (fun g hg => ?_)⟩
  · refine ⟨hb'.blk, by simpa using hb'.own, fun j y hj => ?_, by simpa using hb'.apart⟩
    rw [List.map_append] at hj
    have h1 := hb'.each j y hj
    have hlt := (List.getElem?_eq_some_iff.1 hj).1
    simp only [List.length_append, List.length_map, List.map_cons, List.map_nil, List.length_singleton] at hlt
    have e1 : bkF (xs ++ [(u, l)]) j = if j = (xs.map Prod.fst).length then l else bkF xs j := by
      unfold bkF
      rw [List.length_map]
      by_cases hj' : j = xs.length
      · subst hj'; simp [List.getD]
      · rw [if_neg hj']
        simp [List.getD, List.getElem?_append_left (show j < xs.length by omega)]
    rw [e1]; exact h1
  · have hsz := ht.size
    rcases hg with rfl | hg | ⟨j, y, hj, hy⟩
    · exact ⟨.inl (.inl (.inl rfl)), hb'.blk.lt⟩
    · refine ⟨?_, (Own.lt hb'.own g hg).2⟩
      rcases hv' g hg with h1 | h1
      · exact .inl (.inl (.inr (.inl h1)))
      · exact .inr h1
    · refine ⟨.inl ?_, (Own.lt (hb'.each j y (by simpa using hj)) g hy).2⟩
      rw [List.map_append, List.getElem?_append] at hj
      split at hj
      · exact .inl (.inr (.inr ⟨j, y, hj, hy⟩))
      · right
        rw [List.map_cons, List.map_nil, List.getElem?_singleton] at hj
        split at hj
        · injection hj with hj; rw [← hj] at hy; exact hy
        · cases hj
theorem Owned_sep {w0 w : World} {L : List Ent} {bb : Nat} {v : Value} {xs : List (Value × List UInt8)} (h : Sep w0 w (bookE bb v xs :: L)) (hn : xs.length ≤ 8388608) (hl : ∀ p ∈ xs, p.2.length ≤ 1000000000) :
    Calls Try.prog 19 #[.pointer (some ⟨bb, 0, none⟩)] w fun e w' => e = .returned (.bool true) ∧ Sep w0 w' L := by
  refine (BookOwned_any v _ _ 0 bb w h.head (by simpa using hn) (fun j hj => ?_)).mono ?_
  · rw [List.length_map] at hj
    have e : bkF xs j = xs[j].2 := by simp [bkF, List.getD, hj]
    rw [e]; exact hl _ (List.getElem_mem hj)
  · rintro e w' ⟨rfl, ht, _⟩
    exact ⟨rfl, h.kill (ht.mono fun b hb => .inr (.inr hb))⟩
/-! ### cells that were lent -/
theorem lentC_rd0 {w : World} {b0 g m : Nat} {bl : List UInt8} (h : OwB w b0 (.slice (some ⟨g, 0, none⟩) (m + 9) (m + 9)) (bl ++ marks9)) (hl : bl.length = m) : RdB w (.slice (some ⟨g, 0, none⟩) m (m + 9)) bl := by
  have h1 := OwB.take h (m := m) (by omega)
  rw [List.take_left' hl] at h1
  exact h1.rd
theorem lentC_rd {w : World} {b0 g : Nat} {bl : List UInt8} (h : OwB w b0 (.slice (some ⟨g, 0, none⟩) (bl.length + 9) (bl.length + 9)) (bl ++ marks9)) : RdB w (.slice (some ⟨g, 0, none⟩) bl.length (bl.length + 9)) bl := lentC_rd0 h rfl
structure LentsIn (w : World) (G hi : Nat) (ps : List (Nat × Nat)) (cs : List PC) : Prop where
  blk : OBlk w G 32 (flatC (lentL ps cs ++ List.replicate 3 (markCV (-7))))
  each : LentsAt w (G + 1) ps cs
  ps_lt : ∀ p ∈ ps, p.2 < hi
  lt : G < hi
theorem LentsAt.in_ {w : World} {base hi : Nat} {ps : List (Nat × Nat)} {cs : List PC} (h : LentsAt w base ps cs) (hp : ∀ p ∈ ps, p.2 < hi) : ∀ i (h1 : i < ps.length), base ≤ ps[i].1 ∧ ps[i].1 < ps[i].2 ∧ ps[i].2 < hi := fun i h1 => by
  have e := h.each i h1 (by rw [← h.len]; exact h1)
  exact ⟨(Own.lt e.k ps[i].1 rfl).1, e.lt, hp _ (List.getElem_mem h1)⟩
def lentsE (G hi : Nat) (ps : List (Nat × Nat)) (cs : List PC) : Ent :=
  ⟨fun g => G ≤ g ∧ g < hi, fun w => LentsIn w G hi ps cs, fun {w w'} h k => by
    refine ⟨k.blk.of_heap (h G ⟨Nat.le_refl _, k.lt⟩), ⟨k.each.len, fun i h1 h2 => ?_, k.each.rise⟩, k.ps_lt, k.lt⟩
    have e := k.each.each i h1 h2
    obtain ⟨b1, b2, b3⟩ := k.each.in_ k.ps_lt i h1
    exact ⟨Own.heap e.k (fun g hg => h g (by have hg' : ps[i].1 = g := Option.some.inj hg; omega)), Own.heap e.v (fun g hg => h g (by have hg' : ps[i].2 = g := Option.some.inj hg; omega)), e.lt⟩⟩
/-- A lent list reads as the list that it was made of. -/
theorem LentsIn.rd {w : World} {G hi : Nat} {ps : List (Nat × Nat)} {cs : List PC} {n : Nat} (h : LentsIn w G hi ps cs) (hn : cs.length = n) (hm : n + 3 ≤ 140737488355328) (hr : ∀ c ∈ cs, i64r c.kind ∧ i64r c.page ∧ i64r c.count) : RdCs w (.slice (some ⟨G, 0, none⟩) n (n + 3)) (lentL ps cs) := by
  have hll := lentL_length h.each.len
  refine ⟨⟨by rw [flatC_length], _, n + 3, by rw [hll, hn], by omega, by simp only [maxLen]; omega, fun j u hj => ⟨_, rfl, ?_⟩⟩, fun x hx => ?_⟩
  · rw [add_row, h.blk.cell, flatC_append, Nat.zero_add, List.getElem?_append_left (List.getElem?_eq_some_iff.1 hj).1]
    exact hj
  · obtain ⟨i, hi', rfl⟩ := List.getElem_of_mem hx
    rw [hll] at hi'
    have hip : i < ps.length := by rw [h.each.len]; exact hi'
    have e := h.each.each i hip hi'
    have ex : (lentL ps cs)[i]'(by omega) = lentCV ps[i].1 ps[i].2 cs[i] := by simp only [lentL, List.getElem_zipWith]
    rw [ex]
    obtain ⟨r1, r2, r3⟩ := hr cs[i] (List.getElem_mem hi')
    exact ⟨lentC_rd e.k, lentC_rd e.v, r1, r2, r3⟩
theorem pcs_lentL {ps : List (Nat × Nat)} {cs : List PC} (h : ps.length = cs.length) : pcs (lentL ps cs) = cs := by
  refine List.ext_getElem (by rw [pcs_length, lentL_length h]) fun i h1 h2 => ?_
  have hi : i < (lentL ps cs).length := by rw [lentL_length h]; exact h2
  rw [pcs_at hi]
  have hp : i < ps.length := by omega
  have ex : (lentL ps cs)[i] = lentCV ps[i].1 ps[i].2 cs[i] := by simp only [lentL, List.getElem_zipWith]
  rw [ex]; rfl
theorem Lent_sep {w0 w : World} {L : List Ent} {v : Value} {l : List CV} (h : Sep w0 w L) (hl : RdCs w v l) (hn : (l.length + 3) * 72 ≤ 281474976710656) (hs : ∀ c ∈ pcs l, c.key.length ≤ 140737488355328 ∧ c.val.length ≤ 140737488355328) :
    Calls Try.prog 14 #[v] w fun e w' => ∃ G hi ps, e = .returned (.slice (some ⟨G, 0, none⟩) l.length (l.length + 3)) ∧ Sep w0 w' (lentsE G hi ps (pcs l) :: L) := by
  refine (LentL_any v l w hl hn hs).mono ?_
  rintro e w' ⟨ps, rfl, ho, hL, hb⟩
  have hin : ∀ p ∈ ps, p.2 < w'.heap.size := fun p hp => by
    obtain ⟨i, hi, rfl⟩ := List.getElem_of_mem hp
    exact (Own.lt (hL.each i hi (by rw [← hL.len]; exact hi)).v ps[i].2 rfl).2
  exact ⟨w.heap.size, w'.heap.size, ps, rfl, h.new hb (E := lentsE _ _ _ _) ⟨ho, hL, hin, ho.lt⟩ (fun g hg => hg)⟩
theorem AsLent_sep {w0 w5 w : World} {L : List Ent} {v : Value} {l : List CV} {G hi : Nat} {ps : List (Nat × Nat)} (h : Sep w0 w (lentsE G hi ps (pcs l) :: L)) (hm : oldE w5 ∈ L) (h5 : Same w5 w) (hl : RdCs w5 v l)
    (hn : (l.length + 3) * 72 ≤ 281474976710656) (hs : ∀ c ∈ pcs l, c.key.length ≤ 140737488355328 ∧ c.val.length ≤ 140737488355328) :
    Calls Try.prog 17 #[.slice (some ⟨G, 0, none⟩) l.length (l.length + 3), v] w fun e w' => e = .returned (.bool true) ∧ Sep w0 w' L := by
  have hp : LentsIn w G hi ps (pcs l) := h.head
  have hG : w5.heap.size ≤ G := Nat.le_of_not_lt fun e => h.far hm G ⟨Nat.le_refl _, hp.lt⟩ e
  have hhi : hi ≤ w.heap.size := by
    have := h.lt (hi - 1) ⟨by have := hp.lt; omega, by have := hp.lt; omega⟩
    omega
  refine (AsLentL_any w5 v l G hi ps w hl ⟨h5.os, h5.tape, h5.output, h5.size, h.tail.of_mem hm⟩ hG hp.lt hhi hp.blk hp.each hp.ps_lt hn hs).mono ?_
  rintro e w' ⟨rfl, ht⟩
  exact ⟨rfl, h.kill ht⟩
end Go.Proofs.Ytonbcipofakpjaa

-- espalierlaw06.PlainEncodes: the walk.
namespace Go.Proofs.Ytonbcipofakpjaa
open Go.RowKit
def encZ (kind : Int) (l : List PC) (P : Int) : Int := if (isKindB kind && isPowB P) = true then encE kind l P.toNat else 1
def encL (kind : Int) (l : List PC) (P : Int) : List UInt8 := if encZ kind l P = 0 then laidF kind l P.toNat else []
theorem encL_length (kind : Int) (l : List PC) (P : Int) : (encL kind l P).length ≤ 65536 := by
  unfold encL
  split
  · rename_i h
    unfold encZ at h
    split at h
    · rename_i h2
      rw [Bool.and_eq_true] at h2
      have := isPowB_range h2.2
      rw [laidF_length (encE_zero.1 h).2]; omega
    · cases h
  · simp
theorem encZ_range (kind : Int) (l : List PC) (P : Int) : 0 ≤ encZ kind l P ∧ encZ kind l P ≤ 63 := by
  unfold encZ
  split
  · unfold encE
    rcases scan_range kind P.toNat l none with h | h | h
    · rw [h]; simp; split <;> simp
    · rw [h]; simp
    · rw [h]; simp
  · simp
theorem PEncZ (kind : Int) (v : Value) (l : List CV) (P : Int) (hPr : i64r P) (w : World) (hl : RdCs w v l) (hn : l.length ≤ 2000000000000) :
    Calls Try.prog 15 #[.int .i64 kind, v, .int .i64 P] w fun e w' => ∃ u, e = .returned (.tuple #[u, .int .i64 (encZ kind (pcs l) P)]) ∧ OwB w' w.heap.size u (encL kind (pcs l) P) ∧ Below w.heap.size w w' := by
  refine (PEncode_any kind v l P hPr w hl hn).mono ?_
  unfold EncAt encL encZ
  rintro e w' ⟨hb, ⟨h1, rfl⟩ | ⟨h1, ⟨h2, rfl⟩ | ⟨h2, g, rfl, hg, ho⟩⟩⟩
  · rw [if_neg (by rw [h1]; simp), if_neg (by decide)]
    exact ⟨_, rfl, OwB.nil _ _, hb⟩
  · rw [if_pos h1, if_neg h2]
    exact ⟨_, rfl, OwB.nil _ _, hb⟩
  · rw [if_pos h1, if_pos h2, h2]
    rw [Bool.and_eq_true] at h1
    have hP := isPowB_range h1.2
    have hl := laidF_length (kind := kind) (encE_zero.1 h2).2
    have := ho.owB' (base := w.heap.size) hg (by rw [hl]; simp only [maxLen]; omega)
    rw [hl] at this
    exact ⟨_, rfl, this, hb⟩
theorem REncZ (kind : Int) (v : Value) (l : List CV) (P : Int) (w : World) (hl : RdCs w v l) (hn : l.length ≤ 2000000000000) :
    Calls Try.prog 12 #[.int .i64 kind, v, .int .i64 P] w fun e w' => ∃ u, e = .returned (.tuple #[u, .int .i64 (encZ kind (pcs l) P)]) ∧ OwB w' w.heap.size u (encL kind (pcs l) P) ∧ Below w.heap.size w w' := by
  refine (REncode_any kind v l P w hl hn).mono ?_
  unfold REncAt encL encZ
  rintro e w' ⟨hb, ⟨h1, rfl⟩ | ⟨h1, ⟨h2, rfl⟩ | ⟨h2, u, rfl, ho⟩⟩⟩
  · rw [if_neg (by rw [h1]; simp), if_neg (by decide)]
    exact ⟨_, rfl, OwB.nil _ _, hb⟩
  · rw [if_pos h1, if_neg h2]
    exact ⟨_, rfl, OwB.nil _ _, hb⟩
  · rw [if_pos h1, if_pos h2, h2]
    exact ⟨_, rfl, ho, hb⟩
/-- Every second one. -/
def evn {α : Type} : List α → List α
  | [] => []
  | [x] => [x]
  | x :: _ :: r => x :: evn r
theorem evn_mem {α : Type} : ∀ (l : List α) (x : α), x ∈ evn l → x ∈ l
  | [], x, h => h
  | [y], x, h => h
  | y :: z :: r, x, h => by
    rcases List.mem_cons.1 h with rfl | h
    · simp
    · simp [evn_mem r x h]
theorem evn_le {α : Type} : ∀ (l : List α), (evn l).length ≤ l.length
  | [] => Nat.le_refl _
  | [y] => Nat.le_refl _
  | y :: z :: r => by have := evn_le r; simp only [evn, List.length_cons]; omega
theorem evn_snoc2 {α : Type} : ∀ (l : List α) (m : Nat) (_ : m % 2 = 0) (h : m < l.length), evn (l.take (m + 2)) = evn (l.take m) ++ [l[m]]
  | x :: [], 0, _, h => rfl
  | x :: y :: r, 0, _, h => by simp [evn]
  | x :: [], m + 1, _, h => by simp at h
  | x :: y :: r, 1, he, h => by simp at he
  | x :: y :: r, m + 2, he, h => by
    have ih := evn_snoc2 r m (by omega) (by simpa using h)
    simp only [List.take_succ_cons, evn, ih, List.cons_append, List.getElem_cons_succ]
theorem evn_snoc {α : Type} (k : Nat) (l : List α) (h : 2 * k < l.length) : evn (l.take (2 * k + 2)) = evn (l.take (2 * k)) ++ [l[2 * k]] := evn_snoc2 l (2 * k) (by omega) h
theorem Sep.sn {w0 w : World} {A E : Ent} {L : List Ent} (L1 : List Ent) (h : Sep w0 w (A :: (L1 ++ E :: L))) : Sep w0 w (A :: E :: (L1 ++ L)) := h.perm (List.Perm.cons _ List.perm_middle)
set_option maxRecDepth 100000 in
set_option maxHeartbeats 8000000 in
theorem penc_any (kind : Int) (v : Value) (l : List CV) (P : Int) (hPr : i64r P) (w : World) (hl : RdCs w v l) (hn : l.length * 72 ≤ 140737488355328) (hb : ∀ c ∈ pcs l, c.key.length ≤ 140737488355328 ∧ c.val.length ≤ 140737488355328) :
    Calls Try.prog 4 #[.int .i64 kind, v, .int .i64 P] w fun e w' => e = .returned (.bool true) ∧ Below w.heap.size w w' := by
  obtain ⟨A, c, rfl, hm, hc⟩ := hl.slice
  go_enter Try.func4, Try.ntmps4
  go_wp2_with fail
  refine (awake_any _).mono ?_
  rintro e w1 ⟨rfl, hw1⟩
  have hl1 := hl.below hw1
  have hgr := great_any _ l w1 hl1 hn hb
  go_wp2_with fail
  refine hgr.mono ?_
  rintro e w2 ⟨hw2, ⟨rfl, hg1, hg2⟩ | ⟨rfl, _⟩⟩
  · have hl2 := hl1.below hw2
    have hb2 := hw1.trans (hw2.mono hw1.size)
    have hfit : Fit (pcs l) := ⟨by
      have h1 := sizeF_eq (pcs l)
      have h2 := bulk_longs (pcs l)
      omega, fun c hc => by have := bulk_mem hc; omega⟩
    rw [pcs_length] at hg1 hg2
    clear hgr hw2 hw1 hl1
    have hE := REncZ kind _ l P w2 hl2 (by omega)
    go_upto_region 8 with (first
      | (go_at_call 12; refine hE.mono ?_; rintro e w3 ⟨v1, rfl, ho1, hb3⟩)
      | fail)
    have hl3 := hl2.below hb3
    have hb23 := hb2.trans (hb3.mono hb2.size)
    have hz := RSize_any kind _ l w3 hl3 hfit
    clear hE hl2 hb2 hb3
    go_upto_region 9 with (first
      | (go_at_call 13; refine hz.mono ?_; rintro e w4 ⟨rfl, hb4⟩)
      | fail)
    have hl4 := hl3.below hb4
    have hr4 := ho1.rd.below hb4 (Nat.le_refl _)
    have hb24 := hb23.trans (hb4.mono hb23.size)
    clear hz hl3 hb23 hb4 ho1
    obtain ⟨n, hnn⟩ : ∃ n, l.length = n := ⟨_, rfl⟩
    have HNN := Lib.hid hnn
    rw [hnn] at hl4 hg1 hg2 hn hm ⊢
    generalize hzz : sizeF (pcs l) = zz at *
    have HZZ := Lib.hid hzz
    have HFIT := Lib.hid hfit
    have HB := Lib.hid hb
    clear hnn hl hzz hfit hb
    go_wp2_with fail
    go_loopw [12, 13] (fun u i wr => ∃ (k : Nat) (Af : Option Addr) (cf : Nat), 2 * k ≤ n + 1 ∧ i = .int .i64 ((2 * k : Nat) : Int) ∧ u = .slice Af (evn (l.take (2 * k))).length cf ∧ Own wr w4.heap.size 32 5 (.slice Af (evn (l.take (2 * k))).length cf) (evn (l.take (2 * k))).length (flatC (evn (l.take (2 * k)))) ∧ Below w4.heap.size w4 wr) (fun _ i _ => n + 2 - (intOf i).toNat)
    case atStart => exact ⟨0, none, 0, by omega, rfl, rfl, Own.nil _ _ _ _, Below.refl _ _⟩
    case round =>
      obtain ⟨k, Af, cf, hk, rfl, rfl, hO, hB⟩ := hrel
      have hlr := hl4.below hB
      by_cases hlt : 2 * k < n
      · have ik : ((2 * k : Nat) : Int) < (n : Int) := by omega
        have hkl : 2 * k < l.length := by rw [HNN.out]; exact hlt
        have hsn := evn_snoc k l hkl
        have hle := evn_le (l.take (2 * k))
        rw [List.length_take] at hle
        obtain ⟨ad, rfl, c0, c1, c2, c3, c4⟩ := hlr.at_ hkl
        have hx := hlr.ok _ (List.getElem_mem hkl)
        generalize l[2 * k] = x at *
        have HSN := Lib.hid hsn
        clear hsn
        obtain ⟨A2, a2, B2, b2, key, ck, val, pg, ct, rfl, _, _⟩ := CV.form hx
        have hsrc : Rd (wr.alloc (.cells #[.slice A2 key.length a2, .int .i64 ck, .slice B2 val.length b2, .int .i64 pg, .int .i64 ct] 32)) 5 (.slice (some ⟨wr.heap.size, 0, none⟩) 1 1) ([(⟨.slice A2 key.length a2, .slice B2 val.length b2, ⟨key, ck, val, pg, ct⟩⟩ : CV)]).length (flatC [(⟨.slice A2 key.length a2, .slice B2 val.length b2, ⟨key, ck, val, pg, ct⟩⟩ : CV)]) := Rd.five wr _ _ _ _ _ _
        have hone3 := flatC_one (w := wr) (l := [(⟨.slice A2 key.length a2, .slice B2 val.length b2, ⟨key, ck, val, pg, ct⟩⟩ : CV)]) (fun y hy => by rw [List.mem_singleton] at hy; subst hy; exact hx)
        generalize evn (l.take (2 * k)) = ls at *
        go_upto_region 12 with (first
          | (at_builtin; refine wp_append_C rfl (.tmp 52) (.tmp 57) rfl w4.heap.size _ ls rfl (Own.alloc hO _) _ _ rfl hsrc hone3 (by simp only [List.length_singleton]; omega) (Nat.le_trans hB.size (by simp)) ?_; intro v5 w5 ho5 hg5 hk5)
          | fail)
        rw [← HSN.out] at ho5
        obtain ⟨V5, e5, rfl⟩ := Own.slice ho5
        have hb5 : Below w4.heap.size w4 w5 := (hB.alloc hB.size _).grown hg5 (Nat.le_trans hB.size (by simp)) (fun j hj => (Own.lt hO j hj).1)
        clear c0 c1 c2 c3 c4 hsrc hone3 hO hB hg5 hk5 hx hlr
        go_wp2_with fail
        exact ⟨⟨k + 1, V5, e5, by omega, by simp; omega, rfl, ho5, hb5⟩, by simp [intOf]; omega⟩
      · have ik : ¬ ((2 * k : Nat) : Int) < (n : Int) := by omega
        have e : evn (l.take (2 * k)) = evn l := by rw [List.take_of_length_le (by rw [HNN.out]; omega)]
        rw [e] at hO ⊢
        clear e
        have hev := evn_le l
        rw [HNN.out] at hev
        have hfr : RdCs wr (.slice Af (evn l).length cf) (evn l) := ⟨hO.rd, fun x hx => hlr.ok x (evn_mem l x hx)⟩
        have hfb : ∀ c ∈ pcs (evn l), c.key.length ≤ 140737488355328 ∧ c.val.length ≤ 140737488355328 := fun c hc => by
          obtain ⟨x, hx, rfl⟩ := List.mem_map.1 hc
          exact HB.out _ (List.mem_map_of_mem (evn_mem l x hx))
        have hr5 := hr4.below hB (Nat.le_refl _)
        have hb25 := hb24.trans (hB.mono hb24.size)
        have HFB := Lib.hid hfb
        clear hO hl4 hB hfb hr4 hb24
        obtain ⟨fl, hfl⟩ : ∃ fl, evn l = fl := ⟨_, rfl⟩
        rw [hfl] at hev hfr HFB ⊢
        clear hfl
        have hE := REncZ kind _ fl P wr hfr (by omega)
        go_upto_region 15 with (first
          | (go_at_call 12; refine hE.mono ?_; rintro e w6 ⟨v2, rfl, ho2, hb6⟩)
          | fail)
        have hl6 := hlr.below hb6
        have hf6 := hfr.below hb6
        have hr6 := hr5.below hb6 (Nat.le_refl _)
        have hq6 := ho2.rd
        have hb26 := hb25.trans (hb6.mono hb25.size)
        have hS := Sep.start w6
        have HL6 := Lib.hid hl6
        have HF6 := Lib.hid hf6
        have hrg : ∀ c ∈ pcs l, i64r c.kind ∧ i64r c.page ∧ i64r c.count := fun c hc => by
          obtain ⟨x, hx, rfl⟩ := List.mem_map.1 hc
          exact ⟨(hl6.ok x hx).r1, (hl6.ok x hx).r2, (hl6.ok x hx).r3⟩
        have hrf : ∀ c ∈ pcs fl, i64r c.kind ∧ i64r c.page ∧ i64r c.count := fun c hc => by
          obtain ⟨x, hx, rfl⟩ := List.mem_map.1 hc
          exact ⟨(hf6.ok x hx).r1, (hf6.ok x hx).r2, (hf6.ok x hx).r3⟩
        have HRG := Lib.hid hrg
        have HRF := Lib.hid hrf
        have hLn := Lent_sep hS hl6 (by rw [HNN.out]; omega) HB.out
        rw [HNN.out] at hLn
        clear hE hlr hfr hr5 hb25 ho2 hb6 hl6 hf6 hrg hrf
        go_upto_region 16 with (first
          | (go_at_call 14; refine hLn.mono ?_; rintro e w7 ⟨G1, h1, ps1, rfl, hS7⟩)
          | fail)
        clear hLn hS
        have hLn := Lent_sep hS7 (hS7.rdCs (by simp) HF6.out) (by omega) HFB.out
        go_upto_region 17 with (first
          | (go_at_call 14; refine hLn.mono ?_; rintro e w8 ⟨G2, h2, ps2, rfl, hS8⟩)
          | fail)
        clear hLn hS7
        have hlen1 := (show LentsIn w8 G1 h1 ps1 (pcs l) from hS8.tail.head).each.len
        have hlen2 := (show LentsIn w8 G2 h2 ps2 (pcs fl) from hS8.head).each.len
        have HP1 := Lib.hid (pcs_lentL hlen1)
        have HP2 := Lib.hid (pcs_lentL hlen2)
        have HN1 : Hid ((lentL ps1 (pcs l)).length = n) := Lib.hid (by rw [lentL_length hlen1, pcs_length, HNN.out])
        have HN2 : Hid ((lentL ps2 (pcs fl)).length = fl.length) := Lib.hid (by rw [lentL_length hlen2, pcs_length])
        clear hlen1 hlen2
        have hNC : (pcs l).length = n := by rw [pcs_length, HNN.out]
        have HNC := Lib.hid hNC
        clear hNC
        have hq : LentsIn w8 G1 h1 ps1 (pcs l) := hS8.of_mem (E := lentsE G1 h1 ps1 (pcs l)) (by simp)
        have hE := PEncZ kind _ _ P hPr w8 (hq.rd HNC.out (by omega) HRG.out) (by rw [HN1.out]; omega)
        rw [HP1.out] at hE
        go_upto_region 18 with (first
          | (go_at_call 15; refine hE.mono ?_; rintro e w9 ⟨va, rfl, ho, hb⟩)
          | fail)
        have hS9 := hS8.bytes hb ho (Nat.le_refl _)
        clear hE hq ho hb hS8
        have hq : LentsIn w9 G1 h1 ps1 (pcs l) := hS9.of_mem (E := lentsE G1 h1 ps1 (pcs l)) (by simp)
        have hE := PEncZ kind _ _ P hPr w9 (hq.rd HNC.out (by omega) HRG.out) (by rw [HN1.out]; omega)
        rw [HP1.out] at hE
        go_upto_region 19 with (first
          | (go_at_call 15; refine hE.mono ?_; rintro e w10 ⟨vb, rfl, ho, hb⟩)
          | fail)
        have hS10 := hS9.bytes hb ho (Nat.le_refl _)
        clear hE hq ho hb hS9
        have hq : LentsIn w10 G2 h2 ps2 (pcs fl) := hS10.of_mem (E := lentsE G2 h2 ps2 (pcs fl)) (by simp)
        have hE := PEncZ kind _ _ P hPr w10 (hq.rd (pcs_length fl) (by omega) HRF.out) (by rw [HN2.out]; omega)
        rw [HP2.out] at hE
        go_upto_region 20 with (first
          | (go_at_call 15; refine hE.mono ?_; rintro e w11 ⟨vc, rfl, ho, hb⟩)
          | fail)
        have hS11 := hS10.bytes hb ho (Nat.le_refl _)
        clear hE hq ho hb hS10
        have hq : LentsIn w11 G1 h1 ps1 (pcs l) := hS11.of_mem (E := lentsE G1 h1 ps1 (pcs l)) (by simp)
        have hE := PEncZ kind _ _ P hPr w11 (hq.rd HNC.out (by omega) HRG.out) (by rw [HN1.out]; omega)
        rw [HP1.out] at hE
        go_upto_region 21 with (first
          | (go_at_call 15; refine hE.mono ?_; rintro e w12 ⟨vd, rfl, ho, hb⟩)
          | fail)
        have hS12 := hS11.bytes hb ho (Nat.le_refl _)
        clear hE hq ho hb hS11
        have hq : LentsIn w12 G1 h1 ps1 (pcs l) := hS12.of_mem (E := lentsE G1 h1 ps1 (pcs l)) (by simp)
        have hz := Size_any kind _ _ w12 (hq.rd HNC.out (by omega) HRG.out) (by rw [HP1.out]; exact HFIT.out)
        rw [HP1.out, HZZ.out] at hz
        go_upto_region 22 with (first
          | (go_at_call 16; refine hz.mono ?_; rintro e w13 ⟨rfl, hb⟩)
          | fail)
        have hS13 := (hS12.below hb).sw [_, _, _, _, _]
        clear hz hq hb hS12
        have hAs := AsLent_sep hS13 (w5 := w6) (by simp) hS13.same HL6.out (by rw [HNN.out]; omega) HB.out
        rw [HNN.out] at hAs
        go_upto_region 23 with (first
          | (go_at_call 17; refine hAs.mono ?_; rintro e w14 ⟨rfl, hS14⟩)
          | fail)
        have hS15 := hS14.sw [_, _, _, _]
        clear hAs hS13 hS14
        have hAs := AsLent_sep hS15 (w5 := w6) (by simp) hS15.same HF6.out (by omega) HFB.out
        go_upto_region 24 with (first
          | (go_at_call 17; refine hAs.mono ?_; rintro e w16 ⟨rfl, hS16⟩)
          | fail)
        clear hAs hS15
        have hx1 := hS16.rd (by simp) hr6
        have hx2 := hS16.rd (by simp) hq6
        have hxd : OwB w16 0 vd (encL kind (pcs l) P) := hS16.of_mem (E := bytesE _ _) (by simp)
        have hxc : OwB w16 0 vc (encL kind (pcs fl) P) := hS16.of_mem (E := bytesE _ _) (by simp)
        have hxb : OwB w16 0 vb (encL kind (pcs l) P) := hS16.of_mem (E := bytesE _ _) (by simp)
        have hxa : OwB w16 0 va (encL kind (pcs l) P) := hS16.of_mem (E := bytesE _ _) (by simp)
        have t1 := run_B_string hx1
        have t2 := run_B_string hx2
        have t3 := run_B_string hxd.rd
        have t4 := run_B_string hxc.rd
        have t5 := run_B_string hxb.rd
        have t6 := run_B_string hxa.rd
        have HE1 := Lib.hid (encL_length kind (pcs l) P)
        have HE2 := Lib.hid (encL_length kind (pcs fl) P)
        clear hx1 hx2 hxd hxc hxb hxa hr6 hq6
        generalize encL kind (pcs l) P = e1 at *
        generalize encL kind (pcs fl) P = e2 at *
        generalize encZ kind (pcs l) P = z1 at *
        generalize encZ kind (pcs fl) P = z2 at *
        go_upto_region 28 with (fail)
        clear t1 t2 t3 t4 t5 t6
        have hSa : Sep w6 w16 [bytesE va e1, bytesE vb e1, bytesE vc e2, bytesE vd e1, oldE w6] := ((hS16.sw [_]).sw [_, _]).sw [_, _, _]
        have hS17 := hSa.book
        clear hS16
        go_upto_region 29 with (fail)
        generalize hwb : w16.alloc (.cells #[.slice none 0 0] 38) = w17 at *
        generalize w16.heap.size = bb at *
        clear hwb hSa
        have hT := Take_sep hS17 (by simp)
        go_upto_region 30 with (first
          | (go_at_call 18; refine hT.mono ?_; rintro e w18 ⟨⟨_, rfl⟩, _, hS18⟩)
          | fail)
        clear hT hS17
        have hT := Take_sep hS18 (by simp)
        go_upto_region 31 with (first
          | (go_at_call 18; refine hT.mono ?_; rintro e w19 ⟨⟨_, rfl⟩, _, hS19⟩)
          | fail)
        clear hT hS18
        have hT := Take_sep hS19 (by simp)
        go_upto_region 32 with (first
          | (go_at_call 18; refine hT.mono ?_; rintro e w20 ⟨⟨_, rfl⟩, _, hS20⟩)
          | fail)
        clear hT hS19
        have hT := Take_sep hS20 (by simp)
        go_upto_region 33 with (first
          | (go_at_call 18; refine hT.mono ?_; rintro e w21 ⟨⟨_, rfl⟩, _, hS21⟩)
          | fail)
        clear hT hS20
        have hO := Owned_sep hS21 (by simp) (fun p hp => by
          simp at hp
          have := HE1.out
          have := HE2.out
          rcases hp with rfl | rfl | rfl | rfl <;> simp only <;> omega)
        go_wp2_with (first
          | (go_at_call 19; refine hO.mono ?_; rintro e w22 ⟨rfl, hS22⟩)
          | fail)
        go_ret
        exact ⟨rfl, hb26.trans ((hS22.belowOld (v := w6) (by simp)).mono hb26.size)⟩
  · have hb2 := hw1.trans (hw2.mono hw1.size)
    go_wp2_with fail
    go_ret
    exact ⟨rfl, hb2⟩
end Go.Proofs.Ytonbcipofakpjaa

-- The row's last step from 'Below' alone (the guide's small lemma 9).
namespace Go.Proofs.Ytonbcipofakpjaa
open Go.RowKit Go.WideShapes Go.ChangeShapes
section
variable {H : Type} {enc : TypeId × Value → H} {P : Program}
theorem post_of_below {f : Func} {s : ChangeSpec} {apart fresh handsOn again : Bool} {W W' : World} {args : Array Value} {v : Value} {ds gs : List (DataW H)} {before pa pv : List MemPlace}
    (hW : DataW.Whole enc P f.params.toList s.vars apart W args.toList ds gs before)
    (hres : ∀ (b : Nat) (sp : Nat → Bool) (hd : Bool), DataW.TrodAll enc P W' b sp hd f.resultTypes.toList (v.resultList f.resultTypes.size) (s.fn H (ds ++ gs)).results [])
    (hargs : ∀ sp : Nat → Bool, (∀ p ∈ before, sp p.block = true) → DataW.TrodAll enc P W' 0 sp true f.params.toList args.toList (s.fn H (ds ++ gs)).args pa)
    (hvars : ∀ sp : Nat → Bool, (∀ p ∈ before, sp p.block = true) → DataW.TrodVars enc P W' sp s.vars (s.fn H (ds ++ gs)).vars pv)
    (hps : before = pa ++ pv) (hb : Below W.heap.size W W')
    (hok : ∀ (j : Nat) (t : TypeId) (r : Value), f.resultTypes[j]? = some t → (v.resultList f.resultTypes.size)[j]? = some r → Value.okWide P W' .any 0 t r) :
    s.post enc P f apart fresh handsOn again W args v W' := by
  have hlt : ∀ p ∈ before, p.block < W.heap.size := fun p hp => hW.lt p hp
  have hold : ∀ p ∈ before, (fun b => decide (b < W.heap.size)) p.block = true := fun p hp => by simpa using hlt p hp
  refine ⟨ds, gs, before, [], pa, pv, hW, hres _ _ _, hargs _ hold, hvars _ hold, World.keptBut_mono (fun p hp => ⟨hp, ?_⟩) (hb.frame (· ∈ before)), fun _ => ?_⟩
  · rw [hps, List.mem_append] at hp
    exact Or.inr hp
  · obtain ⟨_, _, _, _, _, hz, hn⟩ := hW
    refine ⟨hok, _, _, ([] ++ pa) ++ pv, ⟨[] ++ pa, pv, trodAll_append (hargs _ (fun _ _ => rfl)) (hres _ _ _), hvars _ (fun _ _ => rfl), rfl, ?_, ?_⟩, ?_⟩
    · intro b off hp
      have hin : MemPlace.cell b off ∈ before := by rw [hps]; simpa using hp
      rw [hb.frozen (hlt _ hin)]
      exact hz b off hin
    · intro ha
      have := hn ha
      rw [hps] at this
      simpa using this
    · intro p hp _
      rw [hps]
      simpa using hp
end
end Go.Proofs.Ytonbcipofakpjaa

-- A law that returns true and changes nothing below: from its walk to the row's own form.
namespace Go.Proofs.Ytonbcipofakpjaa
open Go.RowKit Go.WideShapes Go.ChangeShapes Go.Joins
section
variable {H : Type} {enc : TypeId × Value → H} {P : Program}
theorem trodAll_stays (hl : laidOutB P = true) {W W' : World} {sp' : Nat → Bool} : ∀ {ts : List TypeId} {vs : List Value} {ds : List (DataW H)} {ps : List MemPlace}, (ts.all fun t => P.readableRec t && decide (t < P.types.size)) = true →
    DataW.TrodAll enc P W 0 (fun _ => true) true ts vs ds ps → (∀ p ∈ ps, W.sameAt W' p) → (∀ p ∈ ps, sp' p.block = true) → DataW.TrodAll enc P W' 0 sp' true ts vs ds ps
  | [], [], [], _, _, h, _, _ => h
  | t :: ts, _ :: _, _ :: _, _, hr, ⟨p, q, h1, h2, e⟩, hk, hs => by
    simp only [List.all_cons, Bool.and_eq_true, decide_eq_true_eq] at hr
    obtain ⟨⟨hr1, hr2⟩, hr3⟩ := hr
    exact ⟨p, q, WideElems.Trod_stays hl hr1 hr2 h1 (fun x hx => hk x (by rw [e]; exact List.mem_append_left _ hx)) (fun x hx => hs x (by rw [e]; exact List.mem_append_left _ hx)),
      trodAll_stays hl hr3 h2 (fun x hx => hk x (by rw [e]; exact List.mem_append_right _ hx)) (fun x hx => hs x (by rw [e]; exact List.mem_append_right _ hx)), e⟩
theorem trodAll_len {w : World} {base : Nat} {spare : Nat → Bool} {held : Bool} : ∀ {ts : List TypeId} {vs : List Value} {ds : List (DataW H)} {ps : List MemPlace}, DataW.TrodAll enc P w base spare held ts vs ds ps → ds.length = ts.length
  | [], [], [], _, _ => rfl
  | _ :: _, _ :: _, _ :: _, _, ⟨_, _, _, h2, _⟩ => by simp [trodAll_len h2]
theorem law_post {fn : Func} {s : ChangeSpec} {tb : TypeId} {W W' : World} {args : Array Value} {ds gs : List (DataW H)} {before : List MemPlace} (hvars : s.vars = []) (hrt : fn.resultTypes = #[tb]) (htb : P.underlying tb = some .bool) (hl : laidOutB P = true)
    (hr : (fn.params.toList.all fun t => P.readableRec t && decide (t < P.types.size)) = true) (hs : ∀ ds : List (DataW H), ds.length = fn.params.size → s.fn H ds = { results := [.lit (.bool true)], args := ds })
    (hW : DataW.Whole enc P fn.params.toList s.vars false W args.toList ds gs before) (hb : Below W.heap.size W W') : s.post enc P fn false true false false W args (.bool true) W' := by
  have hW' := hW
  obtain ⟨p, q, hA, hV, rfl, hfz, hnd⟩ := hW
  rw [hvars] at hV
  obtain ⟨rfl, rfl⟩ := trodVars_none hV
  have hlen : ds.length = fn.params.size := by simpa using trodAll_len hA
  have hfn := hs ds hlen
  have hlt : ∀ x ∈ p, x.block < W.heap.size := fun x hx => hW'.lt x (List.mem_append_left _ hx)
  refine post_of_below (pa := p) (pv := []) hW' ?_ ?_ ?_ (by simp) hb (ok_one hrt rfl (okWide_bool_mk htb _))
  · intro b sp hd
    rw [List.append_nil, hfn, hrt]
    exact trodAll_cons_mk (shut_bool htb _) trodAll_mk0
  · intro sp hsp
    rw [List.append_nil, hfn]
    exact trodAll_stays hl hr hA (fun x hx => hb.same (hlt x hx)) (fun x hx => hsp x (List.mem_append_left _ hx))
  · intro sp _
    rw [List.append_nil, hfn, hvars]
    exact (rfl : DataW.TrodVars enc P W' sp [] [] [])
end
theorem law_lifts {H : Type} {enc : TypeId × Value → H} {C : Checked} {os : Os} {fno : FuncId} {fn : Func} {s : ChangeSpec} {conds : List PathCond} {tb : TypeId}
    (own : ownKnob C.prog.godebug = none) (started : os.Started) (noInit : C.prog.inits.idxOf? fno = none) (hfn : C.prog.funcs[fno]? = some fn)
    (witness : ∃ (w : World) (tape : Tape) (i : Input), w.os = os ∧ (w.forCall tape i).Shaped C.prog ∧ i.vars = [] ∧ Input.okWide C.prog (w.forCall tape i) .any w.heap.size fno i ∧
      s.pre6 enc C.prog fn conds false (w.forCall tape i).memory i.args ∧ ({} : Assume).holds C.prog (lone (Frame.enter C.prog fno i.args .normal) [] (w.forCall tape i)))
    (hvars : s.vars = []) (hrt : fn.resultTypes = #[tb]) (htb : C.prog.underlying tb = some .bool) (hl : laidOutB C.prog = true)
    (hr : (fn.params.toList.all fun t => C.prog.readableRec t && decide (t < C.prog.types.size)) = true) (hs : ∀ ds : List (DataW H), ds.length = fn.params.size → s.fn H ds = { results := [.lit (.bool true)], args := ds })
    (walk : ∀ (W : World) (base : Nat) (args : Array Value) (ds : List (DataW H)) (p : List MemPlace), (∀ (j : Nat) t v, fn.params[j]? = some t → args[j]? = some v → Value.okWide C.prog W .any base t v) →
      DataW.TrodAll enc C.prog W 0 (fun _ => true) true fn.params.toList args.toList ds p → (DataW.weightsEach C.prog fn.params.toList ds).all (· ≤ reachBytes) = true →
      Calls C.prog fno args W fun e W' => e = .returned (.bool true) ∧ Below W.heap.size W W') :
    ReturnsInHanded {} C os fno .any (s.pre6 enc C.prog fn conds false) (s.post enc C.prog fn false true false false) := by
  refine returnsInHanded_of_change_sized own started noInit hfn witness ?_
  intro W base args ds gs before hval hW _ hsz _
  have hW' := hW
  obtain ⟨p, q, hA, hV, _, _, _⟩ := hW
  rw [hvars] at hV
  obtain ⟨rfl, rfl⟩ := trodVars_none hV
  have hv : s.plain.varTypes C.prog = [] := by
    unfold ChangeSpec.plain DataSpec.varTypes
    simp [hvars]
  rw [hv, List.append_nil, List.append_nil] at hsz
  refine (walk W base args ds p hval hA hsz).mono fun e W' h => ?_
  obtain ⟨rfl, hb⟩ := h
  exact ⟨_, rfl, law_post hvars hrt htb hl hr hs hW' hb⟩
section
variable {H : Type} {enc : TypeId × Value → H} {W : World}
theorem cells_u8 : Try.prog.cellsOf 5 = 1 := by kernel_rfl
theorem bytes_u8 : Try.prog.bytesOf 5 = 1 := by kernel_rfl
set_option maxRecDepth 100000 in
/-- An argument of type []byte. -/
theorem open_bytes {base : Nat} {v : Value} {d : DataW H} {p : List MemPlace} {ts : List TypeId} {ds : List (DataW H)} {j : Nat} (hv : Value.okWide Try.prog W .any base 27 v) (h : DataW.Trod enc Try.prog W 0 (fun _ => true) true 27 v d p)
    (hsz : (DataW.weightsEach Try.prog ts ds).all (· ≤ reachBytes) = true) (ht : ts[j]? = some 27) (hd : ds[j]? = some d) :
    ∃ l : List UInt8, RdB W v l ∧ l.length ≤ 140737488351232 := by
  obtain ⟨a0, len, cap, rfl⟩ := okWide_slice Try.underlying27 hv
  obtain ⟨fuel, hf⟩ := h
  rcases open_ints Try.underlying27 Try.underlying5 cells_u8 hf with ⟨hcs, _⟩ | ⟨a, len', cap', zs, hcs, _, hl, hm, hz, hx, hcell, hwz⟩
  · simp [Value.cells] at hcs
    obtain ⟨rfl, rfl, rfl⟩ := hcs
    exact ⟨[], RdB.nil, by simp⟩
  · simp [Value.cells] at hcs
    obtain ⟨rfl, rfl, rfl⟩ := hcs
    simp only [if_true] at hz
    simp only [Prod.mk.injEq] at hx
    obtain ⟨rfl, _⟩ := hx
    have hs := sized_slice hsz ht hd Try.underlying27
    rw [bytes_u8] at hs
    simp only [lits, List.length_map, List.length_take, List.length_drop, reachBytes] at hs
    refine ⟨(zs.take len).map fun z => UInt8.ofNat z.toNat, ?_, by simp; omega⟩
    have hlen : ((zs.take len).map fun z => UInt8.ofNat z.toNat).length = len := by simp; omega
    refine ⟨some a, cap, by rw [hlen], by rw [hlen]; exact hl, hm, fun j hj => ⟨a, rfl, ?_⟩⟩
    rw [hlen] at hj
    rw [hcell j (by omega)]
    have hjz : j < zs.length := by omega
    have hmem : zs[j] ∈ zs := List.getElem_mem hjz
    have hw := hwz _ hmem
    have hg : zs.getD j 0 = zs[j] := by simp [List.getD, hjz]
    rw [hg]
    simp [Lit.wf, IntKind.min, IntKind.max, IntKind.signed, IntKind.bits] at hw
    simp
    omega
end
end Go.Proofs.Ytonbcipofakpjaa

-- An argument of type []api.Cell.
namespace Go.Proofs.Ytonbcipofakpjaa
open Go.RowKit Go.WideShapes Go.ChangeShapes Go.Deep
section
variable {H : Type} {enc : TypeId × Value → H} {W : World}
theorem cells_int : Try.prog.cellsOf 3 = 1 := by kernel_rfl
theorem bytes_int : Try.prog.bytesOf 3 = 8 := by kernel_rfl
/-- A field, or an element, of type []byte. -/
theorem trod_bytes {fuel : Nat} {cs : List Value} {x : DataW H × List MemPlace} (h : DataW.trod enc Try.prog W 0 (fun _ => true) true fuel 27 cs = some x) :
    ∃ (v : Value) (l : List UInt8), cs = [v] ∧ RdB W v l ∧ ((x.1 = .nil ∧ l = []) ∨ ∃ e s, x.1 = .slice e s ∧ l.length ≤ e.length + s.length) := by
  rcases open_ints Try.underlying27 Try.underlying5 cells_u8 h with ⟨rfl, rfl⟩ | ⟨a, len, cap, zs, rfl, _, hl, hm, hz, rfl, hcell, hwz⟩
  · exact ⟨_, [], rfl, RdB.nil, .inl ⟨rfl, rfl⟩⟩
  · simp only [if_true] at hz
    have hlen : ((zs.take len).map fun z => UInt8.ofNat z.toNat).length = len := by simp; omega
    refine ⟨_, (zs.take len).map fun z => UInt8.ofNat z.toNat, rfl, ⟨some a, cap, by rw [hlen], by rw [hlen]; exact hl, hm, fun j hj => ⟨a, rfl, ?_⟩⟩, .inr ⟨_, _, rfl, by rw [hlen]; simp [lits]; omega⟩⟩
    rw [hlen] at hj
    rw [hcell j (by omega)]
    have hjz : j < zs.length := by omega
    have hw := hwz _ (List.getElem_mem hjz)
    have hg : zs.getD j 0 = zs[j] := by simp [List.getD, hjz]
    rw [hg]
    simp [Lit.wf, IntKind.min, IntKind.max, IntKind.signed, IntKind.bits] at hw
    simp
    omega
theorem trod_i64 {fuel : Nat} {cs : List Value} {x : DataW H × List MemPlace} (h : DataW.trod enc Try.prog W 0 (fun _ => true) true fuel 3 cs = some x) : ∃ n : Int, cs = [.int .i64 n] ∧ -9223372036854775808 ≤ n ∧ n ≤ 9223372036854775807 := by
  obtain ⟨n, rfl, _, hw⟩ := DataW.trod_int Try.underlying3 h
  simp [Lit.wf, IntKind.min, IntKind.max, IntKind.signed, IntKind.bits] at hw
  exact ⟨n, rfl, hw⟩
theorem weightsAll_in {P : Program} {e : TypeId} : ∀ {l : List (DataW H)} {d : DataW H}, d ∈ l → ∀ n ∈ d.weights P e, n ∈ DataW.weightsAll P e l
  | [], _, h => by cases h
  | x :: r, d, h => by
    intro n hn
    rw [DataW.weightsAll, List.mem_append]
    rcases List.mem_cons.1 h with rfl | h
    · exact .inl hn
    · exact .inr (weightsAll_in h n hn)
theorem cells_Cell : Try.prog.cellsOf 32 = 5 := by kernel_rfl
theorem bytes_Cell : Try.prog.bytesOf 32 = 72 := by kernel_rfl
set_option maxRecDepth 100000 in
theorem open_cell {fuel : Nat} {cs : List Value} {x : DataW H × List MemPlace} (h : DataW.trod enc Try.prog W 0 (fun _ => true) true fuel 32 cs = some x) :
    ∃ o : CV, cs = o.cells ∧ o.ok W ∧ ∃ y0 y1 y2 y3 y4, x.1 = .agg [y0, y1, y2, y3, y4] ∧ ((y0 = .nil ∧ o.c.key = []) ∨ ∃ e s, y0 = .slice e s ∧ o.c.key.length ≤ e.length + s.length) ∧ ((y2 = .nil ∧ o.c.val = []) ∨ ∃ e s, y2 = .slice e s ∧ o.c.val.length ≤ e.length + s.length) := by
  obtain ⟨xs, n, _, rfl, hcl, hxl, hg⟩ := DataW.trod_struct Try.underlying32 h
  rw [cells_Cell] at hcl
  match cs, hcl with
  | [c0, c1, c2, c3, c4], _ =>
    match xs, hxl with
    | [z0, z1, z2, z3, z4], _ =>
      have g0 := hg 0 _ rfl
      have g1 := hg 1 _ rfl
      have g2 := hg 2 _ rfl
      have g3 := hg 3 _ rfl
      have g4 := hg 4 _ rfl
      obtain ⟨kv, key, e0, hd, w0⟩ := trod_bytes (cs := [c0]) g0
      obtain ⟨k, e1, r1⟩ := trod_i64 (cs := [c1]) g1
      obtain ⟨vv, val, e2, hv, w2⟩ := trod_bytes (cs := [c2]) g2
      obtain ⟨pg, e3, r3⟩ := trod_i64 (cs := [c3]) g3
      obtain ⟨ct, e4, r4⟩ := trod_i64 (cs := [c4]) g4
      injection e0 with e0
      injection e1 with e1
      injection e2 with e2
      injection e3 with e3
      injection e4 with e4
      subst e0 e1 e2 e3 e4
      exact ⟨⟨c0, c2, ⟨key, k, val, pg, ct⟩⟩, rfl, ⟨hd, hv, r1, r3, r4⟩, z0.1, z1.1, z2.1, z3.1, z4.1, rfl, w0, w2⟩
set_option maxRecDepth 100000 in
theorem open_cells {base : Nat} {v : Value} {d : DataW H} {p : List MemPlace} {ts : List TypeId} {ds : List (DataW H)} {j : Nat} (hv : Value.okWide Try.prog W .any base 25 v) (h : DataW.Trod enc Try.prog W 0 (fun _ => true) true 25 v d p)
    (hsz : (DataW.weightsEach Try.prog ts ds).all (· ≤ reachBytes) = true) (ht : ts[j]? = some 25) (hd : ds[j]? = some d) :
    ∃ l : List CV, RdCs W v l ∧ l.length * 72 ≤ 140737488351232 ∧ ∀ o ∈ l, o.c.key.length ≤ 140737488351232 ∧ o.c.val.length ≤ 140737488351232 := by
  obtain ⟨a0, len, cap, rfl⟩ := okWide_slice Try.underlying25 hv
  obtain ⟨fuel, hf⟩ := h
  rcases open_slice Try.underlying25 hf with ⟨hcs, _⟩ | ⟨a, len', cap', m, n, D, Pl, hcs, _, hl, hm, hmm, hx, hi⟩
  · simp [Value.cells] at hcs
    obtain ⟨rfl, rfl, rfl⟩ := hcs
    exact ⟨[], ⟨Rd.nil, by simp⟩, by simp, by simp⟩
  · simp [Value.cells] at hcs
    obtain ⟨rfl, rfl, rfl⟩ := hcs
    simp only [if_true] at hmm
    subst hmm
    simp only [Prod.mk.injEq] at hx
    obtain ⟨rfl, _⟩ := hx
    have key : ∀ i, i < m → ∃ o : CV, (∀ r u, o.cells[r]? = some u → W.cell? (a.add (i * 5 + r)) = some u) ∧ o.ok W ∧ ∃ y0 y1 y2 y3 y4, D i = .agg [y0, y1, y2, y3, y4] ∧ ((y0 = .nil ∧ o.c.key = []) ∨ ∃ e s, y0 = .slice e s ∧ o.c.key.length ≤ e.length + s.length) ∧ ((y2 = .nil ∧ o.c.val = []) ∨ ∃ e s, y2 = .slice e s ∧ o.c.val.length ≤ e.length + s.length) := fun i him => by
      obtain ⟨cs', hc, ht'⟩ := hi i him
      obtain ⟨o, rfl, hok, hy⟩ := open_cell ht'
      refine ⟨o, fun r u hu => ?_, hok, hy⟩
      obtain ⟨_, hcl, hat⟩ := World.cells?_some hc
      have hr : r < Try.prog.cellsOf 32 := by
        have := (List.getElem?_eq_some_iff.1 hu).1
        rw [← hcl]; exact this
      have := hat r hr
      rw [cells_Cell] at this
      rw [← add_of_add, this, hu]
    obtain ⟨f, hf'⟩ := choose_lt key
    have hlen : ((List.range len).map f).length = len := by simp
    refine ⟨(List.range len).map f, ⟨⟨by rw [flatC_length], some a, m, by rw [hlen], by rw [hlen]; exact hl, hm, fun j u hj => ⟨a, rfl, ?_⟩⟩, ?_⟩, ?_, ?_⟩
    · have hjl : j < len * 5 := by
        have := (List.getElem?_eq_some_iff.1 hj).1
        rw [flatC_length, hlen] at this; exact this
      have hil : j / 5 < len := Nat.div_lt_of_lt_mul (by omega)
      have hjj : j = j / 5 * 5 + j % 5 := by omega
      rw [hjj, flatC_at _ (j / 5) (j % 5) (by rw [hlen]; exact hil) (Nat.mod_lt _ (by omega))] at hj
      rw [hjj]
      refine (hf' (j / 5) (by omega)).1 (j % 5) u ?_
      simpa using hj
    · intro o ho
      obtain ⟨i, hi', rfl⟩ := List.mem_map.1 ho
      have := List.mem_range.1 hi'
      exact (hf' i (by omega)).2.1
    · have hs := sized_slice hsz ht hd Try.underlying25
      rw [bytes_Cell] at hs
      simp only [List.length_map, List.length_range, reachBytes] at hs
      simp only [List.length_map, List.length_range]
      omega
    · intro o ho
      obtain ⟨i, hi', rfl⟩ := List.mem_map.1 ho
      have hil := List.mem_range.1 hi'
      obtain ⟨_, _, y0, y1, y2, y3, y4, hD, w4, w5⟩ := hf' i (by omega)
      have hin : ∀ k ∈ (D i).weights Try.prog 32, k ≤ reachBytes := fun k hk => by
        have h1 := weightsAll_in (P := Try.prog) (e := 32) (List.mem_map.2 ⟨i, hi', rfl⟩ : D i ∈ (List.range len).map D) k hk
        have h2 := List.all_eq_true.1 hsz k (DataW.weights_mem_each ht hd _ (by
          simp only [DataW.weights, Try.underlying25]
          exact List.mem_cons.2 (.inr (List.mem_append.2 (.inl h1)))))
        simpa using h2
      rw [hD] at hin
      constructor
      · rcases w4 with ⟨_, e⟩ | ⟨e, s, rfl, hle⟩
        · rw [e]; simp
        · have := hin ((e.length + s.length) * Try.prog.bytesOf 5) (by
            simp only [DataW.weights, Try.underlying32]
            refine DataW.weights_mem_each (j := 0) rfl rfl _ ?_
            simp only [DataW.weights, Try.underlying27]
            exact List.mem_cons.2 (.inl rfl))
          rw [bytes_u8] at this
          simp only [reachBytes] at this
          omega
      · rcases w5 with ⟨_, e⟩ | ⟨e, s, rfl, hle⟩
        · rw [e]; simp
        · have := hin ((e.length + s.length) * Try.prog.bytesOf 5) (by
            simp only [DataW.weights, Try.underlying32]
            refine DataW.weights_mem_each (j := 2) rfl rfl _ ?_
            simp only [DataW.weights, Try.underlying27]
            exact List.mem_cons.2 (.inl rfl))
          rw [bytes_u8] at this
          simp only [reachBytes] at this
          omega
end
end Go.Proofs.Ytonbcipofakpjaa

-- The bounds of an integer that came in; a row whose statement bears the bound on the bulk.
namespace Go.Proofs.Ytonbcipofakpjaa
open Go.RowKit Go.WideShapes Go.ChangeShapes
theorem wf_i64 {n : Int} (h : (Lit.int .i64 n).wf = true) : -9223372036854775808 ≤ n ∧ n ≤ 9223372036854775807 := by
  simp [Lit.wf, IntKind.min, IntKind.max, IntKind.signed, IntKind.bits] at h
  exact h
theorem wf_u64 {n : Int} (h : (Lit.int .u64 n).wf = true) : ∃ k : Nat, n = (k : Int) ∧ k < 18446744073709551616 := by
  simp [Lit.wf, IntKind.min, IntKind.max, IntKind.signed, IntKind.bits] at h
  exact ⟨n.toNat, by omega, by omega⟩
theorem wf_u32 {n : Int} (h : (Lit.int .u32 n).wf = true) : ∃ k : Nat, n = (k : Int) ∧ k < 4294967296 := by
  simp [Lit.wf, IntKind.min, IntKind.max, IntKind.signed, IntKind.bits] at h
  exact ⟨n.toNat, by omega, by omega⟩
end Go.Proofs.Ytonbcipofakpjaa

-- espalierlaw06.PlainEncodes: the statement 'PlainEncodesSaid' is proved: whatever the input, the law returns true and the input reads as it did.
namespace Go.Proofs.Ytonbcipofakpjaa.plainEncodes
open Go.ChangeShapes Go.WideShapes Go.ChangeAt Go.RowKit
theorem own : ownKnob Try.prog.godebug = none := by kernel_rfl
theorem laidOut : laidOutB Try.prog = true := by kernel_rfl
set_option maxRecDepth 100000 in
theorem lifted (os : Os) (started : os.Started) (H : Type) (enc : TypeId × Value → H) :
    ReturnsInHanded {} Try.checked os 4 .any (Rows.plainEncodesSpec.pre6 enc Try.prog Try.f4 Rows.plainEncodesRow.domain false) (Rows.plainEncodesSpec.post enc Try.prog Try.f4 false true false false) := by
  refine law_lifts (C := Try.checked) (tb := 4) own started (by kernel_rfl) Try.func4
    (ChangeSpec.witness6 (enc := enc) (C := Try.checked) false ⟨#[], #[.int .i64 0, .slice none 0 0, .int .i64 0], []⟩ 8 (by kernel_rfl) (by kernel_rfl) (by kernel_rfl) (by kernel_rfl))
    rfl rfl Try.underlying4 laidOut (by kernel_rfl) (fun ds hd => ?_) ?_
  · match ds, hd with
    | [d0, d1, d2], _ => rfl
  · intro W base args ds p hval0 hA0 hsz0
    have hval : ∀ (j : Nat) t v, Try.f4.params[j]? = some t → args[j]? = some v → Value.okWide Try.prog W .any base t v := hval0
    have hA : DataW.TrodAll enc Try.prog W 0 (fun _ => true) true Try.f4.params.toList args.toList ds p := hA0
    have hsz : (DataW.weightsEach Try.prog Try.f4.params.toList ds).all (· ≤ reachBytes) = true := hsz0
    clear hval0 hA0 hsz0
    rw [Try.params4] at hA hval hsz
    obtain ⟨v0, v1, v2, d0, d1, d2, p0, p1, p2, rfl, rfl, rfl, h0, h1, h2⟩ := trodAll_three hA
    obtain ⟨n0, rfl, _, _, g0⟩ := open_int Try.underlying3 (hval 0 _ v0 rfl rfl) h0
    obtain ⟨l, hl, hn, hs⟩ := open_cells (hval 1 _ v1 rfl rfl) h1 hsz (j := 1) rfl rfl
    obtain ⟨n2, rfl, _, _, g2⟩ := open_int Try.underlying3 (hval 2 _ v2 rfl rfl) h2
    exact penc_any n0 v1 l n2 (wf_i64 g2) W hl (by omega) (fun c hc => by
      obtain ⟨o, ho, rfl⟩ := List.mem_map.1 hc
      have := hs o ho
      omega)
theorem proved : Rows.PlainEncodesSaid :=
  OpenClaim.holds_of_wide 4 Try.f4 rfl rfl rfl rfl rfl rfl rfl ⟨rfl, rfl, rfl, rfl, rfl⟩ rfl rfl rfl rfl rfl (by kernel_rfl) Try.func4 (by kernel_rfl)
    (of_decide_eq_true (by kernel_rfl)) (by unfold Func.isWrapper; first | (rw [if_pos (by decide +kernel)]; kernel_rfl) | (rw [if_neg (by decide +kernel)]; exact ⟨rfl, rfl⟩))
    (fun os started H enc _ => lifted os started H enc)
end Go.Proofs.Ytonbcipofakpjaa.plainEncodes
