/- Texts joined: espalierref06.Lent; espalierref06.AsLent; Pieces of memory; A byte of a piece is set.; espalierlaw08.NodeWrites; The row's last step from 'Below' alone (the guide's small lemma 9).; A law that returns true and changes nothing below; The bounds of an integer that came in; a row whose statement bears the bound on ; An argument of type []api.Cell.; A law's '..UptoSaid' -/
import Derived.Test.YtfcnkpofcekmgaaGreatNW2
import Derived.Test.YtfcnkpofcekmgaaGreatNW3
import Derived.Test.YtfcnkpofcekmgaaGreatNW7
import Derived.Test.YtfcnkpofcekmgaaGreatNW16
import Derived.Test.YtfcnkpofcekmgaaGreatNW21
import Derived.Test.YtfcnkpofcekmgaaGreatNW27
import Derived.Below
import Derived.ChangeSame
import Derived.WalkKit
import Derived.ProofKit
import Derived.OpenShut
import Derived.SizedLaws
import Derived.Carry
import Derived.Lib.SmallJoins
import Derived.WideKeyArgs
import Derived.Test.YtfcnkpofcekmgaaGreatRows
import Derived.JoinedCond
import Derived.Deep.Slices
import Derived.Deep.Fields
-- espalierref06.Lent: the walk.
namespace Go.Proofs.YtfcnkpofcekmgaaGreat
open Go.RowKit
def lentL (ps : List (Nat × Nat)) (cs : List PC) : List CV := List.zipWith (fun p c => lentCV p.1 p.2 c) ps cs
theorem lentL_length {ps : List (Nat × Nat)} {cs : List PC} (h : ps.length = cs.length) : (lentL ps cs).length = cs.length := by unfold lentL; rw [List.length_zipWith, h, Nat.min_self]
theorem lentL_snoc {ps : List (Nat × Nat)} {cs : List PC} (h : ps.length = cs.length) (p : Nat × Nat) (c : PC) : lentL (ps ++ [p]) (cs ++ [c]) = lentL ps cs ++ [lentCV p.1 p.2 c] := by
  unfold lentL; rw [List.zipWith_append h]; rfl
structure LentsAt (W : World) (base : Nat) (ps : List (Nat × Nat)) (cs : List PC) : Prop where
  len : ps.length = cs.length
  each : ∀ i (h : i < ps.length) (h' : i < cs.length), LentAt W base ps[i].1 ps[i].2 cs[i]
  rise : ps.Pairwise (fun p q => p.2 < q.1)
theorem LentsAt.nil (W : World) (base : Nat) : LentsAt W base [] [] := ⟨rfl, fun i h => by simp at h, List.Pairwise.nil⟩
theorem LentsAt.grown {w w' : World} {base : Nat} {ps : List (Nat × Nat)} {cs : List PC} {row : Option Nat} (h : LentsAt w base ps cs) (hg : w.grownBy w' row) (hr : ∀ k, row = some k → k < base) : LentsAt w' base ps cs :=
  ⟨h.len, fun i h1 h2 => by
    have e := h.each i h1 h2
    have b1 : base ≤ ps[i].1 := (Own.lt e.k ps[i].1 rfl).1
    have b2 : base ≤ ps[i].2 := (Own.lt e.v ps[i].2 rfl).1
    exact e.grown hg (fun h' => by have := hr ps[i].1 h'.symm; omega) (fun h' => by have := hr ps[i].2 h'.symm; omega), h.rise⟩
theorem LentsAt.below {w w' : World} {base : Nat} {ps : List (Nat × Nat)} {cs : List PC} (h : LentsAt w base ps cs) (hb : Below w.heap.size w w') : LentsAt w' base ps cs :=
  ⟨h.len, fun i h1 h2 => (h.each i h1 h2).below hb, h.rise⟩
theorem LentAt.low {w : World} {base b gk gv : Nat} {c : PC} (h : LentAt w base gk gv c) (hb : b ≤ base) : LentAt w b gk gv c := ⟨h.k.low hb, h.v.low hb, h.lt⟩
theorem LentsAt.snoc {w w' : World} {base gk gv : Nat} {ps : List (Nat × Nat)} {cs : List PC} {c : PC} (h : LentsAt w base ps cs) (hb : Below w.heap.size w w') (hl : LentAt w' w.heap.size gk gv c) (hs : base ≤ w.heap.size) :
    LentsAt w' base (ps ++ [(gk, gv)]) (cs ++ [c]) := by
  have h' := h.below hb
  refine ⟨by simp [h.len], fun i h1 h2 => ?_, ?_⟩
  · by_cases hi : i < ps.length
    · have e := h'.each i hi (by rw [← h.len]; exact hi)
      rw [List.getElem_append_left hi, List.getElem_append_left (by rw [← h.len]; exact hi)]
      exact e
    · have hi' : i = ps.length := by simp at h1; omega
      subst hi'
      rw [List.getElem_append_right (Nat.le_refl _), List.getElem_append_right (by rw [h.len]; exact Nat.le_refl _)]
      simp only [List.getElem_singleton]
      exact hl.low hs
  · rw [List.pairwise_append]
    refine ⟨h.rise, by simp, fun a ha b hb' => ?_⟩
    obtain rfl := List.mem_singleton.1 hb'
    obtain ⟨i, hi, rfl⟩ := List.getElem_of_mem ha
    have e := h.each i hi (by rw [← h.len]; exact hi)
    have b3 : ps[i].2 < w.heap.size := (Own.lt e.v ps[i].2 rfl).2
    have b4 : w.heap.size ≤ gk := (Own.lt hl.k gk rfl).1
    show ps[i].2 < gk
    omega
def lentX (n : Nat) (ps : List (Nat × Nat)) (cs : List PC) (k : Nat) : List CV := lentL ps (cs.take k) ++ (List.replicate (k - n) (markCV (-7)) ++ List.replicate (n + 3 - k) (markCV 0))
theorem lentX_form {n k : Nat} {ps : List (Nat × Nat)} {cs : List PC} (h : ps.length = (cs.take k).length) (hc : cs.length = n) (hk : k < n + 3) :
    ∃ X, X.length = k ∧ X = lentL ps (cs.take k) ++ List.replicate (k - n) (markCV (-7)) ∧ lentX n ps cs k = X ++ markCV 0 :: List.replicate (n + 3 - (k + 1)) (markCV 0) := by
  refine ⟨lentL ps (cs.take k) ++ List.replicate (k - n) (markCV (-7)), ?_, rfl, ?_⟩
  · rw [List.length_append, lentL_length h, List.length_take, List.length_replicate]; omega
  · unfold lentX
    rw [show n + 3 - k = (n + 3 - (k + 1)) + 1 by omega, List.replicate_succ, List.append_assoc]
theorem lentX_mark {n k : Nat} {ps : List (Nat × Nat)} {cs : List PC} (h : ps.length = (cs.take k).length) (hc : cs.length = n) (hk : k < n + 3) (hn : n ≤ k) :
    (lentX n ps cs k).set k (markCV (-7)) = lentX n ps cs (k + 1) := by
  obtain ⟨X, hX, hX2, e⟩ := lentX_form h hc hk
  rw [e, List.set_append_right _ _ (by omega), hX, Nat.sub_self, List.set_cons_zero, hX2]
  unfold lentX
  rw [List.take_of_length_le (by omega), List.take_of_length_le (by omega), show k + 1 - n = (k - n) + 1 by omega, List.replicate_succ']
  simp only [List.append_assoc, List.singleton_append]
theorem lentX_cell {n k : Nat} {ps : List (Nat × Nat)} {cs : List PC} (h : ps.length = (cs.take k).length) (hc : cs.length = n) (hk : k < n) (p : Nat × Nat) (m : CV) :
    ((lentX n ps cs k).set k m).set k (lentCV p.1 p.2 (cs[k]'(by omega))) = lentX n (ps ++ [p]) cs (k + 1) := by
  obtain ⟨X, hX, hX2, e⟩ := lentX_form h hc (show k < n + 3 by omega)
  rw [e, List.set_append_right _ _ (by omega), hX, Nat.sub_self, List.set_cons_zero, List.set_append_right _ _ (by omega), hX, Nat.sub_self, List.set_cons_zero, hX2]
  unfold lentX
  rw [List.take_succ_eq_append_getElem (by omega), lentL_snoc h, show k + 1 - n = 0 by omega, show k - n = 0 by omega]
  simp
set_option maxRecDepth 100000 in
set_option maxHeartbeats 8000000 in
theorem LentL_any (v : Value) (l : List CV) (w : World) (hl : RdCs w v l) (hn : (l.length + 3) * 72 ≤ 281474976710656) (hs : ∀ c ∈ pcs l, c.key.length ≤ 140737488355328 ∧ c.val.length ≤ 140737488355328) :
    Calls Tryz.prog 24 #[v] w fun e w' => ∃ ps, e = .returned (.slice (some ⟨w.heap.size, 0, none⟩) l.length (l.length + 3)) ∧ OBlk w' w.heap.size 43 (flatC (lentL ps (pcs l) ++ List.replicate 3 (markCV (-7)))) ∧ LentsAt w' (w.heap.size + 1) ps (pcs l) ∧ Below w.heap.size w w' := by
  obtain ⟨A, c, rfl, hm, hc⟩ := hl.slice
  obtain ⟨n, hnn⟩ : ∃ n, l.length = n := ⟨_, rfl⟩
  rw [hnn] at hl hn hm ⊢
  go_enter Tryz.func24, Tryz.ntmps24
  go_wp2_with (first
    | (at_make; refine wp_make_C rfl (.tmp 9) (.tmp 9) rfl _ (n + 3) rfl rfl (by go_num) (by omega) ?_; intro w1 hb1 hw1 hs1)
    | fail)
  go_loopw [5] (fun i wr => ∃ (k : Nat) (ps : List (Nat × Nat)), k ≤ n + 3 ∧ i = .int .i64 (k : Int) ∧ OBlk wr w.heap.size 43 (flatC (lentX n ps (pcs l) k)) ∧ LentsAt wr (w.heap.size + 1) ps ((pcs l).take k) ∧ Below w.heap.size w wr) (fun i _ => n + 3 - (intOf i).toNat)
  case atStart => exact ⟨0, [], by omega, rfl, by simpa [lentX, lentL] using hb1, LentsAt.nil _ _, hw1⟩
  case round =>
    clear hb1 hw1 hs1
    obtain ⟨k, ps, hk, rfl, hb, hL, hB⟩ := hrel
    have hcl : (pcs l).length = n := by rw [pcs_length]; exact hnn
    by_cases hlt : k < n + 3
    · have ik : (k : Int) < (n : Int) + 3 := by omega
      have hLen : (lentX n ps (pcs l) k).length = n + 3 := by
        obtain ⟨X, hX, _, e⟩ := lentX_form hL.len hcl hlt
        rw [e, List.length_append, List.length_cons, List.length_replicate]; omega
      obtain ⟨c0, c1, c2, c3, c4⟩ := cellsC hb k (by omega)
      obtain ⟨f0, f1, f2, f3, f4⟩ := frozC hb k (by omega)
      have hb6 : OBlk (((((wr.setCell ⟨w.heap.size, k * 5, none⟩ (.slice none 0 0)).setCell ⟨w.heap.size, k * 5 + 1, none⟩ (.int .i64 (-7))).setCell ⟨w.heap.size, k * 5 + 2, none⟩ (.slice none 0 0)).setCell ⟨w.heap.size, k * 5 + 3, none⟩ (.int .i64 0)).setCell ⟨w.heap.size, k * 5 + 4, none⟩ (.int .i64 0)) w.heap.size 43 (flatC ((lentX n ps (pcs l) k).set k (markCV (-7)))) := set5C hb k (by omega) (markCV (-7))
      have hg6 := grown5 wr w.heap.size k (.slice none 0 0) (.int .i64 (-7)) (.slice none 0 0) (.int .i64 0) (.int .i64 0)
      have hL6 := hL.grown hg6 (fun j e => by have e' : w.heap.size = j := Option.some.inj e; omega)
      have hB6 := hB.grown hg6 hB.size (fun j e => Nat.le_of_eq (Option.some.inj e))
      have hlen2 : ((lentX n ps (pcs l) k).set k (markCV (-7))).length = n + 3 := by rw [List.length_set]; exact hLen
      have HMK : Hid (n ≤ k → (lentX n ps (pcs l) k).set k (markCV (-7)) = lentX n ps (pcs l) (k + 1)) := Lib.hid (lentX_mark hL.len hcl hlt)
      have HCE : Hid (∀ (h : k < n) p c, (pcs l)[k]? = some c → ((lentX n ps (pcs l) k).set k (markCV (-7))).set k (lentCV p.1 p.2 c) = lentX n (ps ++ [p]) (pcs l) (k + 1)) := Lib.hid (fun h p c hc => by
        rw [List.getElem?_eq_getElem (by omega)] at hc
        injection hc with hc
        rw [← hc]; exact lentX_cell hL.len hcl h p _)
      generalize (lentX n ps (pcs l) k)[k]'(by omega) = x0 at *
      clear hb hg6
      generalize (lentX n ps (pcs l) k).set k (markCV (-7)) = L6 at *
      go_upto_region 7 with (fail)
      generalize (((((wr.setCell ⟨w.heap.size, k * 5, none⟩ (.slice none 0 0)).setCell ⟨w.heap.size, k * 5 + 1, none⟩ (.int .i64 (-7))).setCell ⟨w.heap.size, k * 5 + 2, none⟩ (.slice none 0 0)).setCell ⟨w.heap.size, k * 5 + 3, none⟩ (.int .i64 0)).setCell ⟨w.heap.size, k * 5 + 4, none⟩ (.int .i64 0)) = w6 at *
      clear c0 c1 c2 c3 c4 f0 f1 f2 f3 f4 hL hB hLen
      by_cases hkn : k < n
      · have ikn : (k : Int) < (n : Int) := by omega
        have hkl : k < l.length := by omega
        obtain ⟨ad, rfl, s0, s1, s2, s3, s4⟩ := (hl.below hB6).at_ hkl
        have hx := (hl.below hB6).ok _ (List.getElem_mem hkl)
        have hpc : (pcs l)[k]? = some l[k].c := by rw [List.getElem?_eq_getElem (by omega), pcs_at hkl]
        have htk : (pcs l).take (k + 1) = (pcs l).take k ++ [l[k].c] := by rw [List.take_succ_eq_append_getElem (by omega), pcs_at hkl]
        obtain ⟨z1, z2⟩ := hs l[k].c (by rw [← pcs_at hkl]; exact List.getElem_mem _)
        generalize l[k] = x at *
        obtain ⟨A1, a1, B1, b1, key, ck, val, pg, ct, rfl, _, _⟩ := CV.form hx
        have hLC : Calls Tryz.prog 46 #[.agg #[.slice A1 key.length a1, .int .i64 ck, .slice B1 val.length b1, .int .i64 pg, .int .i64 ct]] w6 fun e w' => ∃ gk gv, e = .returned (.agg #[.slice (some ⟨gk, 0, none⟩) key.length (key.length + 9), .int .i64 ck, .slice (some ⟨gv, 0, none⟩) val.length (val.length + 9), .int .i64 pg, .int .i64 ct]) ∧ LentAt w' w6.heap.size gk gv ⟨key, ck, val, pg, ct⟩ ∧ Below w6.heap.size w6 w' := LentCell_any _ w6 hx z1 z2
        have HPC := Lib.hid (fun p => HCE.out hkn p _ hpc)
        have HTK := Lib.hid htk
        have hb6l := hb6.lt
        clear hx z1 z2 hpc htk HCE HMK
        go_wp2_with (first
          | (go_at_call 46; refine hLC.mono ?_; rintro e w7 ⟨gk, gv, rfl, hl7, hb7⟩; have hb7' := hb6.below hb7 hb6l; obtain ⟨c0, c1, c2, c3, c4⟩ := cellsC hb7' k (by omega); obtain ⟨f0, f1, f2, f3, f4⟩ := frozC hb7' k (by omega); generalize L6[k]'(by omega) = x7 at *)
          | fail)
        have hb8 := set5C hb7' k (by omega) (lentCV gk gv ⟨key, ck, val, pg, ct⟩)
        rw [HPC.out (gk, gv)] at hb8
        have hg8 := grown5 w7 w.heap.size k (.slice (some ⟨gk, 0, none⟩) key.length (key.length + 9)) (.int .i64 ck) (.slice (some ⟨gv, 0, none⟩) val.length (val.length + 9)) (.int .i64 pg) (.int .i64 ct)
        refine ⟨⟨k + 1, ps ++ [(gk, gv)], by omega, by go_num, hb8, ?_, (hB6.trans (hb7.mono hB6.size)).grown hg8 (Nat.le_trans hB6.size hb7.size) (fun j e => Nat.le_of_eq (Option.some.inj e))⟩, by simp [intOf]; omega⟩
        rw [HTK.out]
        exact (hL6.snoc hb7 hl7 (by omega)).grown hg8 (fun j e => by have e' : w.heap.size = j := Option.some.inj e; omega)
      · have ikn : ¬ (k : Int) < (n : Int) := by omega
        have htk : (pcs l).take (k + 1) = (pcs l).take k := by rw [List.take_of_length_le (by omega), List.take_of_length_le (by omega)]
        have hmk := HMK.out (by omega)
        rw [hmk] at hb6
        rw [← htk] at hL6
        clear HMK HCE hmk htk hlen2
        go_wp2_with fail
        exact ⟨⟨k + 1, ps, by omega, by go_num, hb6, hL6, hB6⟩, by simp [intOf]; omega⟩
    · obtain rfl : k = n + 3 := by omega
      have e : lentX n ps (pcs l) (n + 3) = lentL ps (pcs l) ++ List.replicate 3 (markCV (-7)) := by
        unfold lentX
        rw [List.take_of_length_le (by omega), show n + 3 - n = 3 by omega, Nat.sub_self]
        simp
      rw [e] at hb
      rw [List.take_of_length_le (by omega)] at hL
      clear e
      go_wp2_with fail
      go_ret
      exact ⟨ps, rfl, hb, hL, hB⟩
end Go.Proofs.YtfcnkpofcekmgaaGreat

-- espalierref06.AsLent: the walk.
namespace Go.Proofs.YtfcnkpofcekmgaaGreat
open Go.RowKit
def asX (L : List CV) (k : Nat) : List CV := List.replicate k (markCV (-8)) ++ L.drop k
theorem asX_length (L : List CV) {k : Nat} (h : k ≤ L.length) : (asX L k).length = L.length := by simp [asX]; omega
theorem asX_at (L : List CV) {k : Nat} (h : k < L.length) : (asX L k)[k]'(by rw [asX_length L (by omega)]; exact h) = L[k] := by
  unfold asX
  rw [List.getElem_append_right (by simp)]
  simp
theorem asX_set (L : List CV) {k : Nat} (h : k < L.length) : (asX L k).set k (markCV (-8)) = asX L (k + 1) := by
  unfold asX
  rw [List.set_append_right _ _ (by simp), List.length_replicate, Nat.sub_self, List.drop_eq_getElem_cons h, List.set_cons_zero, List.replicate_succ', List.append_assoc]
  rfl
structure LaterAt (W : World) (base k : Nat) (ps : List (Nat × Nat)) (cs : List PC) : Prop where
  each : ∀ i (h : i < ps.length) (h' : i < cs.length), k ≤ i → LentAt W base ps[i].1 ps[i].2 cs[i]
theorem LentAt.drewN {w : World} {base gk gv : Nat} {c : PC} (h : LentAt w base gk gv c) : ∀ n, LentAt (w.drewN n) base gk gv c
  | 0 => h
  | n + 1 => ⟨(LentAt.drewN h n).k.drew, (LentAt.drewN h n).v.drew, h.lt⟩
theorem LentAt.turn {F : Nat → Prop} {w w' : World} {base gk gv : Nat} {c : PC} (h : LentAt w base gk gv c) (ht : Turn F w w') (h1 : ¬ F gk) (h2 : ¬ F gv) : LentAt w' base gk gv c :=
  ⟨h.k.turn ht (fun g e => by injection e with e; exact e ▸ h1), h.v.turn ht (fun g e => by injection e with e; exact e ▸ h2), h.lt⟩
/-- What the k-th round finds. -/
theorem as_facts {w0 wr : World} {A : Option Addr} {c n G hi k : Nat} {LL l : List CV} {ps : List (Nat × Nat)} (hl : RdCs w0 (.slice A n c) l) (hbw : Below w0.heap.size w0 wr) (hnn : l.length = n)
    (HLL : lentL ps (pcs l) ++ List.replicate 3 (markCV (-7)) = LL) (hlen : ps.length = n) (hlt : k < n) (hb : OBlk wr G 43 (flatC (asX LL k))) (hla : LaterAt wr (G + 1) k ps (pcs l))
    (hrise : ps.Pairwise (fun p q => p.2 < q.1)) (hps : ∀ p ∈ ps, p.2 < hi) (hs : ∀ c ∈ pcs l, c.key.length ≤ 140737488355328 ∧ c.val.length ≤ 140737488355328) :
    ∃ A1 a1 B1 b1 key ck val pg ct gk gv ad, A = some ad ∧ CV.ok w0 ⟨.slice A1 key.length a1, .slice B1 val.length b1, ⟨key, ck, val, pg, ct⟩⟩ ∧
      (wr.cell? (ad.add (k * 5)) = some (.slice A1 key.length a1) ∧ wr.cell? ⟨(ad.add (k * 5)).block, (ad.add (k * 5)).off + 1, none⟩ = some (.int .i64 ck) ∧ wr.cell? ⟨(ad.add (k * 5)).block, (ad.add (k * 5)).off + 2, none⟩ = some (.slice B1 val.length b1) ∧
        wr.cell? ⟨(ad.add (k * 5)).block, (ad.add (k * 5)).off + 3, none⟩ = some (.int .i64 pg) ∧ wr.cell? ⟨(ad.add (k * 5)).block, (ad.add (k * 5)).off + 4, none⟩ = some (.int .i64 ct)) ∧
      (wr.cell? ⟨G, k * 5, none⟩ = some (.slice (some ⟨gk, 0, none⟩) key.length (key.length + 9)) ∧ wr.cell? ⟨G, k * 5 + 1, none⟩ = some (.int .i64 ck) ∧ wr.cell? ⟨G, k * 5 + 2, none⟩ = some (.slice (some ⟨gv, 0, none⟩) val.length (val.length + 9)) ∧
        wr.cell? ⟨G, k * 5 + 3, none⟩ = some (.int .i64 pg) ∧ wr.cell? ⟨G, k * 5 + 4, none⟩ = some (.int .i64 ct)) ∧
      LentAt wr (G + 1) gk gv ⟨key, ck, val, pg, ct⟩ ∧ G + 1 ≤ gk ∧ gk < gv ∧ gv < hi ∧ key.length ≤ 140737488355328 ∧ val.length ≤ 140737488355328 ∧ Hid (∀ i (h : i < ps.length), k + 1 ≤ i → gv < ps[i].1) := by
  have hcl : (pcs l).length = n := by rw [pcs_length]; exact hnn
  have hll := lentL_length (ps := ps) (cs := pcs l) (by omega)
  have hLLn : LL.length = n + 3 := by rw [← HLL, List.length_append, hll, List.length_replicate]; omega
  have hkLL : k < LL.length := by omega
  have hkL : k < (asX LL k).length := by rw [asX_length LL (by omega)]; omega
  have hkl : k < l.length := by omega
  have hkp : k < ps.length := by omega
  have e : LL[k] = lentCV ps[k].1 ps[k].2 ((pcs l)[k]'(by omega)) := by
    subst HLL
    rw [List.getElem_append_left (by omega)]
    unfold lentL
    rw [List.getElem_zipWith]
  have hcc := cellsC hb k hkL
  rw [asX_at LL hkLL, e, pcs_at hkl] at hcc
  have hlk := hla.each k hkp (by omega) (Nat.le_refl _)
  rw [pcs_at hkl] at hlk
  obtain ⟨z1, z2⟩ := hs l[k].c (by rw [← pcs_at hkl]; exact List.getElem_mem _)
  obtain ⟨ad, rfl, s0, s1, s2, s3, s4⟩ := (hl.below hbw).at_ hkl
  have hx := hl.ok _ (List.getElem_mem hkl)
  have hri : ∀ i (h : i < ps.length), k + 1 ≤ i → ps[k].2 < ps[i].1 := fun i h h1 => (List.pairwise_iff_getElem.1 hrise) k i hkp h (by omega)
  have hgk : G + 1 ≤ ps[k].1 := (Own.lt hlk.k ps[k].1 rfl).1
  have hgv : ps[k].2 < hi := hps _ (List.getElem_mem hkp)
  generalize l[k] = x at *
  obtain ⟨A1, a1, B1, b1, key, ck, val, pg, ct, rfl, _, _⟩ := CV.form hx
  exact ⟨A1, a1, B1, b1, key, ck, val, pg, ct, ps[k].1, ps[k].2, ad, rfl, hx, ⟨s0, s1, s2, s3, s4⟩, hcc, hlk, hgk, hlk.lt, hgv, z1, z2, Lib.hid hri⟩
set_option maxRecDepth 100000 in
set_option maxHeartbeats 8000000 in
theorem AsLentL_any (w0 : World) (v : Value) (l : List CV) (G hi : Nat) (ps : List (Nat × Nat)) (w : World) (hl : RdCs w0 v l) (hb0 : Below w0.heap.size w0 w) (hG : w0.heap.size ≤ G) (hGh : G < hi) (_hhi : hi ≤ w.heap.size)
    (hb : OBlk w G 43 (flatC (lentL ps (pcs l) ++ List.replicate 3 (markCV (-7))))) (hL : LentsAt w (G + 1) ps (pcs l)) (hps : ∀ p ∈ ps, p.2 < hi)
    (hn : (l.length + 3) * 72 ≤ 281474976710656) (hs : ∀ c ∈ pcs l, c.key.length ≤ 140737488355328 ∧ c.val.length ≤ 140737488355328) :
    Calls Tryz.prog 29 #[.slice (some ⟨G, 0, none⟩) l.length (l.length + 3), v] w fun e w' => e = .returned (.bool true) ∧ Turn (fun g => G ≤ g ∧ g < hi) w w' := by
  obtain ⟨A, c, rfl, hm, hc⟩ := hl.slice
  obtain ⟨n, hnn⟩ : ∃ n, l.length = n := ⟨_, rfl⟩
  have hcl : (pcs l).length = n := by rw [pcs_length]; exact hnn
  have hll := lentL_length hL.len
  rw [hcl] at hll
  have hlen := hL.len
  rw [hcl] at hlen
  rw [hnn] at hl hn hm ⊢
  have hLL : (lentL ps (pcs l) ++ List.replicate 3 (markCV (-7))).length = n + 3 := by rw [List.length_append, hll, List.length_replicate]
  have hbi : (asX (lentL ps (pcs l) ++ List.replicate 3 (markCV (-7))) 0) = lentL ps (pcs l) ++ List.replicate 3 (markCV (-7)) := by simp [asX]
  rw [← hbi] at hb
  have HR := Lib.hid hL.rise
  have hla : LaterAt w (G + 1) 0 ps (pcs l) := ⟨fun i h h' _ => hL.each i h h'⟩
  generalize hLLg : lentL ps (pcs l) ++ List.replicate 3 (markCV (-7)) = LL at *
  have HLL := Lib.hid hLLg
  have HPS := Lib.hid hps
  have HS := Lib.hid hs
  have HNN := Lib.hid hnn
  have HLEN := Lib.hid hlen
  have HLLn := Lib.hid hLL
  clear hbi hL hLLg hps hs hnn hcl hll hlen hLL
  go_enter Tryz.func29, Tryz.ntmps29
  go_wp2_with fail
  go_loopw [7, 8] (fun gd i wr => ∃ k : Nat, k ≤ n + 3 ∧ gd = .bool true ∧ i = .int .i64 (k : Int) ∧ OBlk wr G 43 (flatC (asX LL k)) ∧ LaterAt wr (G + 1) k ps (pcs l) ∧ Turn (fun g => G ≤ g ∧ g < hi) w wr) (fun _ i _ => n + 3 - (intOf i).toNat)
  case atStart => exact ⟨0, Nat.zero_le _, rfl, rfl, hb, hla, Turn.refl _ _⟩
  case round =>
    clear hb hla
    obtain ⟨k, hk, rfl, rfl, hb, hla, hT⟩ := hrel
    by_cases hlt : k < n + 3
    · have ik : (k : Int) < (n : Int) + 3 := by omega
      have hkL : k < (asX LL k).length := by rw [asX_length LL (by rw [HLLn.out]; omega), HLLn.out]; omega
      obtain ⟨f0, f1, f2, f3, f4⟩ := frozC hb k hkL
      by_cases hkn : k < n
      · have ikn : (k : Int) < (n : Int) := by omega
        have hbw := hb0.trans (hT.below (B := w0.heap.size) hb0.size (fun b h => by omega))
        have hst : (asX LL k).set k (markCV (-8)) = asX LL (k + 1) := asX_set LL (by rw [HLLn.out]; omega)
        have hb9 := fun (w9 : World) (h : OBlk w9 G 43 (flatC (asX LL k))) => set5C h k hkL (markCV (-8))
        rw [hst] at hb9
        have HB9 := Lib.hid hb9
        obtain ⟨A1, a1, B1, b1, key, ck, val, pg, ct, gk, gv, ad, rfl, hx, ⟨s0, s1, s2, s3, s4⟩, ⟨c0, c1, c2, c3, c4⟩, hlk, hgk, hkv, hgv, z1, z2, HRI⟩ := as_facts hl hbw HNN.out HLL.out HLEN.out hkn hb hla HR.out HPS.out HS.out
        have hLC : ∀ m, Calls Tryz.prog 47 #[.agg #[.slice (some ⟨gk, 0, none⟩) key.length (key.length + 9), .int .i64 ck, .slice (some ⟨gv, 0, none⟩) val.length (val.length + 9), .int .i64 pg, .int .i64 ct], .agg #[.slice A1 key.length a1, .int .i64 ck, .slice B1 val.length b1, .int .i64 pg, .int .i64 ct]] (wr.drewN m) fun e w' => e = .returned (.bool true) ∧ Turn (fun g => g = gk ∨ g = gv) (wr.drewN m) w' :=
          fun m => AsLentCell_any w0 ⟨.slice A1 key.length a1, .slice B1 val.length b1, ⟨key, ck, val, pg, ct⟩⟩ gk gv (wr.drewN m) hx (belowE hbw m) (LentAt.drewN (hlk.low (b := w0.heap.size) (by omega)) m) z1 z2
        obtain ⟨bk, hbk⟩ : ∃ bk, (ck == (-7 : Int)) = bk := ⟨_, rfl⟩
        have HLC := Lib.hid hLC
        clear hLC hx z1 z2 hst hb9 hlk hbw
        have hg6 := fun w9 => grown5 w9 G k (.slice none 0 0) (.int .i64 (-8)) (.slice none 0 0) (.int .i64 0) (.int .i64 0)
        have HG6 := Lib.hid hg6
        clear hg6
        go_upto_region 11 with (fail)
        refine wp_region_dtail 8 (by kernel_rfl) (by kernel_rfl) ?_
        simp only [List.take_succ_cons, List.take_zero, List.drop_succ_cons, List.drop_zero]
        repeat (quiet_step (fail))
        refine wpQuiet_nil ?_
        rintro _ ⟨nq, rfl⟩
        have hno : ¬ (G = gk ∨ G = gv) := by omega
        go_upto_region 12 with (first
          | (go_at_call 47; refine (HLC.out nq).mono ?_; rintro e w7 ⟨rfl, hT7⟩)
          | fail)
        have hT8 : Turn (fun g => g = gk ∨ g = gv) wr w7 := ⟨hT7.os, hT7.tape, hT7.output, hT7.size, hT7.block⟩
        have hb7 := hb.turn hT8 hno
        have hla7 : LaterAt w7 (G + 1) (k + 1) ps (pcs l) := ⟨fun i h h' hi' => by
          have h1 := HRI.out i h hi'
          have h2 := hla.each i h h' (by omega)
          have h3 := h2.lt
          exact h2.turn hT8 (by omega) (by omega)⟩
        have hT9 : Turn (fun g => G ≤ g ∧ g < hi) w w7 := hT.trans hT8 (fun b e => .inl (by omega))
        have hcc := cellsC hb7 k hkL
        obtain ⟨f0, f1, f2, f3, f4⟩ := frozC hb7 k hkL
        have hb10 := HB9.out w7 hb7
        have hg10 := HG6.out w7
        clear hT hT7 hT8 hb hla HRI s0 s1 s2 s3 s4 HLC HB9 HG6
        generalize (asX LL k)[k] = x7 at *
        obtain ⟨c0, c1, c2, c3, c4⟩ := hcc
        go_wp2_with fail
        refine ⟨⟨k + 1, by omega, rfl, by go_num, hb10, ⟨fun i h h' hi' => (hla7.each i h h' hi').grown hg10 (fun e => ?_) (fun e => ?_)⟩, hT9.grown hg10 (fun b e => ?_)⟩, by simp [intOf]; omega⟩
        · have h1 : ps[i].1 = G := Option.some.inj e
          have h2 := (Own.lt (hla7.each i h h' hi').k ps[i].1 rfl).1
          omega
        · have h1 : ps[i].2 = G := Option.some.inj e
          have h2 := (Own.lt (hla7.each i h h' hi').v ps[i].2 rfl).1
          omega
        · have e' : G = b := Option.some.inj e
          exact .inl ⟨by omega, by omega⟩
      · have ikn : ¬ (k : Int) < (n : Int) := by omega
        have hkLL : k < LL.length := by rw [HLLn.out]; exact hlt
        have hcc := cellsC hb k hkL
        have e : LL[k] = markCV (-7) := by
          have h := HLL.out
          subst h
          have hll := lentL_length (ps := ps) (cs := pcs l) (by rw [HLEN.out, pcs_length, HNN.out])
          rw [List.getElem_append_right (by rw [hll, pcs_length, HNN.out]; omega), List.getElem_replicate]
        rw [asX_at LL hkLL, e] at hcc
        obtain ⟨c0, c1, c2, c3, c4⟩ := hcc
        unfold markCV at c0 c1 c2 c3 c4
        have hb6 := set5C hb k hkL (markCV (-8))
        rw [asX_set LL hkLL] at hb6
        have hg6 := grown5 wr G k (.slice none 0 0) (.int .i64 (-8)) (.slice none 0 0) (.int .i64 0) (.int .i64 0)
        clear e
        go_wp2_with fail
        refine ⟨⟨k + 1, by omega, rfl, by go_num, hb6, ⟨fun i h h' hi => by have := HLEN.out; omega⟩, hT.grown hg6 (fun b e => ?_)⟩, by simp [intOf]; omega⟩
        have e' : G = b := Option.some.inj e
        exact .inl ⟨by omega, by omega⟩
    · obtain rfl : k = n + 3 := by omega
      clear hb hla
      go_wp2_with fail
      go_ret
      exact ⟨rfl, hT⟩
end Go.Proofs.YtfcnkpofcekmgaaGreat

-- Pieces of memory: a book, cells that were lent.
namespace Go.Proofs.YtfcnkpofcekmgaaGreat
open Go.RowKit
/-! ### cells that were lent -/
structure LentsIn (w : World) (G hi : Nat) (ps : List (Nat × Nat)) (cs : List PC) : Prop where
  blk : OBlk w G 43 (flatC (lentL ps cs ++ List.replicate 3 (markCV (-7))))
  each : LentsAt w (G + 1) ps cs
  ps_lt : ∀ p ∈ ps, p.2 < hi
  lt : G < hi
theorem LentsAt.in_ {w : World} {base hi : Nat} {ps : List (Nat × Nat)} {cs : List PC} (h : LentsAt w base ps cs) (hp : ∀ p ∈ ps, p.2 < hi) : ∀ i (h1 : i < ps.length), base ≤ ps[i].1 ∧ ps[i].1 < ps[i].2 ∧ ps[i].2 < hi := fun i h1 => by
  have e := h.each i h1 (by rw [← h.len]; exact h1)
  exact ⟨(Own.lt e.k ps[i].1 rfl).1, e.lt, hp _ (List.getElem_mem h1)⟩
def lentsE (G hi : Nat) (ps : List (Nat × Nat)) (cs : List PC) : Ent :=
  ⟨fun g => G ≤ g ∧ g < hi, fun w => LentsIn w G hi ps cs, fun {w w'} h k => by
    refine ⟨k.blk.of_heap (h G ⟨Nat.le_refl _, k.lt⟩), ⟨k.each.len, fun i h1 h2 => ?_, k.each.rise⟩, k.ps_lt, k.lt⟩
    have e := k.each.each i h1 h2
    obtain ⟨b1, b2, b3⟩ := k.each.in_ k.ps_lt i h1
    exact ⟨Own.heap e.k (fun g hg => h g (by have hg' : ps[i].1 = g := Option.some.inj hg; omega)), Own.heap e.v (fun g hg => h g (by have hg' : ps[i].2 = g := Option.some.inj hg; omega)), e.lt⟩⟩
/-- A lent list reads as the list that it was made of. -/
theorem LentsIn.rd {w : World} {G hi : Nat} {ps : List (Nat × Nat)} {cs : List PC} {n : Nat} (h : LentsIn w G hi ps cs) (hn : cs.length = n) (hm : n + 3 ≤ 140737488355328) (hr : ∀ c ∈ cs, i64r c.kind ∧ i64r c.page ∧ i64r c.count) : RdCs w (.slice (some ⟨G, 0, none⟩) n (n + 3)) (lentL ps cs) := by
  have hll := lentL_length h.each.len
  refine ⟨⟨by rw [flatC_length], _, n + 3, by rw [hll, hn], by omega, by simp only [maxLen]; omega, fun j u hj => ⟨_, rfl, ?_⟩⟩, fun x hx => ?_⟩
  · rw [add_row, h.blk.cell, flatC_append, Nat.zero_add, List.getElem?_append_left (List.getElem?_eq_some_iff.1 hj).1]
    exact hj
  · obtain ⟨i, hi', rfl⟩ := List.getElem_of_mem hx
    rw [hll] at hi'
    have hip : i < ps.length := by rw [h.each.len]; exact hi'
    have e := h.each.each i hip hi'
    have ex : (lentL ps cs)[i]'(by omega) = lentCV ps[i].1 ps[i].2 cs[i] := by simp only [lentL, List.getElem_zipWith]
    rw [ex]
    obtain ⟨r1, r2, r3⟩ := hr cs[i] (List.getElem_mem hi')
    exact ⟨lentC_rd e.k, lentC_rd e.v, r1, r2, r3⟩
theorem pcs_lentL {ps : List (Nat × Nat)} {cs : List PC} (h : ps.length = cs.length) : pcs (lentL ps cs) = cs := by
  refine List.ext_getElem (by rw [pcs_length, lentL_length h]) fun i h1 h2 => ?_
  have hi : i < (lentL ps cs).length := by rw [lentL_length h]; exact h2
  rw [pcs_at hi]
  have hp : i < ps.length := by omega
  have ex : (lentL ps cs)[i] = lentCV ps[i].1 ps[i].2 cs[i] := by simp only [lentL, List.getElem_zipWith]
  rw [ex]; rfl
theorem Lent_sep {w0 w : World} {L : List Ent} {v : Value} {l : List CV} (h : Sep w0 w L) (hl : RdCs w v l) (hn : (l.length + 3) * 72 ≤ 281474976710656) (hs : ∀ c ∈ pcs l, c.key.length ≤ 140737488355328 ∧ c.val.length ≤ 140737488355328) :
    Calls Tryz.prog 24 #[v] w fun e w' => ∃ G hi ps, e = .returned (.slice (some ⟨G, 0, none⟩) l.length (l.length + 3)) ∧ Sep w0 w' (lentsE G hi ps (pcs l) :: L) := by
  refine (LentL_any v l w hl hn hs).mono ?_
  rintro e w' ⟨ps, rfl, ho, hL, hb⟩
  have hin : ∀ p ∈ ps, p.2 < w'.heap.size := fun p hp => by
    obtain ⟨i, hi, rfl⟩ := List.getElem_of_mem hp
    exact (Own.lt (hL.each i hi (by rw [← hL.len]; exact hi)).v ps[i].2 rfl).2
  exact ⟨w.heap.size, w'.heap.size, ps, rfl, h.new hb (E := lentsE _ _ _ _) ⟨ho, hL, hin, ho.lt⟩ (fun g hg => hg)⟩
theorem AsLent_sep {w0 w5 w : World} {L : List Ent} {v : Value} {l : List CV} {G hi : Nat} {ps : List (Nat × Nat)} (h : Sep w0 w (lentsE G hi ps (pcs l) :: L)) (hm : oldE w5 ∈ L) (h5 : Same w5 w) (hl : RdCs w5 v l)
    (hn : (l.length + 3) * 72 ≤ 281474976710656) (hs : ∀ c ∈ pcs l, c.key.length ≤ 140737488355328 ∧ c.val.length ≤ 140737488355328) :
    Calls Tryz.prog 29 #[.slice (some ⟨G, 0, none⟩) l.length (l.length + 3), v] w fun e w' => e = .returned (.bool true) ∧ Sep w0 w' L := by
  have hp : LentsIn w G hi ps (pcs l) := h.head
  have hG : w5.heap.size ≤ G := Nat.le_of_not_lt fun e => h.far hm G ⟨Nat.le_refl _, hp.lt⟩ e
  have hhi : hi ≤ w.heap.size := by
    have := h.lt (hi - 1) ⟨by have := hp.lt; omega, by have := hp.lt; omega⟩
    omega
  refine (AsLentL_any w5 v l G hi ps w hl ⟨h5.os, h5.tape, h5.output, h5.size, h.tail.of_mem hm⟩ hG hp.lt hhi hp.blk hp.each hp.ps_lt hn hs).mono ?_
  rintro e w' ⟨rfl, ht⟩
  exact ⟨rfl, h.kill ht⟩
end Go.Proofs.YtfcnkpofcekmgaaGreat

-- A byte of a piece is set.
namespace Go.Proofs.YtfcnkpofcekmgaaGreat
open Go.RowKit
theorem Sep.setB {w0 w : World} {L : List Ent} {g m c : Nat} {l : List UInt8} (h : Sep w0 w (bytesE (.slice (some ⟨g, 0, none⟩) m c) l :: L)) (j : Nat) (x : UInt8) : Sep w0 (w.setCell ⟨g, j, none⟩ (.int .u8 (x.toNat : Int))) (bytesE (.slice (some ⟨g, 0, none⟩) m c) (l.set j x) :: L) :=
  h.upd (Turn.of_grown (grownBy_setCell w ⟨g, j, none⟩ _) (fun k e => e)) (OwB.set (show OwB w 0 _ l from h.head) j x) (fun b hb => ⟨.inl hb, by have h' := h.lt b hb; simpa using h'⟩)
end Go.Proofs.YtfcnkpofcekmgaaGreat

-- espalierlaw08.NodeWrites: the walk.
namespace Go.Proofs.YtfcnkpofcekmgaaGreat
open Go.RowKit
theorem rd_four (w : World) (a b c d : UInt8) : RdB (w.alloc (.cells #[.int .u8 (a.toNat : Int), .int .u8 (b.toNat : Int), .int .u8 (c.toNat : Int), .int .u8 (d.toNat : Int)] 5)) (.slice (some ⟨w.heap.size, 0, none⟩) 4 4) [a, b, c, d] := by
  refine ⟨some ⟨w.heap.size, 0, none⟩, 4, rfl, Nat.le_refl _, by simp [maxLen], fun j hj => ⟨_, rfl, ?_⟩⟩
  have hb := OBlk.new' w 5 [.int .u8 (a.toNat : Int), .int .u8 (b.toNat : Int), .int .u8 (c.toNat : Int), .int .u8 (d.toNat : Int)]
  match j, hj with
  | 0, _ => exact hb.cell 0
  | 1, _ => exact hb.cell 1
  | 2, _ => exact hb.cell 2
  | 3, _ => exact hb.cell 3
set_option maxRecDepth 100000 in
set_option maxHeartbeats 16000000 in
theorem nwrites_any (n kind : Int) (v : Value) (l : List CV) (P : Int) (hPr : i64r P) (w : World) (hl : RdCs w v l) (hn : l.length ≤ 1048576) (hb : bigK (pcs l) ≤ 100000000000000) :
    Calls Tryz.prog 6 #[.int .i64 n, .int .i64 kind, v, .int .i64 P] w fun e w' => e = .returned (.bool true) ∧ Below w.heap.size w w' := by
  have hs : ∀ c ∈ pcs l, c.key.length ≤ 140737488355328 ∧ c.val.length ≤ 140737488355328 := fun c hc => by have := bigK_mem hc; omega
  have HB := Lib.hid hs
  have HK := Lib.hid hb
  have HPR := Lib.hid hPr
  have mk1 := fun W => NMostK P hPr W
  have mk2 := fun W => NMostV P hPr W
  have mk3 := fun W => RNMostK P hPr W
  have mk4 := fun W => RNMostV P hPr W
  have M1 := Lib.hid mk1
  have M2 := Lib.hid mk2
  have M3 := Lib.hid mk3
  have M4 := Lib.hid mk4
  obtain ⟨m, hmm⟩ : ∃ m, l.length = m := ⟨_, rfl⟩
  have HM := Lib.hid hmm
  have hl0 := hl
  obtain ⟨A, c, rfl, hm, hc⟩ := hl.slice
  rw [hmm] at hl0 hn hm ⊢
  have HL0 := Lib.hid hl0
  clear hl hs hb hPr mk1 mk2 mk3 mk4 hmm hl0 hc hm
  go_enter Tryz.func6, Tryz.ntmps6
  go_upto_region 4 with (first | (go_at_call 7; (with_reducible refine (nawake_any _).mono ?_); rintro e w1 ⟨rfl, hw1⟩) | fail)
  have hl1 := HL0.out.below hw1
  have HL1 := Lib.hid hl1
  have HW1 := Lib.hid hw1
  have hrg : ∀ c ∈ pcs l, i64r c.kind ∧ i64r c.page ∧ i64r c.count := fun c hc => by
    obtain ⟨x, hx, rfl⟩ := List.mem_map.1 hc
    exact ⟨(hl1.ok x hx).r1, (hl1.ok x hx).r2, (hl1.ok x hx).r3⟩
  have HRG := Lib.hid hrg
  have hS := Sep.start w1
  have hLn := Lent_sep hS hl1 (by rw [HM.out]; omega) HB.out
  rw [HM.out] at hLn
  clear hw1 hl1 hrg hS
  go_upto_region 5 with (first
    | (go_at_call 24; (with_reducible refine hLn.mono ?_); rintro e w2 ⟨G1, h1, ps1, rfl, hS2⟩)
    | fail)
  clear hLn
  have hlen1 := (show LentsIn w2 G1 h1 ps1 (pcs l) from hS2.head).each.len
  have HP1 := Lib.hid (pcs_lentL hlen1)
  have HN1 : Hid ((lentL ps1 (pcs l)).length = m) := Lib.hid (by rw [lentL_length hlen1, pcs_length, HM.out])
  have HNC : Hid ((pcs l).length = m) := Lib.hid (by rw [pcs_length, HM.out])
  clear hlen1
  have hE := NEncN n kind _ _ P w2 HPR.out ((show LentsIn w2 G1 h1 ps1 (pcs l) from hS2.head).rd HNC.out (by omega) HRG.out) (by rw [HN1.out]; omega)
  rw [HP1.out] at hE
  go_upto_region 6 with (first
    | (go_at_call 25; (with_reducible refine hE.mono ?_); rintro e w3 ⟨vb, rfl, ho, hb⟩)
    | fail)
  have hS3 := hS2.bytes hb ho (Nat.le_refl _)
  clear hE ho hb hS2
  have hE := NEncN n kind _ _ P w3 HPR.out ((show LentsIn w3 G1 h1 ps1 (pcs l) from hS3.tail.head).rd HNC.out (by omega) HRG.out) (by rw [HN1.out]; omega)
  rw [HP1.out] at hE
  go_upto_region 7 with (first
    | (go_at_call 25; (with_reducible refine hE.mono ?_); rintro e w4 ⟨vc, rfl, ho, hb⟩)
    | fail)
  have hS4 := hS3.bytes hb ho (Nat.le_refl _)
  clear hE ho hb hS3
  have hE := NFitN n kind _ _ P w4 HPR.out ((show LentsIn w4 G1 h1 ps1 (pcs l) from hS4.tail.tail.head).rd HNC.out (by omega) HRG.out) (by rw [HN1.out]; omega)
  rw [HP1.out] at hE
  go_upto_region 8 with (first
    | (go_at_call 26; (with_reducible refine hE.mono ?_); rintro e w5 ⟨rfl, hb⟩)
    | fail)
  have hS5 := hS4.below hb
  clear hE hb hS4
  have hE := NFilN n kind _ _ P w5 HPR.out ((show LentsIn w5 G1 h1 ps1 (pcs l) from hS5.tail.tail.head).rd HNC.out (by omega) HRG.out) (by rw [HP1.out]; exact HK.out)
  rw [HP1.out] at hE
  go_upto_region 9 with (first
    | (go_at_call 27; (with_reducible refine hE.mono ?_); rintro e w6 ⟨rfl, hb⟩)
    | fail)
  have hS6 := hS5.below hb
  clear hE hb hS5
  have hE := NHalfN n kind _ _ P w6 HPR.out ((show LentsIn w6 G1 h1 ps1 (pcs l) from hS6.tail.tail.head).rd HNC.out (by omega) HRG.out) (by rw [HN1.out]; omega) (by rw [HP1.out]; exact HK.out)
  rw [HP1.out] at hE
  go_upto_region 10 with (first
    | (go_at_call 28; (with_reducible refine hE.mono ?_); rintro e w7 ⟨rfl, hb⟩)
    | fail)
  have hS7 := (hS6.below hb).sw [_, _]
  clear hE hb hS6
  have hAs := AsLent_sep hS7 (w5 := w1) (by simp) hS7.same HL1.out (by rw [HM.out]; omega) HB.out
  rw [HM.out] at hAs
  go_upto_region 11 with (first
    | (go_at_call 29; (with_reducible refine hAs.mono ?_); rintro e w8 ⟨rfl, hS8⟩)
    | fail)
  clear hAs hS7
  have hE := RNEncN n kind _ l P w8 (hS8.rdCs (by simp) HL1.out) (by rw [HM.out]; omega)
  go_upto_region 12 with (first
    | (go_at_call 30; (with_reducible refine hE.mono ?_); rintro e w9 ⟨vw, rfl, ho, hb⟩)
    | fail)
  have hS9 := hS8.bytes hb ho (Nat.le_refl _)
  clear hE ho hb hS8
  have hE := RNFilN n kind _ l P w9 (hS9.rdCs (by simp) HL1.out) (by rw [HM.out]; omega) HK.out
  have hxw : OwB w9 0 vw (encNL n kind (pcs l) P) := hS9.head
  have hxc : OwB w9 0 vc (encNL n kind (pcs l) P) := hS9.tail.head
  have hxb : OwB w9 0 vb (encNL n kind (pcs l) P) := hS9.tail.tail.head
  have t1 := run_B_string hxw.rd
  have t2 := run_B_string hxc.rd
  have t3 := run_B_string hxb.rd
  have hLE := encNL_length n kind (pcs l) P
  have hH := fun W (h : RdCs W (.slice A m c) l) => RNHalfN n kind _ l P W h (by rw [HM.out]; omega) HK.out
  have HH := Lib.hid hH
  have HLE := Lib.hid hLE
  clear hxw hxc hxb hLE hH
  generalize encNL n kind (pcs l) P = eb at *
  generalize encNZ n kind (pcs l) P = z at *
  generalize fillN n kind (pcs l) P = fz at *
  generalize (halfP n kind (pcs l) P).1 = ha at *
  generalize (halfP n kind (pcs l) P).2 = hz at *
  have hzz : ((z == 0) != (z == 0)) = false := by simp
  go_upto_region 14 with (first
    | (go_at_call 31; (with_reducible refine hE.mono ?_); rintro e w10 ⟨rfl, hb⟩)
    | fail)
  have hS10 := hS9.below hb
  clear hE hb hS9 t1 t2 t3 hzz
  have hE := HH.out w10 (hS10.rdCs (by simp) HL1.out)
  go_upto_region 15 with (first
    | (go_at_call 32; (with_reducible refine hE.mono ?_); rintro e w11 ⟨rfl, hb⟩)
    | fail)
  have hS11 := (hS10.below hb).sw [_, _]
  clear hE hb hS10 HH
  obtain ⟨q, hq⟩ : ∃ q, eb.length = q := ⟨_, rfl⟩
  obtain ⟨VB, cb, rfl⟩ := Own.slice (show OwB w11 0 vb eb from hS11.head)
  rw [hq] at hS11
  have hq6 : q ≤ 65536 := by rw [← hq]; exact HLE.out
  have HQ := Lib.hid hq
  rw [hq]
  clear hq
  go_upto_region 16 with (fail)
  go_loopw [24] (fun iv wr => ∃ (i : Nat) (x : List UInt8), i ≤ q ∧ iv = .int .i64 (i : Int) ∧ Hid (x.length = q) ∧ Sep w1 wr [bytesE (.slice VB q cb) x, bytesE vw eb, bytesE vc eb, oldE w1]) (fun iv _ => q - (intOf iv).toNat)
  case atStart => exact ⟨0, eb, Nat.zero_le _, rfl, HQ, hS11⟩
  case round =>
    clear hS11
    obtain ⟨i, x, hi, rfl, HX, hS⟩ := hrel
    by_cases hlt : i < q
    · have ik : (i : Int) < (q : Int) := by omega
      have hix : i < x.length := by rw [HX.out]; exact hlt
      have hox : OwB wr 0 (.slice VB q cb) x := hS.head
      obtain ⟨g, rfl⟩ : ∃ g, VB = some ⟨g, 0, none⟩ := by
        rcases hox.form with ⟨h, _⟩ | ⟨g, c', h, _⟩
        · injection h with h1 h2; omega
        · injection h with h; exact ⟨g, h⟩
      have y0 := hox.cell hix
      have f0 := hox.frozen hix
      have hS2 := hS.setB i 1
      have HS2 := Lib.hid hS2
      have HX2 : Hid ((x.set i 1).length = q) := Lib.hid (by rw [List.length_set]; exact HX.out)
      clear hS hox hS2
      go_wp2_with fail
      go_roundw
      case rel => exact ⟨i + 1, x.set i 1, by omega, by go_num, HX2, HS2.out⟩
      case measure => simp [intOf]; omega
    · obtain rfl : i = q := by omega
      obtain ⟨w12, rfl⟩ : ∃ w12, w12 = wr := ⟨_, rfl⟩
      have hox : OwB w12 0 (.slice VB i cb) x := hS.head
      have hr4 := rd_four w12 2 2 2 2
      have hS12 := hS.alloc 5 [.int .u8 ((2 : UInt8).toNat : Int), .int .u8 ((2 : UInt8).toNat : Int), .int .u8 ((2 : UInt8).toNat : Int), .int .u8 ((2 : UInt8).toNat : Int)]
      have hox' : OwB (w12.alloc (.cells #[.int .u8 2, .int .u8 2, .int .u8 2, .int .u8 2] 5)) 0 (.slice VB i cb) x := hS12.tail.head
      go_upto_region 20 with (first
        | (at_builtin; refine wp_append_B rfl (.tmp 134) (.tmp 135) rfl 0 (.slice VB i cb) x rfl hox' (.slice (some ⟨w12.heap.size, 0, none⟩) 4 4) [2, 2, 2, 2] rfl hr4 (by rw [HX.out]; simp only [List.length_cons, List.length_nil]; omega) (Nat.zero_le _) ?_; intro v13 w13 ho13 hg13 hk13)
        | fail)
      have hS13 := hS12.sw1.appended ho13 hg13 (by rcases hk13 with e | e; exact .inl e; exact .inr e)
      obtain ⟨VG, cg, hvg⟩ := Own.slice (show OwB w13 0 v13 (x ++ [2, 2, 2, 2]) from hS13.head)
      have hlg : (x ++ [(2 : UInt8), 2, 2, 2]).length = i + 4 := by rw [List.length_append, HX.out]; rfl
      rw [hlg] at hvg
      subst hvg
      have hxw : OwB w13 0 vw eb := hS13.of_mem (E := bytesE vw eb) (by simp)
      have hxc : OwB w13 0 vc eb := hS13.of_mem (E := bytesE vc eb) (by simp)
      have t1 := run_B_string hxw.rd
      have t2 := run_B_string hxc.rd
      have HBO := Lib.hid (HW1.out.trans ((hS13.belowOld (_v := w1) (by simp)).mono HW1.out.size))
      have e4 : IntKind.i64.wrap ((i : Int) + 4) = (i : Int) + 4 := by rw [IntKind.wrap_i64]; omega
      have e5 : ((i + 4 : Nat) : Int) = (i : Int) + 4 := by push_cast; rfl
      clear hS hox hr4 hS12 hox' ho13 hg13 hk13 hS13 hlg hxw hxc
      generalize mostKN P = mk at *
      generalize mostVN P = mv at *
      go_wp2_with (first
        | (go_at_call 33; (with_reducible refine (M1.out _).mono ?_); rintro e w14 ⟨rfl, rfl⟩)
        | (go_at_call 34; (with_reducible refine (M3.out _).mono ?_); rintro e w14 ⟨rfl, rfl⟩)
        | (go_at_call 35; (with_reducible refine (M2.out _).mono ?_); rintro e w14 ⟨rfl, rfl⟩)
        | (go_at_call 36; (with_reducible refine (M4.out _).mono ?_); rintro e w14 ⟨rfl, rfl⟩)
        | fail)
      go_ret
      exact ⟨rfl, HBO.out⟩
end Go.Proofs.YtfcnkpofcekmgaaGreat

-- The row's last step from 'Below' alone (the guide's small lemma 9).
namespace Go.Proofs.YtfcnkpofcekmgaaGreat
open Go.RowKit Go.WideShapes Go.ChangeShapes
section
variable {H : Type} {enc : TypeId × Value → H} {P : Program}
theorem post_of_below {f : Func} {s : ChangeSpec} {apart fresh handsOn again : Bool} {W W' : World} {args : Array Value} {v : Value} {ds gs : List (DataW H)} {before pa pv : List MemPlace}
    (hW : DataW.Whole enc P f.params.toList s.vars apart W args.toList ds gs before)
    (hres : ∀ (b : Nat) (sp : Nat → Bool) (hd : Bool), DataW.TrodAll enc P W' b sp hd f.resultTypes.toList (v.resultList f.resultTypes.size) (s.fn H (ds ++ gs)).results [])
    (hargs : ∀ sp : Nat → Bool, (∀ p ∈ before, sp p.block = true) → DataW.TrodAll enc P W' 0 sp true f.params.toList args.toList (s.fn H (ds ++ gs)).args pa)
    (hvars : ∀ sp : Nat → Bool, (∀ p ∈ before, sp p.block = true) → DataW.TrodVars enc P W' sp s.vars (s.fn H (ds ++ gs)).vars pv)
    (hps : before = pa ++ pv) (hb : Below W.heap.size W W')
    (hok : ∀ (j : Nat) (t : TypeId) (r : Value), f.resultTypes[j]? = some t → (v.resultList f.resultTypes.size)[j]? = some r → Value.okWide P W' .any 0 t r) :
    s.post enc P f apart fresh handsOn again W args v W' := by
  have hlt : ∀ p ∈ before, p.block < W.heap.size := fun p hp => hW.lt p hp
  have hold : ∀ p ∈ before, (fun b => decide (b < W.heap.size)) p.block = true := fun p hp => by simpa using hlt p hp
  refine ⟨ds, gs, before, [], pa, pv, hW, hres _ _ _, hargs _ hold, hvars _ hold, World.keptBut_mono (fun p hp => ⟨hp, ?_⟩) (hb.frame (· ∈ before)), fun _ => ?_⟩
  · rw [hps, List.mem_append] at hp
    exact Or.inr hp
  · obtain ⟨_, _, _, _, _, hz, hn⟩ := hW
    refine ⟨hok, _, _, ([] ++ pa) ++ pv, ⟨[] ++ pa, pv, trodAll_append (hargs _ (fun _ _ => rfl)) (hres _ _ _), hvars _ (fun _ _ => rfl), rfl, ?_, ?_⟩, ?_⟩
    · intro b off hp
      have hin : MemPlace.cell b off ∈ before := by rw [hps]; simpa using hp
      rw [hb.frozen (hlt _ hin)]
      exact hz b off hin
    · intro ha
      have := hn ha
      rw [hps] at this
      simpa using this
    · intro p hp _
      rw [hps]
      simpa using hp
end
end Go.Proofs.YtfcnkpofcekmgaaGreat

-- A law that returns true and changes nothing below: from its walk to the row's own form.
namespace Go.Proofs.YtfcnkpofcekmgaaGreat
open Go.RowKit Go.WideShapes Go.ChangeShapes Go.Joins
section
variable {H : Type} {enc : TypeId × Value → H} {P : Program}
theorem trodAll_stays (hl : laidOutB P = true) {W W' : World} {sp' : Nat → Bool} : ∀ {ts : List TypeId} {vs : List Value} {ds : List (DataW H)} {ps : List MemPlace}, (ts.all fun t => P.readableRec t && decide (t < P.types.size)) = true →
    DataW.TrodAll enc P W 0 (fun _ => true) true ts vs ds ps → (∀ p ∈ ps, W.sameAt W' p) → (∀ p ∈ ps, sp' p.block = true) → DataW.TrodAll enc P W' 0 sp' true ts vs ds ps
  | [], [], [], _, _, h, _, _ => h
  | t :: ts, _ :: _, _ :: _, _, hr, ⟨p, q, h1, h2, e⟩, hk, hs => by
    simp only [List.all_cons, Bool.and_eq_true, decide_eq_true_eq] at hr
    obtain ⟨⟨hr1, hr2⟩, hr3⟩ := hr
    exact ⟨p, q, WideElems.Trod_stays hl hr1 hr2 h1 (fun x hx => hk x (by rw [e]; exact List.mem_append_left _ hx)) (fun x hx => hs x (by rw [e]; exact List.mem_append_left _ hx)),
      trodAll_stays hl hr3 h2 (fun x hx => hk x (by rw [e]; exact List.mem_append_right _ hx)) (fun x hx => hs x (by rw [e]; exact List.mem_append_right _ hx)), e⟩
theorem trodAll_len {w : World} {base : Nat} {spare : Nat → Bool} {held : Bool} : ∀ {ts : List TypeId} {vs : List Value} {ds : List (DataW H)} {ps : List MemPlace}, DataW.TrodAll enc P w base spare held ts vs ds ps → ds.length = ts.length
  | [], [], [], _, _ => rfl
  | _ :: _, _ :: _, _ :: _, _, ⟨_, _, _, h2, _⟩ => by simp [trodAll_len h2]
theorem law_post {fn : Func} {s : ChangeSpec} {tb : TypeId} {W W' : World} {args : Array Value} {ds gs : List (DataW H)} {before : List MemPlace} (hvars : s.vars = []) (hrt : fn.resultTypes = #[tb]) (htb : P.underlying tb = some .bool) (hl : laidOutB P = true)
    (hr : (fn.params.toList.all fun t => P.readableRec t && decide (t < P.types.size)) = true) (hs : ∀ ds : List (DataW H), ds.length = fn.params.size → s.fn H ds = { results := [.lit (.bool true)], args := ds })
    (hW : DataW.Whole enc P fn.params.toList s.vars false W args.toList ds gs before) (hb : Below W.heap.size W W') : s.post enc P fn false true false false W args (.bool true) W' := by
  have hW' := hW
  obtain ⟨p, q, hA, hV, rfl, hfz, hnd⟩ := hW
  rw [hvars] at hV
  obtain ⟨rfl, rfl⟩ := trodVars_none hV
  have hlen : ds.length = fn.params.size := by simpa using trodAll_len hA
  have hfn := hs ds hlen
  have hlt : ∀ x ∈ p, x.block < W.heap.size := fun x hx => hW'.lt x (List.mem_append_left _ hx)
  refine post_of_below (pa := p) (pv := []) hW' ?_ ?_ ?_ (by simp) hb (ok_one hrt rfl (okWide_bool_mk htb _))
  · intro b sp hd
    rw [List.append_nil, hfn, hrt]
    exact trodAll_cons_mk (shut_bool htb _) trodAll_mk0
  · intro sp hsp
    rw [List.append_nil, hfn]
    exact trodAll_stays hl hr hA (fun x hx => hb.same (hlt x hx)) (fun x hx => hsp x (List.mem_append_left _ hx))
  · intro sp _
    rw [List.append_nil, hfn, hvars]
    exact (rfl : DataW.TrodVars enc P W' sp [] [] [])
end
section
variable {H : Type} {enc : TypeId × Value → H} {W : World}
theorem cells_u8 : Tryz.prog.cellsOf 5 = 1 := by kernel_rfl
end
end Go.Proofs.YtfcnkpofcekmgaaGreat

-- The bounds of an integer that came in; a row whose statement bears the bound on the bulk.
namespace Go.Proofs.YtfcnkpofcekmgaaGreat
open Go.RowKit Go.WideShapes Go.ChangeShapes
theorem wf_i64 {n : Int} (h : (Lit.int .i64 n).wf = true) : -9223372036854775808 ≤ n ∧ n ≤ 9223372036854775807 := by
  simp [Lit.wf, IntKind.min, IntKind.max, IntKind.signed, IntKind.bits] at h
  exact h
end Go.Proofs.YtfcnkpofcekmgaaGreat

-- An argument of type []api.Cell.
namespace Go.Proofs.YtfcnkpofcekmgaaGreat
open Go.RowKit Go.WideShapes Go.ChangeShapes Go.Deep
section
variable {H : Type} {enc : TypeId × Value → H} {W : World}
/-- A field, or an element, of type []byte. -/
theorem trod_bytes {fuel : Nat} {cs : List Value} {x : DataW H × List MemPlace} (h : DataW.trod enc Tryz.prog W 0 (fun _ => true) true fuel 41 cs = some x) :
    ∃ (v : Value) (l : List UInt8), cs = [v] ∧ RdB W v l ∧ ((x.1 = .nil ∧ l = []) ∨ ∃ e s, x.1 = .slice e s ∧ l.length ≤ e.length + s.length) := by
  rcases open_ints Tryz.underlying41 Tryz.underlying5 cells_u8 h with ⟨rfl, rfl⟩ | ⟨a, len, cap, zs, rfl, _, hl, hm, hz, rfl, hcell, hwz⟩
  · exact ⟨_, [], rfl, RdB.nil, .inl ⟨rfl, rfl⟩⟩
  · simp only [if_true] at hz
    have hlen : ((zs.take len).map fun z => UInt8.ofNat z.toNat).length = len := by simp; omega
    refine ⟨_, (zs.take len).map fun z => UInt8.ofNat z.toNat, rfl, ⟨some a, cap, by rw [hlen], by rw [hlen]; exact hl, hm, fun j hj => ⟨a, rfl, ?_⟩⟩, .inr ⟨_, _, rfl, by rw [hlen]; simp [lits]; omega⟩⟩
    rw [hlen] at hj
    rw [hcell j (by omega)]
    have hjz : j < zs.length := by omega
    have hw := hwz _ (List.getElem_mem hjz)
    have hg : zs.getD j 0 = zs[j] := by simp [List.getD, hjz]
    rw [hg]
    simp [Lit.wf, IntKind.min, IntKind.max, IntKind.signed, IntKind.bits] at hw
    simp
    omega
theorem trod_i64 {fuel : Nat} {cs : List Value} {x : DataW H × List MemPlace} (h : DataW.trod enc Tryz.prog W 0 (fun _ => true) true fuel 3 cs = some x) : ∃ n : Int, cs = [.int .i64 n] ∧ -9223372036854775808 ≤ n ∧ n ≤ 9223372036854775807 := by
  obtain ⟨n, rfl, _, hw⟩ := DataW.trod_int Tryz.underlying3 h
  simp [Lit.wf, IntKind.min, IntKind.max, IntKind.signed, IntKind.bits] at hw
  exact ⟨n, rfl, hw⟩
theorem cells_Cell : Tryz.prog.cellsOf 43 = 5 := by kernel_rfl
set_option maxRecDepth 100000 in
theorem open_cell {fuel : Nat} {cs : List Value} {x : DataW H × List MemPlace} (h : DataW.trod enc Tryz.prog W 0 (fun _ => true) true fuel 43 cs = some x) :
    ∃ o : CV, cs = o.cells ∧ o.ok W ∧ ∃ y0 y1 y2 y3 y4, x.1 = .agg [y0, y1, y2, y3, y4] ∧ ((y0 = .nil ∧ o.c.key = []) ∨ ∃ e s, y0 = .slice e s ∧ o.c.key.length ≤ e.length + s.length) ∧ ((y2 = .nil ∧ o.c.val = []) ∨ ∃ e s, y2 = .slice e s ∧ o.c.val.length ≤ e.length + s.length) := by
  obtain ⟨xs, n, _, rfl, hcl, hxl, hg⟩ := DataW.trod_struct Tryz.underlying43 h
  rw [cells_Cell] at hcl
  match cs, hcl with
  | [c0, c1, c2, c3, c4], _ =>
    match xs, hxl with
    | [z0, z1, z2, z3, z4], _ =>
      have g0 := hg 0 _ rfl
      have g1 := hg 1 _ rfl
      have g2 := hg 2 _ rfl
      have g3 := hg 3 _ rfl
      have g4 := hg 4 _ rfl
      obtain ⟨kv, key, e0, hd, w0⟩ := trod_bytes (cs := [c0]) g0
      obtain ⟨k, e1, r1⟩ := trod_i64 (cs := [c1]) g1
      obtain ⟨vv, val, e2, hv, w2⟩ := trod_bytes (cs := [c2]) g2
      obtain ⟨pg, e3, r3⟩ := trod_i64 (cs := [c3]) g3
      obtain ⟨ct, e4, r4⟩ := trod_i64 (cs := [c4]) g4
      injection e0 with e0
      injection e1 with e1
      injection e2 with e2
      injection e3 with e3
      injection e4 with e4
      subst e0 e1 e2 e3 e4
      exact ⟨⟨c0, c2, ⟨key, k, val, pg, ct⟩⟩, rfl, ⟨hd, hv, r1, r3, r4⟩, z0.1, z1.1, z2.1, z3.1, z4.1, rfl, w0, w2⟩
end
end Go.Proofs.YtfcnkpofcekmgaaGreat

-- A law's '..UptoSaid': what the bound on the bulk gives; from the walk to the row's own form.
namespace Go.Proofs.YtfcnkpofcekmgaaGreat
open Go.RowKit Go.WideShapes Go.ChangeShapes Go.Joins Go.Deep
section
variable {H : Type} {enc : TypeId × Value → H} {W : World}
theorem bulk_pos (d : DataW H) : 1 ≤ Rows.uptoBulk d := by
  cases d with
  | lit l => cases l <;> simp [Rows.uptoBulk]
  | nil => simp [Rows.uptoBulk]
  | ptr d => simp [Rows.uptoBulk]
  | slice elems spare => simp [Rows.uptoBulk]
  | agg parts => simp [Rows.uptoBulk]
  | iface t d => simp [Rows.uptoBulk]
  | map entries => simp [Rows.uptoBulk]
  | held h => simp [Rows.uptoBulk]
theorem bulkU_mem {d : DataW H} : ∀ {l : List (DataW H)}, d ∈ l → Rows.uptoBulk d ≤ Rows.uptoBulkAll l
  | x :: r, h => by
    simp only [Rows.uptoBulkAll]
    rcases List.mem_cons.1 h with rfl | e
    · omega
    · have := bulkU_mem e
      omega
theorem bulk_length : ∀ l : List (DataW H), l.length ≤ Rows.uptoBulkAll l
  | [] => by simp [Rows.uptoBulkAll]
  | x :: r => by
    have h1 := bulk_pos x
    have h2 := bulk_length r
    simp only [Rows.uptoBulkAll, List.length_cons]
    omega
theorem bulk_places (elems spare : List (DataW H)) : elems.length + spare.length + 1 ≤ Rows.uptoBulk (.slice elems spare) := by
  have h1 := bulk_length elems
  have h2 := bulk_length spare
  simp only [Rows.uptoBulk]
  omega
end
theorem law_lifts_upto {H : Type} {enc : TypeId × Value → H} {C : Checked} {os : Os} {fno : FuncId} {fn : Func} {s : ChangeSpec} {conds : List PathCond} {tb : TypeId} {F : Stop.Interp}
    (own : ownKnob C.prog.godebug = none) (started : os.Started) (noInit : C.prog.inits.idxOf? fno = none) (hfn : C.prog.funcs[fno]? = some fn)
    (witness : ∃ (w : World) (tape : Tape) (i : Input), w.os = os ∧ (w.forCall tape i).Shaped C.prog ∧ i.vars = [] ∧ Input.okWide C.prog (w.forCall tape i) .any w.heap.size fno i ∧
      (Rows.OpenSpec.upto s).pre6 enc C.prog fn conds false (w.forCall tape i).memory i.args ∧ ({} : Assume).holds C.prog (lone (Frame.enter C.prog fno i.args .normal) [] (w.forCall tape i)))
    (hvars : s.vars = []) (hrt : fn.resultTypes = #[tb]) (htb : C.prog.underlying tb = some .bool) (hl : laidOutB C.prog = true)
    (hr : (fn.params.toList.all fun t => C.prog.readableRec t && decide (t < C.prog.types.size)) = true) (hs : ∀ ds : List (DataW H), ds.length = fn.params.size → s.fn H ds = { results := [.lit (.bool true)], args := ds })
    (walk : ∀ (W : World) (base : Nat) (args : Array Value) (ds : List (DataW H)) (p : List MemPlace), (∀ (j : Nat) t v, fn.params[j]? = some t → args[j]? = some v → Value.okWide C.prog W .any base t v) →
      DataW.TrodAll enc C.prog W 0 (fun _ => true) true fn.params.toList args.toList ds p → Rows.uptoBulkAll ds ≤ 1048576 →
      Calls C.prog fno args W fun e W' => e = .returned (.bool true) ∧ Below W.heap.size W W') :
    ReturnsInHanded {} C os fno .any ((Rows.OpenSpec.upto s).pre6 enc C.prog fn conds false) (((Rows.OpenSpec.upto s).at F).post enc C.prog fn false true false false) := by
  refine returnsInHanded_of_cond (s := Rows.OpenSpec.upto s) (k := Rows.uptoSmall) rfl own started noInit hfn witness ?_
  intro W base args ds gs before hval hW _ hk _
  have hW' : DataW.Whole enc C.prog fn.params.toList s.vars false W args.toList ds gs before := hW
  obtain ⟨p, q, hA, hV, _, _, _⟩ := hW
  have hV : DataW.TrodVars enc C.prog W (fun _ => true) s.vars gs q := hV
  rw [hvars] at hV
  obtain ⟨rfl, rfl⟩ := trodVars_none hV
  rw [List.append_nil] at hk
  refine (walk W base args ds p hval hA (of_decide_eq_true hk)).mono fun e W' h => ?_
  obtain ⟨rfl, hb⟩ := h
  exact ⟨_, rfl, law_post hvars hrt htb hl hr hs hW' hb⟩
end Go.Proofs.YtfcnkpofcekmgaaGreat
