/- Texts joined: espalierref01.Lent, AsLent; espalierlaw07.lent; Pieces of memory; espalierlaw07.asLent; espalierlaw07.PackedDecodes -/
import Derived.Test.YtaniabhajngdeaaKN5
import Derived.Test.YtaniabhajngdeaaKN7
import Derived.Test.YtaniabhajngdeaaKN14
import Derived.Test.YtaniabhajngdeaaKD18
import Derived.Test.YtaniabhajngdeaaKD19
import Derived.Outline
import Derived.Deep.DeepCutAuto
import Derived.Deep.RegionHeld3
import Derived.BigQuiet
-- espalierref01.Lent, AsLent: walks.
namespace Go.Proofs.Ytaniabhajngdeaa
open Go.RowKit
def marks : List UInt8 := [71, 72, 73]
theorem splice0 (l : List UInt8) : splice (List.replicate (l.length + 3) 0) 0 (l.take (min l.length (l.length + 3))) = l ++ [0, 0, 0] := by
  rw [Nat.min_eq_left (by omega), List.take_length]
  unfold splice
  simp [List.drop_replicate]
theorem set3 (l : List UInt8) : (((l ++ [0, 0, 0]).set l.length 71).set (l.length + 1) 72).set (l.length + 2) 73 = l ++ marks := by
  rw [List.set_append_right _ _ (by omega), List.set_append_right _ _ (by omega), List.set_append_right _ _ (by omega)]
  simp [marks]
set_option maxHeartbeats 1000000 in
set_option maxRecDepth 20000 in
theorem Lent3_any (v : Value) (l : List UInt8) (w : World) (hv : RdB w v l) (hl : l.length ≤ 140737488355328) :
    Calls Try.prog 23 #[v] w fun e w' => ∃ g, e = .returned (.slice (some ⟨g, 0, none⟩) l.length (l.length + 3)) ∧ OwB w' w.heap.size (.slice (some ⟨g, 0, none⟩) (l.length + 3) (l.length + 3)) (l ++ marks) ∧ Below w.heap.size w w' := by
  obtain ⟨A, c, rfl, hm⟩ := hv.form
  go_enter Try.func23, Try.ntmps23
  go_wp2_with (first
    | (at_make; refine wp_make_B rfl (.tmp 8) (.tmp 8) rfl _ (l.length + 3) rfl rfl (by go_num) (by omega) ?_; intro w1 hb1 hw1 hs1)
    | ((with_reducible refine at_copy ?_); refine wp_copy_B rfl (.tmp 10) (.tmp 11) rfl _ (l.length + 3) _ w.heap.size 0 rfl _ hb1 (fun _ => rfl) (by simp) _ l rfl (hv.below hw1 (Nat.le_refl _)) ?_; intro w2 hb2 hg2; rw [splice0] at hb2; have f0 := hb2.cell' (j := l.length) (u := .int .u8 0) (by rw [bvs_append, List.getElem?_append_right (by rw [bvs_length]; omega), bvs_length, Nat.sub_self]; rfl); have f1 := hb2.cell' (j := l.length + 1) (u := .int .u8 0) (by rw [bvs_append, List.getElem?_append_right (by rw [bvs_length]; omega), bvs_length, Nat.add_sub_cancel_left]; rfl); have f2 := hb2.cell' (j := l.length + 2) (u := .int .u8 0) (by rw [bvs_append, List.getElem?_append_right (by rw [bvs_length]; omega), bvs_length, Nat.add_sub_cancel_left]; rfl); have z0 := hb2.frozen (j := l.length) (by rw [bvs_length]; simp); have z1 := hb2.frozen (j := l.length + 1) (by rw [bvs_length]; simp); have z2 := hb2.frozen (j := l.length + 2) (by rw [bvs_length]; simp))
    | fail)
  go_ret
  have h3 := ((hb2.set l.length (.int .u8 ((71 : UInt8).toNat : Int))).set (l.length + 1) (.int .u8 ((72 : UInt8).toNat : Int))).set (l.length + 2) (.int .u8 ((73 : UInt8).toNat : Int))
  rw [← bvs_set, ← bvs_set, ← bvs_set, set3] at h3
  have hlen : (l ++ marks).length = l.length + 3 := by simp [marks]
  have h4 := h3.owB' (base := w.heap.size) (Nat.le_refl _) (by rw [hlen]; simp only [maxLen]; omega)
  rw [hlen] at h4
  have hb3 := hw1.grown hg2 hw1.size (fun k hk => Nat.le_of_eq (Option.some.inj hk))
  exact ⟨w.heap.size, rfl, h4, ((hb3.setCell (p := ⟨w.heap.size, l.length, none⟩) (Nat.le_refl _) _).setCell (p := ⟨w.heap.size, l.length + 1, none⟩) (Nat.le_refl _) _).setCell (p := ⟨w.heap.size, l.length + 2, none⟩) (Nat.le_refl _) _⟩
theorem OwB.part {w : World} {base g n k c : Nat} {x s : List UInt8} (h : OwB w base (.slice (some ⟨g, 0, none⟩) (n + k) c) (x ++ s)) (hx : x.length = n) : RdB w (.slice (some ⟨g, 0, none⟩) n c) x := by
  subst hx
  have := (h.take (m := x.length) (by omega)).rd
  rw [List.take_left] at this
  exact this
set_option maxHeartbeats 2000000 in
set_option maxRecDepth 20000 in
theorem AsLent3_any (g n : Nat) (vb : Value) (l : List UInt8) (base : Nat) (w : World) (hn : l.length = n) (ho : OwB w base (.slice (some ⟨g, 0, none⟩) (n + 3) (n + 3)) (l ++ marks)) (hv : RdB w vb l) (hl : n ≤ 140737488355328) :
    Calls Try.prog 26 #[.slice (some ⟨g, 0, none⟩) n (n + 3), vb] w fun e w' => e = .returned (.bool true) ∧ w.grownBy w' (some g) := by
  subst hn
  obtain ⟨A, c, rfl, hm⟩ := hv.form
  have hlen : (l ++ marks).length = l.length + 3 := by simp [marks]
  have q1 := run_B_string hv.drew
  have q2 := run_B_string (ho.part rfl).drew
  have f0 := ho.cell (j := l.length) (by omega)
  have f1 := ho.cell (j := l.length + 1) (by omega)
  have f2 := ho.cell (j := l.length + 2) (by omega)
  have e0 : (l ++ marks)[l.length]'(by omega) = 71 := by rw [List.getElem_append_right (by omega)]; simp [marks]
  have e1 : (l ++ marks)[l.length + 1]'(by omega) = 72 := by rw [List.getElem_append_right (by omega)]; simp [marks]
  have e2 : (l ++ marks)[l.length + 2]'(by omega) = 73 := by rw [List.getElem_append_right (by omega)]; simp [marks]
  rw [e0] at f0
  rw [e1] at f1
  rw [e2] at f2
  replace f0 : w.cell? ⟨g, l.length, none⟩ = some (.int .u8 71) := f0
  replace f1 : w.cell? ⟨g, l.length + 1, none⟩ = some (.int .u8 72) := f1
  replace f2 : w.cell? ⟨g, l.length + 2, none⟩ = some (.int .u8 73) := f2
  clear e0 e1 e2 hlen
  go_enter Try.func26, Try.ntmps26
  go_upto_region 5 with (fail)
  go_region
  clear q1 q2 f0 f1 f2
  go_wp2_with fail
  go_loopw [8] (fun i wr => ∃ (j : Nat) (m : List UInt8), i = .int .i64 (j : Int) ∧ j ≤ l.length + 3 ∧ Hid (m.length = l.length + 3) ∧ OwB wr base (.slice (some ⟨g, 0, none⟩) (l.length + 3) (l.length + 3)) m ∧ w.grownBy wr (some g))
    (fun i _ => l.length + 3 - (intOf i).toNat)
  case atStart => exact ⟨0, l ++ marks, rfl, Nat.zero_le _, Lib.hid (by simp [marks]), ho.drew, ⟨rfl, rfl, rfl, Nat.le_refl _, fun _ _ _ => rfl⟩⟩
  case round =>
    clear ho hv
    obtain ⟨j, m, rfl, hj, HM, ho, hg⟩ := hrel
    by_cases hlt : j < l.length + 3
    · have hml := HM.out
      have hc := ho.cell (j := j) (by omega)
      have hf := ho.frozen (j := j) (by omega)
      have hgl := (ho.lt g rfl).2
      generalize (m[j]'(by omega)).toNat = y at hc
      clear hml
      go_wp2_with fail
      go_roundw
      case rel => exact ⟨j + 1, m.set j 97, by go_num, by omega, Lib.hid (by rw [List.length_set]; exact HM.out), ho.set j 97, grownBy_trans hg (grownBy_setCell _ _ _)⟩
      case measure => simp [intOf]; omega
    · obtain rfl : j = l.length + 3 := by omega
      go_wp2_with fail
      go_ret
      exact ⟨rfl, hg⟩
end Go.Proofs.Ytaniabhajngdeaa

-- espalierlaw07.lent: the walk.
namespace Go.Proofs.Ytaniabhajngdeaa
open Go.RowKit
def lentCV3 (p : Nat × Nat) (c : PC) : CV := ⟨.slice (some ⟨p.1, 0, none⟩) c.key.length (c.key.length + 3), .slice (some ⟨p.2, 0, none⟩) c.val.length (c.val.length + 3), c⟩
def lentL3 (ps : List (Nat × Nat)) (cs : List PC) : List CV := List.zipWith lentCV3 ps cs
def lentP3 (g : Nat) (b : List UInt8) : Ent := bytesE (.slice (some ⟨g, 0, none⟩) (b.length + 3) (b.length + 3)) (b ++ marks)
def lent3E (ps : List (Nat × Nat)) (cs : List PC) : List Ent := (List.zipWith (fun p c => [lentP3 p.1 c.key, lentP3 p.2 c.val]) ps cs).flatten
theorem lentL3_length {ps : List (Nat × Nat)} {cs : List PC} (h : ps.length = cs.length) : (lentL3 ps cs).length = cs.length := by unfold lentL3; rw [List.length_zipWith, h, Nat.min_self]
theorem lentL3_snoc {ps : List (Nat × Nat)} {cs : List PC} (h : ps.length = cs.length) (p : Nat × Nat) (c : PC) : lentL3 (ps ++ [p]) (cs ++ [c]) = lentL3 ps cs ++ [lentCV3 p c] := by
  unfold lentL3; rw [List.zipWith_append h]; rfl
theorem lent3E_snoc {ps : List (Nat × Nat)} {cs : List PC} (h : ps.length = cs.length) (p : Nat × Nat) (c : PC) : lent3E (ps ++ [p]) (cs ++ [c]) = lent3E ps cs ++ [lentP3 p.1 c.key, lentP3 p.2 c.val] := by
  unfold lent3E; rw [List.zipWith_append h]; simp
theorem pcs_lentL3 {ps : List (Nat × Nat)} {cs : List PC} (h : ps.length = cs.length) : pcs (lentL3 ps cs) = cs := by
  unfold pcs lentL3
  refine List.ext_getElem (by simp [h]) fun i h1 h2 => ?_
  simp [lentCV3]
theorem Lent3_sep {w0 w : World} {L : List Ent} {v : Value} {l : List UInt8} (h : Sep w0 w L) (hv : RdB w v l) (hl : l.length ≤ 140737488355328) :
    Calls Try.prog 23 #[v] w fun e w' => ∃ g, e = .returned (.slice (some ⟨g, 0, none⟩) l.length (l.length + 3)) ∧ Sep w0 w' (lentP3 g l :: L) := by
  refine (Lent3_any v l w hv hl).mono ?_
  rintro e w' ⟨g, rfl, ho, hb⟩
  exact ⟨g, rfl, h.bytes hb ho (Nat.le_refl _)⟩
theorem AsLent3_sep {w0 w : World} {L : List Ent} {vb : Value} {l : List UInt8} {g n : Nat} (h : Sep w0 w (lentP3 g l :: L)) (hn : l.length = n) (hv : RdB w vb l) (hl : n ≤ 140737488355328) :
    Calls Try.prog 26 #[.slice (some ⟨g, 0, none⟩) n (n + 3), vb] w fun e w' => e = .returned (.bool true) ∧ Sep w0 w' L := by
  subst hn
  refine (AsLent3_any g l.length vb l 0 w rfl h.head hv hl).mono ?_
  rintro e w' ⟨rfl, hg⟩
  exact ⟨rfl, h.kill (Turn.of_grown hg (fun k e => e))⟩
def lentX3 (n : Nat) (ps : List (Nat × Nat)) (cs : List PC) (k : Nat) : List CV := lentL3 ps (cs.take k) ++ List.replicate (n + 2 - k) (markCV 0)
theorem lentX3_length {n k : Nat} {ps : List (Nat × Nat)} {cs : List PC} (h : ps.length = (cs.take k).length) (hc : cs.length = n) (hk : k ≤ n) : (lentX3 n ps cs k).length = n + 2 := by
  unfold lentX3
  rw [List.length_append, lentL3_length h, List.length_take, List.length_replicate]; omega
theorem lentX3_set {n k : Nat} {ps : List (Nat × Nat)} {cs : List PC} (h : ps.length = (cs.take k).length) (hc : cs.length = n) (hk : k < n) (p : Nat × Nat) :
    (lentX3 n ps cs k).set k (lentCV3 p (cs[k]'(by omega))) = lentX3 n (ps ++ [p]) cs (k + 1) := by
  have hX : (lentL3 ps (cs.take k)).length = k := by rw [lentL3_length h, List.length_take]; omega
  unfold lentX3
  rw [show n + 2 - k = (n + 2 - (k + 1)) + 1 by omega, List.replicate_succ, List.set_append_right _ _ (by omega), hX, Nat.sub_self, List.set_cons_zero, List.take_succ_eq_append_getElem (by omega), lentL3_snoc h]
  simp
/-- A cell of a list is written. -/
theorem Sep.setC {w0 w : World} {g k : Nat} {X : List CV} {L : List Ent} (h : Sep w0 w (blkE g 50 (flatC X) :: L)) (hk : k < X.length) (y : CV) :
    Sep w0 (((((w.setCell ⟨g, k * 5, none⟩ y.kv).setCell ⟨g, k * 5 + 1, none⟩ (.int .i64 y.c.kind)).setCell ⟨g, k * 5 + 2, none⟩ y.vv).setCell ⟨g, k * 5 + 3, none⟩ (.int .i64 y.c.page)).setCell ⟨g, k * 5 + 4, none⟩ (.int .i64 y.c.count)) (blkE g 50 (flatC (X.set k y)) :: L) := by
  have hg := grown5 w g k y.kv (.int .i64 y.c.kind) y.vv (.int .i64 y.c.page) (.int .i64 y.c.count)
  exact h.upd (Turn.of_grown hg (fun j e => (Option.some.inj e).symm)) (set5C h.head k hk y) (fun b hb => ⟨.inl hb, by have h' := h.lt b hb; have := hg.size; omega⟩)
theorem perm_lent3 {α : Type} (a b c o : α) (D : List α) : (a :: c :: b :: (D ++ [o])).Perm (a :: (D ++ [b, c] ++ [o])) := by
  refine List.Perm.cons a ((List.Perm.swap b c _).trans ?_)
  show ([b, c] ++ (D ++ [o])).Perm _
  rw [← List.append_assoc]
  exact List.Perm.append_right [o] List.perm_append_comm
set_option maxRecDepth 100000 in
set_option maxHeartbeats 8000000 in
theorem Klent_any (v : Value) (l : List CV) (w : World) (hl : RdCs w v l) (hn : (l.length + 2) * 72 ≤ 281474976710656) (hs : ∀ c ∈ pcs l, c.key.length ≤ 140737488355328 ∧ c.val.length ≤ 140737488355328) :
    Calls Try.prog 12 #[v] w fun e w' => ∃ G ps, e = .returned (.slice (some ⟨G, 0, none⟩) l.length (l.length + 2)) ∧ ps.length = (pcs l).length ∧ Sep w w' (blkE G 50 (flatC (lentL3 ps (pcs l) ++ [markCV (-7), markCV (-8)])) :: (lent3E ps (pcs l) ++ [oldE w])) := by
  obtain ⟨A, c, rfl, hm, hc⟩ := hl.slice
  obtain ⟨n, hnn⟩ : ∃ n, l.length = n := ⟨_, rfl⟩
  rw [hnn] at hl hn hm ⊢
  have hcl : (pcs l).length = n := by rw [pcs_length]; exact hnn
  have HCL := Lib.hid hcl
  clear hcl
  go_enter Try.func12, Try.ntmps12
  go_wp2_with (first
    | (at_make; refine wp_make_C rfl (.tmp 10) (.tmp 10) rfl _ (n + 2) rfl rfl (by go_num) (by omega) ?_; intro w1 hb1 hw1 hs1)
    | fail)
  have hS1 : Sep w w1 [blkE w.heap.size 50 (flatC (List.replicate (n + 2) (markCV 0))), oldE w] := (Sep.start w).new hw1 hb1 (fun g hg => by have e : g = w.heap.size := hg; have := hb1.lt; omega)
  clear hb1 hw1 hs1
  generalize w.heap.size = G at *
  go_loopw [5, 6] (fun i _ wr => ∃ (k : Nat) (ps : List (Nat × Nat)), k ≤ n ∧ i = .int .i64 (k : Int) ∧ Hid (ps.length = ((pcs l).take k).length) ∧ Sep w wr (blkE G 50 (flatC (lentX3 n ps (pcs l) k)) :: (lent3E ps ((pcs l).take k) ++ [oldE w]))) (fun i _ _ => n - (intOf i).toNat)
  case atStart => exact ⟨0, [], by omega, rfl, Lib.hid rfl, by simpa [lentX3, lentL3, lent3E] using hS1⟩
  case round =>
    clear hS1
    obtain ⟨k, ps, hk, rfl, HPL, hS⟩ := hrel
    by_cases hlt : k < n
    · have ik : (k : Int) < (n : Int) := by omega
      have hkl : k < l.length := by omega
      have HCE := Lib.hid (fun W (hb : Below w.heap.size w W) => (hl.below hb).at_ hkl)
      have HOK := Lib.hid (fun W (hb : Below w.heap.size w W) => (hl.below hb).ok _ (List.getElem_mem hkl))
      have hB1 := hS.belowOld (v := w) (by simp)
      obtain ⟨ad, rfl, c0, c1, c2, c3, c4⟩ := HCE.out wr hB1
      have hx := HOK.out wr hB1
      have hcl := HCL.out
      have HSET := Lib.hid (fun p => lentX3_set HPL.out hcl hlt p)
      have HSN := Lib.hid (fun p => lent3E_snoc HPL.out p (pcs l)[k])
      have htk : (pcs l).take (k + 1) = (pcs l).take k ++ [(pcs l)[k]] := List.take_succ_eq_append_getElem (by omega)
      obtain ⟨z1, z2⟩ := hs (pcs l)[k] (List.getElem_mem _)
      have hXL := lentX3_length HPL.out hcl hk
      rw [pcs_at hkl] at HSET HSN htk z1 z2
      have HTK := Lib.hid htk
      clear htk hcl
      generalize l[k] = x at *
      obtain ⟨A1, a1, B1, b1, key, ck, val, pg, ct, rfl, _, _⟩ := CV.form hx
      have hS2 := hS.alloc 50 [.slice A1 key.length a1, .int .i64 ck, .slice B1 val.length b1, .int .i64 pg, .int .i64 ct]
      have HS2 := Lib.hid hS2
      clear hS2 hS hB1 hx
      go_upto_region 7 with (fail)
      have hS2 := HS2.out
      replace hS2 : Sep w (wr.alloc (.cells #[.slice A1 key.length a1, .int .i64 ck, .slice B1 val.length b1, .int .i64 pg, .int .i64 ct] 50)) _ := hS2
      generalize wr.alloc (.cells #[.slice A1 key.length a1, .int .i64 ck, .slice B1 val.length b1, .int .i64 pg, .int .i64 ct] 50) = w2 at *
      generalize wr.heap.size = C at *
      clear HS2 c0 c1 c2 c3 c4
      have hB2 := hS2.belowOld (v := w) (by simp)
      obtain ⟨_, ea, d0, d1, d2, d3, d4⟩ := HCE.out w2 hB2
      cases ea
      have hx2 := HOK.out w2 hB2
      have ha3 := Lent3_sep (v := .slice A1 key.length a1) hS2 hx2.k z1
      clear hx2 hB2 hS2
      go_upto_region 8 with (first
        | (go_at_call 23; refine ha3.mono ?_; rintro e w3 ⟨g1, rfl, hS3⟩; have hS3 := hS3.sw1; have hC3 : OBlk w3 C 50 _ := hS3.head; have f0 := hC3.frozen (j := 0) (by simp); have y0 := hC3.cell' (j := 0) (u := .slice A1 key.length a1) rfl)
        | fail)
      have hS4 := hS3.setCell 0 (.slice (some ⟨g1, 0, none⟩) key.length (key.length + 3))
      generalize w3.setCell ⟨C, 0, none⟩ (.slice (some ⟨g1, 0, none⟩) key.length (key.length + 3)) = w4 at *
      clear ha3 hS3 hC3 f0 y0 d0 d1 d2 d3 d4
      have hB4 := hS4.belowOld (v := w) (by simp)
      obtain ⟨_, ea, d0, d1, d2, d3, d4⟩ := HCE.out w4 hB4
      cases ea
      have hx4 := HOK.out w4 hB4
      have ha5 := Lent3_sep (v := .slice B1 val.length b1) hS4 hx4.v z2
      clear hx4 hB4 hS4
      go_upto_region 9 with (first
        | (go_at_call 23; refine ha5.mono ?_; rintro e w5 ⟨g2, rfl, hS5⟩; have hS5 := hS5.sw1; have hC5 : OBlk w5 C 50 _ := hS5.head; have f2 := hC5.frozen (j := 2) (by simp); have y2 := hC5.cell' (j := 2) (u := .slice B1 val.length b1) rfl)
        | fail)
      have hS6 := hS5.setCell 2 (.slice (some ⟨g2, 0, none⟩) val.length (val.length + 3))
      generalize w5.setCell ⟨C, 2, none⟩ (.slice (some ⟨g2, 0, none⟩) val.length (val.length + 3)) = w6 at *
      clear ha5 hS5 hC5 f2 y2 d0 d1 d2 d3 d4
      obtain ⟨y0, y1, y2, y3, y4⟩ := cells5 (show OBlk w6 C 50 [.slice (some ⟨g1, 0, none⟩) key.length (key.length + 3), .int .i64 ck, .slice (some ⟨g2, 0, none⟩) val.length (val.length + 3), .int .i64 pg, .int .i64 ct] from hS6.head)
      have hS7 := hS6.tail.sw [lentP3 g2 val, lentP3 g1 key]
      obtain ⟨q0, q1, q2, q3, q4⟩ := cellsC hS7.head k (by rw [hXL]; omega)
      obtain ⟨f0, f1, f2, f3, f4⟩ := frozC hS7.head k (by rw [hXL]; omega)
      have hS8 := hS7.setC (k := k) (by rw [hXL]; omega) (lentCV3 (g1, g2) ⟨key, ck, val, pg, ct⟩)
      have HS8 := Lib.hid hS8
      clear hS6 hS7 hS8
      generalize (lentX3 n ps (pcs l) k)[k]'(by rw [hXL]; omega) = xk at *
      go_wp2_with fail
      refine ⟨⟨k + 1, ps ++ [(g1, g2)], by omega, by go_num, Lib.hid (by rw [HTK.out]; simp [HPL.out]), ?_⟩, by simp [intOf]; omega⟩
      have hS8 := HS8.out.perm (perm_lent3 _ _ _ _ _)
      have h1 := HSET.out (g1, g2)
      have h2 := HSN.out (g1, g2)
      simp only at h1 h2
      rw [HTK.out, h2, ← h1]
      exact hS8
    · obtain rfl : k = n := by omega
      have hXL := lentX3_length HPL.out HCL.out hk
      have htk : (pcs l).take k = pcs l := List.take_of_length_le (by rw [HCL.out]; omega)
      have hX : ((lentX3 k ps (pcs l) k).set k (markCV (-7))).set (k + 1) (markCV (-8)) = lentL3 ps (pcs l) ++ [markCV (-7), markCV (-8)] := by
        have h0 := lentL3_length HPL.out
        have h1 : (lentL3 ps (pcs l)).length = k := by rw [htk] at h0; rw [h0, HCL.out]
        unfold lentX3
        rw [htk, show k + 2 - k = 2 by omega, List.set_append_right _ _ (by omega), h1, Nat.sub_self, List.set_append_right _ _ (by omega), h1, show k + 1 - k = 1 by omega]
        rfl
      have hpl := HPL.out
      rw [htk] at hS hpl
      have HX := Lib.hid hX
      have HPL2 := Lib.hid hpl
      clear hX htk hpl
      generalize hXX : lentX3 k ps (pcs l) k = X at *
      have hXX := hXX
      clear hXX
      obtain ⟨q0, q1, q2, q3, q4⟩ := cellsC hS.head k (by rw [hXL]; omega)
      obtain ⟨f0, f1, f2, f3, f4⟩ := frozC hS.head k (by rw [hXL]; omega)
      have hS1 := hS.setC (k := k) (by rw [hXL]; omega) (markCV (-7))
      have HS1 := Lib.hid hS1
      have hXL1 : (X.set k (markCV (-7))).length = k + 2 := by rw [List.length_set]; exact hXL
      generalize X[k]'(by rw [hXL]; omega) = xk at *
      clear hS hS1 hXL
      go_upto_region 11 with (fail)
      have hS1 := HS1.out
      replace hS1 : Sep w (((((wr.setCell ⟨G, k * 5, none⟩ (.slice none 0 0)).setCell ⟨G, k * 5 + 1, none⟩ (.int .i64 (-7))).setCell ⟨G, k * 5 + 2, none⟩ (.slice none 0 0)).setCell ⟨G, k * 5 + 3, none⟩ (.int .i64 0)).setCell ⟨G, k * 5 + 4, none⟩ (.int .i64 0)) _ := hS1
      generalize ((((wr.setCell ⟨G, k * 5, none⟩ (.slice none 0 0)).setCell ⟨G, k * 5 + 1, none⟩ (.int .i64 (-7))).setCell ⟨G, k * 5 + 2, none⟩ (.slice none 0 0)).setCell ⟨G, k * 5 + 3, none⟩ (.int .i64 0)).setCell ⟨G, k * 5 + 4, none⟩ (.int .i64 0) = w2 at *
      clear HS1 q0 q1 q2 q3 q4 f0 f1 f2 f3 f4
      obtain ⟨q0, q1, q2, q3, q4⟩ := cellsC hS1.head (k + 1) (by rw [hXL1]; omega)
      obtain ⟨f0, f1, f2, f3, f4⟩ := frozC hS1.head (k + 1) (by rw [hXL1]; omega)
      have hS2 := hS1.setC (k := k + 1) (by rw [hXL1]; omega) (markCV (-8))
      rw [HX.out] at hS2
      have HS2 := Lib.hid hS2
      generalize (X.set k (markCV (-7)))[k + 1]'(by rw [hXL1]; omega) = xk at *
      clear hS1 hS2
      go_wp2_with fail
      go_ret
      exact ⟨G, ps, rfl, HPL2.out, HS2.out⟩
end Go.Proofs.Ytaniabhajngdeaa

-- Pieces of memory: cells that are read.
namespace Go.Proofs.Ytaniabhajngdeaa
open Go.RowKit
theorem Sep.rdCs {w0 w v : World} {L : List Ent} {x : Value} {l : List CV} (h : Sep w0 w L) (hm : oldE v ∈ L) (hr : RdCs v x l) : RdCs w x l :=
  ⟨hr.form.keep (h.old_cell hm), fun y hy => { hr.ok y hy with k := h.rd hm (hr.ok y hy).k, v := h.rd hm (hr.ok y hy).v }⟩
end Go.Proofs.Ytaniabhajngdeaa

-- espalierlaw07.asLent: the walk.
namespace Go.Proofs.Ytaniabhajngdeaa
open Go.RowKit
theorem lent3E_drop {ps : List (Nat × Nat)} {cs : List PC} {k : Nat} (h1 : k < ps.length) (h2 : k < cs.length) : lent3E (ps.drop k) (cs.drop k) = lentP3 ps[k].1 cs[k].key :: lentP3 ps[k].2 cs[k].val :: lent3E (ps.drop (k + 1)) (cs.drop (k + 1)) := by
  rw [List.drop_eq_getElem_cons h1, List.drop_eq_getElem_cons h2]; rfl
set_option maxRecDepth 100000 in
set_option maxHeartbeats 8000000 in
theorem KasLent_sep {w0 w5 w : World} {L : List Ent} {v : Value} {l : List CV} {G : Nat} {ps : List (Nat × Nat)} (h : Sep w0 w (blkE G 50 (flatC (lentL3 ps (pcs l) ++ [markCV (-7), markCV (-8)])) :: (lent3E ps (pcs l) ++ L))) (hm : oldE w5 ∈ L) (hl : RdCs w5 v l)
    (hps : ps.length = (pcs l).length) (hn : (l.length + 2) * 72 ≤ 281474976710656) (hs : ∀ c ∈ pcs l, c.key.length ≤ 140737488355328 ∧ c.val.length ≤ 140737488355328) :
    Calls Try.prog 15 #[.slice (some ⟨G, 0, none⟩) l.length (l.length + 2), v] w fun e w' => e = .returned (.bool true) ∧ Sep w0 w' L := by
  obtain ⟨A, c, rfl, hmx, hc⟩ := hl.slice
  obtain ⟨n, hnn⟩ : ∃ n, l.length = n := ⟨_, rfl⟩
  have hcl : (pcs l).length = n := by rw [pcs_length]; exact hnn
  have hll := lentL3_length hps
  rw [hcl] at hll hps
  rw [hnn] at hl hn hmx ⊢
  have hXL : (lentL3 ps (pcs l) ++ [markCV (-7), markCV (-8)]).length = n + 2 := by rw [List.length_append, hll]; rfl
  have hX7 : ∀ (h : n < (lentL3 ps (pcs l) ++ [markCV (-7), markCV (-8)]).length), (lentL3 ps (pcs l) ++ [markCV (-7), markCV (-8)])[n] = markCV (-7) := fun h => by
    rw [List.getElem_append_right (by omega)]; simp [hll]
  have hX8 : ∀ (h : n + 1 < (lentL3 ps (pcs l) ++ [markCV (-7), markCV (-8)]).length), (lentL3 ps (pcs l) ++ [markCV (-7), markCV (-8)])[n + 1] = markCV (-8) := fun h => by
    rw [List.getElem_append_right (by omega)]; simp [hll]
  have hXk : ∀ k (_ : k < n) (h : k < (lentL3 ps (pcs l) ++ [markCV (-7), markCV (-8)]).length) p c, ps[k]? = some p → (pcs l)[k]? = some c → (lentL3 ps (pcs l) ++ [markCV (-7), markCV (-8)])[k] = lentCV3 p c := fun k hk h p c hp hc => by
    obtain ⟨_, rfl⟩ := List.getElem?_eq_some_iff.1 hp
    obtain ⟨_, rfl⟩ := List.getElem?_eq_some_iff.1 hc
    rw [List.getElem_append_left (by omega)]
    unfold lentL3
    rw [List.getElem_zipWith]
  obtain ⟨r0, r1, r2, r3, r4⟩ := cellsC h.head n (by omega)
  obtain ⟨s0, s1, s2, s3, s4⟩ := cellsC h.head (n + 1) (by omega)
  rw [hX7] at r1
  rw [hX8] at s1
  have r1' : w.cell? ⟨G, n * 5 + 1, none⟩ = some (.int .i64 (-7)) := r1
  have s1' : w.cell? ⟨G, (n + 1) * 5 + 1, none⟩ = some (.int .i64 (-8)) := s1
  have hS0 : Sep w0 w (blkE G 50 (flatC (lentL3 ps (pcs l) ++ [markCV (-7), markCV (-8)])) :: (lent3E (ps.drop 0) ((pcs l).drop 0) ++ L)) := h
  clear h r0 r1 r2 r3 r4 s0 s1 s2 s3 s4 hX7 hX8
  generalize lentL3 ps (pcs l) ++ [markCV (-7), markCV (-8)] = X at *
  have HXK := Lib.hid hXk
  have HXL := Lib.hid hXL
  have HCL := Lib.hid hcl
  have HPS := Lib.hid hps
  have HS := Lib.hid hs
  have HNN := Lib.hid hnn
  clear hXk hXL hcl hps hs hnn hll
  go_enter Try.func15, Try.ntmps15
  go_upto_region 5 with (fail)
  go_cut [7] (fun a wx => a = .bool true ∧ Sep w0 wx (blkE G 50 (flatC X) :: (lent3E (ps.drop 0) ((pcs l).drop 0) ++ L)))
  case first =>
    go_wp2_with fail
    go_meet
    exact ⟨rfl, hS0⟩
  case rest =>
   obtain ⟨rfl, hS1⟩ := hcut
   clear hS0 r1' s1'
   go_wp2_with fail
   go_loopw [7, 8, 9, 10] (fun g i _ _ wr => ∃ k : Nat, k ≤ n ∧ g = .bool true ∧ i = .int .i64 (k : Int) ∧ Sep w0 wr (blkE G 50 (flatC X) :: (lent3E (ps.drop k) ((pcs l).drop k) ++ L))) (fun _ i _ _ _ => n - (intOf i).toNat)
   case atStart => exact ⟨0, Nat.zero_le _, rfl, rfl, hS1⟩
   case round =>
    clear hS1
    obtain ⟨k, hk, rfl, rfl, hS⟩ := hrel
    by_cases hlt : k < n
    · have ik : (k : Int) < (n : Int) := by omega
      have hkl : k < l.length := by rw [HNN.out]; exact hlt
      have hkp : k < ps.length := by rw [HPS.out]; exact hlt
      have hkc : k < (pcs l).length := by rw [HCL.out]; exact hlt
      have HSD := Lib.hid (lent3E_drop hkp hkc)
      rw [HSD.out] at hS
      have HCE := Lib.hid (fun W (L' : List Ent) (h : Sep w0 W L') (hm' : oldE w5 ∈ L') => (h.rdCs hm' hl).at_ hkl)
      have HOK := Lib.hid (fun W (L' : List Ent) (h : Sep w0 W L') (hm' : oldE w5 ∈ L') => (h.rdCs hm' hl).ok _ (List.getElem_mem hkl))
      have HGC := Lib.hid (fun W (L' : List Ent) (h : Sep w0 W (blkE G 50 (flatC X) :: L')) => cellsC h.head k (by rw [HXL.out]; omega))
      rw [HXK.out k hlt _ _ _ (List.getElem?_eq_getElem hkp) (List.getElem?_eq_getElem hkc)] at HGC
      obtain ⟨z1, z2⟩ := HS.out (pcs l)[k] (List.getElem_mem _)
      rw [pcs_at hkl] at HGC HSD z1 z2 hS
      generalize ps[k] = p at *
      have hx := HOK.out wr _ hS (by simp [hm])
      generalize l[k] = x at *
      obtain ⟨A1, a1, B1, b1, key, ck, val, pg, ct, rfl, _, _⟩ := CV.form hx
      obtain ⟨gk, gv⟩ := p
      simp only at hS z1 z2
      obtain ⟨ad, rfl, -⟩ := HCE.out wr _ hS (by simp [hm])
      have HLC : Hid (∀ W (L' : List Ent), Sep w0 W L' → oldE w5 ∈ L' → W.cell? (ad.add (k * 5)) = some (.slice A1 key.length a1) ∧ W.cell? ⟨(ad.add (k * 5)).block, (ad.add (k * 5)).off + 1, none⟩ = some (.int .i64 ck) ∧ W.cell? ⟨(ad.add (k * 5)).block, (ad.add (k * 5)).off + 2, none⟩ = some (.slice B1 val.length b1) ∧
          W.cell? ⟨(ad.add (k * 5)).block, (ad.add (k * 5)).off + 3, none⟩ = some (.int .i64 pg) ∧ W.cell? ⟨(ad.add (k * 5)).block, (ad.add (k * 5)).off + 4, none⟩ = some (.int .i64 ct)) := Lib.hid (fun W L' h hm' => by
        obtain ⟨_, ea, d⟩ := HCE.out W L' h hm'
        cases ea
        exact d)
      have HGD : Hid (∀ W (L' : List Ent), Sep w0 W (blkE G 50 (flatC X) :: L') → W.cell? ⟨G, k * 5, none⟩ = some (.slice (some ⟨gk, 0, none⟩) key.length (key.length + 3)) ∧ W.cell? ⟨G, k * 5 + 1, none⟩ = some (.int .i64 ck) ∧ W.cell? ⟨G, k * 5 + 2, none⟩ = some (.slice (some ⟨gv, 0, none⟩) val.length (val.length + 3)) ∧
          W.cell? ⟨G, k * 5 + 3, none⟩ = some (.int .i64 pg) ∧ W.cell? ⟨G, k * 5 + 4, none⟩ = some (.int .i64 ct)) := Lib.hid (fun W L' h => HGC.out W L' h)
      clear hx HGC HCE
      have hS9 : Sep w0 wr (lentP3 gk key :: blkE G 50 (flatC X) :: lentP3 gv val :: (lent3E (ps.drop (k + 1)) ((pcs l).drop (k + 1)) ++ L)) := hS.sw1
      have hm9 : oldE w5 ∈ (lentP3 gk key :: blkE G 50 (flatC X) :: lentP3 gv val :: (lent3E (ps.drop (k + 1)) ((pcs l).drop (k + 1)) ++ L)) := by simp [hm]
      have hm10 : oldE w5 ∈ (lentP3 gv val :: blkE G 50 (flatC X) :: (lent3E (ps.drop (k + 1)) ((pcs l).drop (k + 1)) ++ L)) := by simp [hm]
      have hm11 : oldE w5 ∈ (blkE G 50 (flatC X) :: (lent3E (ps.drop (k + 1)) ((pcs l).drop (k + 1)) ++ L)) := by simp [hm]
      have ha9 := AsLent3_sep (vb := .slice A1 key.length a1) hS9.drew rfl (HOK.out _ _ hS9.drew hm9).k z1
      have HA9 := Lib.hid ha9
      have HM9 := Lib.hid hm9
      have HM10 := Lib.hid hm10
      have HM11 := Lib.hid hm11
      obtain ⟨d0, -⟩ := HLC.out wr _ hS9 hm9
      obtain ⟨e0, -⟩ := HGD.out wr _ hS
      clear ha9 hm9 hm10 hm11 hS
      have j0 : (0 : Int) ≤ (k : Int) := by omega
      have j1 : (k : Int) < (n : Int) + 2 := by omega
      have j2 : k < n + 2 := by omega
      have j3 : IntKind.i64.wrap (k : Int) = (k : Int) := by rw [IntKind.wrap_i64]; omega
      go_upto_region 9 with (fail)
      go_region_held3 (fun w' => w'.cell? (ad.add (k * 5)) = some (.slice A1 key.length a1) ∧ w'.cell? ⟨G, k * 5, none⟩ = some (.slice (some ⟨gk, 0, none⟩) key.length (key.length + 3)))
        (first | exact ⟨d0, e0⟩ | exact ⟨(HLC.out _ _ hS7 HM10.out).1, (HGD.out _ _ hS7.sw1).1⟩ | go_keep)
        (first
          | (go_at_call 26; refine HA9.out.mono ?_; rintro e w7 ⟨rfl, hS7⟩; have hS7 := hS7.sw1)
          | fail)
      have ha10 := AsLent3_sep (vb := .slice B1 val.length b1) hS7.drew rfl (HOK.out _ _ hS7.drew (by simp [hm])).v z2
      have HA10 := Lib.hid ha10
      obtain ⟨-, -, d2, -⟩ := HLC.out w7 _ hS7 (by simp [hm])
      obtain ⟨-, -, e2, -⟩ := HGD.out w7 _ hS7.sw1
      clear ha10 HA9 hS9 d0 e0 hS7
      go_upto_region 10 with (fail)
      go_region_held3 (fun w' => w'.cell? ⟨(ad.add (k * 5)).block, (ad.add (k * 5)).off + 2, none⟩ = some (.slice B1 val.length b1) ∧ w'.cell? ⟨G, k * 5 + 2, none⟩ = some (.slice (some ⟨gv, 0, none⟩) val.length (val.length + 3)))
        (first | exact ⟨d2, e2⟩ | exact ⟨(HLC.out _ _ hS8 HM11.out).2.2.1, (HGD.out _ _ hS8).2.2.1⟩ | go_keep)
        (first
          | (go_at_call 26; refine HA10.out.mono ?_; rintro e w8 ⟨rfl, hS8⟩)
          | fail)
      obtain ⟨-, d1, -, d3, d4⟩ := HLC.out w8 _ hS8 HM11.out
      obtain ⟨-, e1, -, e3, e4⟩ := HGD.out w8 _ hS8
      have q1 : (ck == ck) = true := beq_self_eq_true _
      have q3 : (pg == pg) = true := beq_self_eq_true _
      have q4 : (ct == ct) = true := beq_self_eq_true _
      have HS8 := Lib.hid hS8
      clear HA10 d2 e2 hS8 HM9 HM10 HM11 HOK HLC HGD HSD
      go_upto_region 11 with (fail)
      go_quiet (fail)
      go_wp2_with fail
      exact ⟨⟨k + 1, by omega, rfl, by go_num, HS8.out.drewN _⟩, by simp [intOf]; omega⟩
    · obtain rfl : k = n := by omega
      have hS2 : Sep w0 wr (blkE G 50 (flatC X) :: L) := by
        have e1 : ps.drop k = [] := List.drop_of_length_le (by rw [HPS.out]; exact Nat.le_refl _)
        rw [e1] at hS
        exact hS
      clear hS
      obtain ⟨w9, rfl⟩ : ∃ w9, w9 = wr := ⟨_, rfl⟩
      go_wp2_with fail
      go_loopw [11] (fun i wr => ∃ (m : Nat) (Y : List CV), m ≤ k + 2 ∧ i = .int .i64 (m : Int) ∧ Hid (Y.length = k + 2) ∧ Sep w0 wr (blkE G 50 (flatC Y) :: L)) (fun i _ => k + 2 - (intOf i).toNat)
      case atStart => exact ⟨0, X, Nat.zero_le _, rfl, HXL, hS2⟩
      case round =>
        clear hS2
        obtain ⟨m, Y, hmk, rfl, HY, hS⟩ := hrel
        by_cases hlt : m < k + 2
        · have im : (m : Int) < (k : Int) + 2 := by omega
          obtain ⟨q0, q1, q2, q3, q4⟩ := cellsC hS.head m (by rw [HY.out]; exact hlt)
          obtain ⟨f0, f1, f2, f3, f4⟩ := frozC hS.head m (by rw [HY.out]; exact hlt)
          have hS1 := hS.setC (k := m) (by rw [HY.out]; exact hlt) (markCV (-9))
          have HS1 := Lib.hid hS1
          generalize Y[m]'(by rw [HY.out]; exact hlt) = y at *
          clear hS1 hS
          go_wp2_with fail
          exact ⟨⟨m + 1, _, by omega, by go_num, Lib.hid (by rw [List.length_set]; exact HY.out), HS1.out⟩, by simp [intOf]; omega⟩
        · obtain rfl : m = k + 2 := by omega
          go_wp2_with fail
          go_ret
          exact ⟨rfl, hS.tail⟩
end Go.Proofs.Ytaniabhajngdeaa

-- espalierlaw07.PackedDecodes: the walk.
namespace Go.Proofs.Ytaniabhajngdeaa
open Go.RowKit
theorem lentP3_rdn {w0 w : World} {L : List Ent} {g n : Nat} {b : List UInt8} (h : Sep w0 w L) (hm : lentP3 g b ∈ L) (hn : b.length = n) : RdB w (.slice (some ⟨g, 0, none⟩) n (n + 3)) b := by
  subst hn
  have ho : OwB w 0 (.slice (some ⟨g, 0, none⟩) (b.length + 3) (b.length + 3)) (b ++ marks) := h.of_mem hm
  have h1 := OwB.take ho (m := b.length) (by omega)
  rw [List.take_left' rfl] at h1
  exact h1.rd
theorem perm_mine {α : Type} (X Y : α) (C D O : List α) : (X :: (C ++ Y :: (D ++ O))).Perm ((C ++ D) ++ X :: Y :: O) := by
  rw [List.append_assoc]
  exact (List.perm_middle.symm).trans (List.Perm.append_left C ((List.Perm.cons X List.perm_middle.symm).trans List.perm_middle.symm))
theorem perm_two {α : Type} (X Y : α) (C D O : List α) : (Y :: (D ++ (X :: C ++ O))).Perm (X :: (C ++ Y :: (D ++ O))) := by
  have h1 : (Y :: D ++ ((X :: C) ++ O)).Perm ((X :: C) ++ (Y :: D ++ O)) := List.perm_append_comm_assoc _ _ _
  simpa using h1
set_option maxRecDepth 100000 in
set_option maxHeartbeats 8000000 in
theorem kdecodes_any (v : Value) (b : List UInt8) (w : World) (hv : RdB w v b) (hbl : b.length ≤ 140737488355328) :
    Calls Try.prog 8 #[v] w fun e w' => e = .returned (.bool true) ∧ Below w.heap.size w w' := by
  obtain ⟨A, c, rfl, hm⟩ := hv.form
  obtain ⟨n, hnn⟩ : ∃ n, b.length = n := ⟨_, rfl⟩
  have HNN := Lib.hid hnn
  rw [hnn] at hv hm hbl ⊢
  clear hnn
  go_enter Try.func8, Try.ntmps8
  go_upto_region 2 with (first
    | (go_at_call 10; refine (live_any _).mono ?_; rintro e w1 ⟨rfl, hw1⟩)
    | fail)
  have hS1 := (Sep.start w).below hw1
  clear hw1
  have hl := Lent3_sep hS1 (hS1.rd (v := w) (by simp) hv) (by rw [HNN.out]; exact hbl)
  rw [HNN.out] at hl
  go_upto_region 3 with (first
    | (go_at_call 23; (with_reducible refine hl.mono ?_); rintro e w2 ⟨g, rfl, hS2⟩)
    | fail)
  clear hl hS1
  have hd := KDec_sepZ hS2 (lentP3_rdn (g := g) hS2 (by simp) HNN.out)
  go_upto_region 4 with (first
    | (go_at_call 21; (with_reducible refine hd.mono ?_); rintro e w3 ⟨k1, l1, A1, c1, z1, rfl, hr1, hg1, hS3⟩)
    | fail)
  clear hd hS2
  have hd := RKDec_sepZ hS3 (hS3.rd (v := w) (by simp) hv)
  go_upto_region 5 with (first
    | (go_at_call 24; (with_reducible refine hd.mono ?_); rintro e w4 ⟨k2, lw, A2, c2, z2, rfl, hr2, hg2, hS4⟩)
    | fail)
  clear hd hS3
  obtain ⟨rfl, hlw, rfl⟩ := hr1.same hr2
  have HLW := Lib.hid hlw
  have hll : lw.length = l1.length := by rw [← pcs_length lw, ← hlw, pcs_length]
  have HLL := Lib.hid hll
  clear hr2 hlw hll
  rw [HLL.out] at hS4 ⊢
  have hrw4 := csE_rd hS4.head hg2
  have hsa := RKSameAll_any _ _ l1 lw w4 (csE_rd hS4.tail.head hg1) hrw4
  rw [sameAllB_iff.2 HLW.out] at hsa
  go_upto_region 6 with (first
    | (go_at_call 22; (with_reducible refine hsa.mono ?_); rintro e w5 ⟨rfl, hw5⟩)
    | fail)
  have hS5 := hS4.below hw5
  clear hsa hS4 hw5 hrw4
  have hd := KDec_sepZ hS5 (lentP3_rdn (g := g) hS5 (by simp) HNN.out)
  go_upto_region 7 with (first
    | (go_at_call 21; (with_reducible refine hd.mono ?_); rintro e w6 ⟨k3, l3, A3, c3, z3, rfl, hr3, hg3, hS6⟩)
    | fail)
  clear hd hS5
  obtain ⟨rfl, hl3, rfl⟩ := hr1.same hr3
  have HL3 := Lib.hid hl3
  have hln3 : l3.length = l1.length := by rw [← pcs_length l3, ← hl3, pcs_length]
  have HN3 := Lib.hid hln3
  clear hr3 hl3 hln3
  rw [HN3.out] at hS6 ⊢
  obtain ⟨hsm1, hsm2⟩ := hr1.small
  rw [pcs_length] at hsm1
  have HSM := Lib.hid hsm2
  have HR1 := Lib.hid hr1
  have hO := KOpen_sep hS6 (.slice (some ⟨g, 0, none⟩) n (n + 3)) b (lentP3_rdn (g := g) hS6 (by simp) HNN.out)
  clear hsm2 hr1
  go_wp2_with fail
  refine hO.mono ?_
  rintro e w7 (⟨p, kd, lp, hpk, rfl, u, pv, l4, hl4, hg4, hS7⟩ | ⟨hno, rfl, hS7⟩)
  · obtain ⟨hkd, hlp, hz0⟩ := HR1.out.same (.inl ⟨hpk, rfl⟩)
    subst hkd; subst hz0
    have hpkF := hpk
    clear hO hS6
    have ha := AsLent3_sep (vb := .slice A n c) (hS7.sw [_, _, _, _]) HNN.out (hS7.rd (v := w) (by simp) hv) hbl
    go_upto_region 9 with (first
      | (go_at_call 26; (with_reducible refine ha.mono ?_); rintro e w8 ⟨rfl, hS8⟩)
      | fail)
    have hS8 := hS8.perm (show List.Perm _ (pkE p k1 b.length u pv (usedP k1 (tidyP k1 lp)) (tidyP k1 lp).waste l4 (tidyP k1 lp).pre :: csE (.slice A3 l1.length c3) l3 :: csE (.slice A2 l1.length c2) lw :: csE (.slice A1 l1.length c1) l1 :: [oldE w]) from List.Perm.refl _)
    have hrl1 := csE_rd (hS8.of_mem (E := csE (.slice A1 l1.length c1) l1) (by simp)) hg1
    have hrlw := csE_rd (hS8.of_mem (E := csE (.slice A2 l1.length c2) lw) (by simp)) hg2
    have hrl3 := csE_rd (hS8.of_mem (E := csE (.slice A3 l1.length c3) l3) (by simp)) hg3
    have hsa := RKSameAll_any _ _ l1 lw w8 hrl1 hrlw
    rw [sameAllB_iff.2 HLW.out] at hsa
    have hsc := fun W (hw : Below w8.heap.size w8 W) => RKSameAll_any _ _ l3 lw W (hrl3.below hw) (hrlw.below hw)
    rw [sameAllB_iff.2 (HL3.out.symm.trans HLW.out)] at hsc
    clear ha hS7 hrl1 hrlw hrl3
    go_upto_region 10 with (first
      | (go_at_call 22; (with_reducible refine hsa.mono ?_); rintro e w9 ⟨rfl, hw9⟩)
      | fail)
    have hsc := hsc w9 hw9
    go_upto_region 11 with (first
      | (go_at_call 22; (with_reducible refine hsc.mono ?_); rintro e w10 ⟨rfl, hw10⟩)
      | fail)
    have hS10 := (hS8.below hw9).below hw10
    clear hsa hsc hS8 hw9 hw10
    have hkat := hS10.kAt hg4
    have hln4 : l4.length = l1.length := by rw [← pcs_length l4, hl4]; show lp.length = _; rw [← hlp, pcs_length]
    have hpl : pcs l4 = lp := hl4
    have hby := KBytes_any hkat (by rw [hln4]; omega) (by have := (isPk_small hpkF).2.2.1; omega) hpkF.2.1 hpkF.1 (by rw [hpl]; exact hpkF.2.2.1)
    rw [hpl, hpkF.2.2.2, HNN.out] at hby
    go_upto_region 14 with (first
      | (go_at_call 27; (with_reducible refine hby.mono ?_); rintro e w11 ⟨gb, rfl, hgb, hbk, hw11⟩)
      | fail)
    clear hby
    have hS11 := hS10.below hw11
    have hkat := hS11.kAt hg4
    have hrb := hbk.rdB HNN.out (by omega)
    have hsb := Same_any (.slice (some ⟨gb, 0, none⟩) n n) (.slice A n c) b b w11 hrb (hS11.rd (v := w) (by simp) hv)
    rw [show (b == b) = true by simp] at hsb
    have hkk := KKind_any hkat
    have hkl := KLen_any hkat
    rw [hln4] at hkl
    have hqk : (k1 == k1) = true := beq_self_eq_true _
    have HS12 : Hid (Sep w w11 [csE (.slice A1 l1.length c1) l1, csE (.slice A3 l1.length c3) l3, oldE w]) := Lib.hid (Sep.pick (L := [_, _, _, _]) [3, 1] (by decide) rfl hS11)
    clear hkat hrb hbk hS10 hS11 hln4 hpl hl4 hlp hpk hpkF hw11 hgb
    go_upto_region 16 with (first
      | (go_at_call 18; (with_reducible refine hsb.mono ?_); rintro e w12 ⟨rfl, rfl⟩)
      | (go_at_call 28; (with_reducible refine hkk.mono ?_); rintro e w12 ⟨rfl, rfl⟩)
      | (go_at_call 29; (with_reducible refine hkl.mono ?_); rintro e w12 ⟨rfl, rfl⟩)
      | fail)
    have hS12 := HS12.out
    clear hsb hkk hkl HS12
    have hS13 : Sep w w11 (ownE 50 5 (.slice A1 l1.length c1) l1.length (flatC l1) :: (cellsE l1 ++ ownE 50 5 (.slice A3 l1.length c3) l1.length (flatC l3) :: (cellsE l3 ++ [oldE w]))) := by
      have h1 := Sep.unpack (D := ownE 50 5 (.slice A1 l1.length c1) l1.length (flatC l1) :: cellsE l1) hS12
      have h2 := Sep.sw (E := csE (.slice A3 l1.length c3) l3) (ownE 50 5 (.slice A1 l1.length c1) l1.length (flatC l1) :: cellsE l1) h1
      have h3 := Sep.unpack (D := ownE 50 5 (.slice A3 l1.length c3) l3.length (flatC l3) :: cellsE l3) h2
      rw [HN3.out] at h3
      exact h3.perm (perm_two _ _ _ _ _)
    clear hS12
    obtain ⟨N, hNN⟩ : ∃ N, l1.length = N := ⟨_, rfl⟩
    have HN1 := Lib.hid hNN
    have HN3' : Hid (l3.length = N) := Lib.hid (by rw [HN3.out, hNN])
    have HS13 := Lib.hid hS13
    rw [hNN] at hsm1 ⊢
    clear hS13 hNN
    go_wp2_with fail
    go_loopw [23, 24] (fun av i wr => ∃ k : Nat, k ≤ N ∧ i = .int .i64 (k : Int) ∧ Sep w wr (ownE 50 5 av (l1.take k).length (flatC (l1.take k)) :: ownE 50 5 (.slice A1 N c1) N (flatC l1) :: (cellsE l1 ++ ownE 50 5 (.slice A3 N c3) N (flatC l3) :: (cellsE l3 ++ [oldE w])))) (fun _ i _ => N - (intOf i).toNat)
    case atStart => exact ⟨0, Nat.zero_le _, rfl, by have h := HS13.out; rw [HN1.out] at h; rw [List.take_zero]; exact h.nilC⟩
    case round =>
      clear HS13
      obtain ⟨k, hk, rfl, hS⟩ := hrel
      obtain ⟨B, bc, rfl⟩ := Own.slice (show Own wr 0 50 5 _ (l1.take k).length (flatC (l1.take k)) from hS.head)
      generalize hM : (l1.take k).length = M at *
      by_cases hlt : k < N
      · have ik : (k : Int) < (N : Int) := by omega
        have hkl : k < l1.length := by rw [HN1.out]; exact hlt
        have hox : Own wr 0 50 5 (.slice A1 N c1) N (flatC l1) := hS.tail.head
        obtain ⟨gq, rfl⟩ : ∃ gq, A1 = some ⟨gq, 0, none⟩ := by
          rcases hox.form with ⟨_, h⟩ | ⟨gq, c', h, _⟩
          · omega
          · injection h with h; exact ⟨gq, h⟩
        have y0 : wr.cell? ⟨gq, k * 5, none⟩ = some l1[k].kv := hox.cells (k * 5) _ (flatC_at l1 k 0 hkl (by omega))
        have y1 : wr.cell? ⟨gq, k * 5 + 1, none⟩ = some (.int .i64 l1[k].c.kind) := hox.cells (k * 5 + 1) _ (flatC_at l1 k 1 hkl (by omega))
        have y2 : wr.cell? ⟨gq, k * 5 + 2, none⟩ = some l1[k].vv := hox.cells (k * 5 + 2) _ (flatC_at l1 k 2 hkl (by omega))
        have y3 : wr.cell? ⟨gq, k * 5 + 3, none⟩ = some (.int .i64 l1[k].c.page) := hox.cells (k * 5 + 3) _ (flatC_at l1 k 3 hkl (by omega))
        have y4 : wr.cell? ⟨gq, k * 5 + 4, none⟩ = some (.int .i64 l1[k].c.count) := hox.cells (k * 5 + 4) _ (flatC_at l1 k 4 hkl (by omega))
        have hmE : bytesE l1[k].kv l1[k].c.key ∈ cellsE l1 ∧ bytesE l1[k].vv l1[k].c.val ∈ cellsE l1 := ⟨List.mem_flatMap.2 ⟨_, List.getElem_mem hkl, by simp⟩, List.mem_flatMap.2 ⟨_, List.getElem_mem hkl, by simp⟩⟩
        have hkO : OwB wr 0 l1[k].kv l1[k].c.key := hS.of_mem (E := bytesE _ _) (by simp [hmE.1])
        have hvO : OwB wr 0 l1[k].vv l1[k].c.val := hS.of_mem (E := bytesE _ _) (by simp [hmE.2])
        have hsn : l1.take (k + 1) = l1.take k ++ [l1[k]] := by exact List.take_succ_eq_append_getElem hkl
        have HSN := Lib.hid hsn
        have hl9 : M ≤ 65536 := by rw [← hM]; rw [List.length_take]; omega
        have HM := Lib.hid hM
        clear hmE hox hsn hM
        generalize l1[k] = x at *
        obtain ⟨kv, vv, key, ck, val, pg, ct⟩ := x
        simp only at y0 y1 y2 y3 y4 hkO hvO
        obtain ⟨xK, xk, rfl⟩ := Own.slice hkO
        obtain ⟨xV, xv, rfl⟩ := Own.slice hvO
        have hone := cells_one (x := ⟨.slice xK key.length xk, .slice xV val.length xv, ⟨key, ck, val, pg, ct⟩⟩) hkO hvO
        have hS4 := (hS.alloc 50 [.slice xK key.length xk, .int .i64 ck, .slice xV val.length xv, .int .i64 pg, .int .i64 ct]).sw1
        have hfive := Rd.five wr (.slice xK key.length xk) (.int .i64 ck) (.slice xV val.length xv) (.int .i64 pg) (.int .i64 ct) 50
        generalize l1.take k = tk at *
        have hown2 := (show Own _ 0 50 5 (.slice B M bc) M (flatC tk) from hS4.head)
        clear hkO hvO hS
        go_upto_region 19 with (first
          | (at_builtin; refine wp_append_C rfl (.tmp 106) (.tmp 111) rfl 0 (.slice B M bc) tk rfl (by rw [HM.out]; exact hown2) (.slice (some ⟨wr.heap.size, 0, none⟩) 1 1) [⟨.slice xK key.length xk, .slice xV val.length xv, ⟨key, ck, val, pg, ct⟩⟩] rfl hfive (by simpa [flatC] using hone) (by rw [HM.out]; simp only [List.length_singleton]; omega) (Nat.zero_le _) ?_; intro v5 w5 ho5 hg5 hk5)
          | fail)
        have hS5 := (hS4.appC ho5 hg5 (by rcases hk5 with e | e; exact .inl e; exact .inr ⟨_, e, Nat.le_refl _⟩))
        rw [← HSN.out] at hS5
        have HS5 := Lib.hid (Sep.pick (L := [_, _]) [0] (by decide) rfl hS5)
        clear hS4 hown2 hfive hone ho5 hg5 hk5 hS5 y0 y1 y2 y3 y4
        go_wp2_with fail
        exact ⟨⟨k + 1, by omega, by go_num, HS5.out⟩, by simp [intOf]; omega⟩
      · obtain rfl : k = N := by omega
        have e1 : l1.take k = l1 := List.take_of_length_le (by rw [HN1.out]; exact Nat.le_refl _)
        rw [e1] at hS hM
        have hS0 : Sep w wr (ownE 50 5 (.slice B M bc) (l1 ++ l3.take 0).length (flatC (l1 ++ l3.take 0)) :: ownE 50 5 (.slice A1 k c1) k (flatC l1) :: (cellsE l1 ++ ownE 50 5 (.slice A3 k c3) k (flatC l3) :: (cellsE l3 ++ [oldE w]))) := by
          rw [List.take_zero, List.append_nil, hM]; exact hS
        clear e1 hS hM
        obtain ⟨wq, rfl⟩ : ∃ wq, wq = wr := ⟨_, rfl⟩
        go_wp2_with fail
        go_loopw [23, 25] (fun av i wr => ∃ j : Nat, j ≤ k ∧ i = .int .i64 (j : Int) ∧ Sep w wr (ownE 50 5 av (l1 ++ l3.take j).length (flatC (l1 ++ l3.take j)) :: ownE 50 5 (.slice A1 k c1) k (flatC l1) :: (cellsE l1 ++ ownE 50 5 (.slice A3 k c3) k (flatC l3) :: (cellsE l3 ++ [oldE w])))) (fun _ i _ => k - (intOf i).toNat)
        case atStart => exact ⟨0, Nat.zero_le _, rfl, hS0⟩
        case round =>
          clear hS0
          obtain ⟨j, hj, rfl, hS⟩ := hrel
          obtain ⟨B, bc, rfl⟩ := Own.slice (show Own wr 0 50 5 _ (l1 ++ l3.take j).length (flatC (l1 ++ l3.take j)) from hS.head)
          generalize hM : (l1 ++ l3.take j).length = M at *
          by_cases hlt : j < k
          · have ik : (j : Int) < (k : Int) := by omega
            have hkl : j < l3.length := by rw [HN3'.out]; exact hlt
            have hox : Own wr 0 50 5 (.slice A3 k c3) k (flatC l3) := hS.of_mem (E := ownE _ _ _ _ _) (by simp)
            obtain ⟨gq, rfl⟩ : ∃ gq, A3 = some ⟨gq, 0, none⟩ := by
              rcases hox.form with ⟨_, h⟩ | ⟨gq, c', h, _⟩
              · omega
              · injection h with h; exact ⟨gq, h⟩
            have y0 : wr.cell? ⟨gq, j * 5, none⟩ = some l3[j].kv := hox.cells (j * 5) _ (flatC_at l3 j 0 hkl (by omega))
            have y1 : wr.cell? ⟨gq, j * 5 + 1, none⟩ = some (.int .i64 l3[j].c.kind) := hox.cells (j * 5 + 1) _ (flatC_at l3 j 1 hkl (by omega))
            have y2 : wr.cell? ⟨gq, j * 5 + 2, none⟩ = some l3[j].vv := hox.cells (j * 5 + 2) _ (flatC_at l3 j 2 hkl (by omega))
            have y3 : wr.cell? ⟨gq, j * 5 + 3, none⟩ = some (.int .i64 l3[j].c.page) := hox.cells (j * 5 + 3) _ (flatC_at l3 j 3 hkl (by omega))
            have y4 : wr.cell? ⟨gq, j * 5 + 4, none⟩ = some (.int .i64 l3[j].c.count) := hox.cells (j * 5 + 4) _ (flatC_at l3 j 4 hkl (by omega))
            have hmE : bytesE l3[j].kv l3[j].c.key ∈ cellsE l3 ∧ bytesE l3[j].vv l3[j].c.val ∈ cellsE l3 := ⟨List.mem_flatMap.2 ⟨_, List.getElem_mem hkl, by simp⟩, List.mem_flatMap.2 ⟨_, List.getElem_mem hkl, by simp⟩⟩
            have hkO : OwB wr 0 l3[j].kv l3[j].c.key := hS.of_mem (E := bytesE _ _) (by simp [hmE.1])
            have hvO : OwB wr 0 l3[j].vv l3[j].c.val := hS.of_mem (E := bytesE _ _) (by simp [hmE.2])
            have hsn : l1 ++ l3.take (j + 1) = l1 ++ l3.take j ++ [l3[j]] := by rw [List.take_succ_eq_append_getElem hkl, List.append_assoc]
            have HSN := Lib.hid hsn
            have hl9 : M ≤ 65536 := by rw [← hM]; rw [List.length_append, List.length_take, HN1.out]; omega
            have HM := Lib.hid hM
            clear hmE hox hsn hM
            generalize l3[j] = x at *
            obtain ⟨kv, vv, key, ck, val, pg, ct⟩ := x
            simp only at y0 y1 y2 y3 y4 hkO hvO
            obtain ⟨xK, xk, rfl⟩ := Own.slice hkO
            obtain ⟨xV, xv, rfl⟩ := Own.slice hvO
            have hone := cells_one (x := ⟨.slice xK key.length xk, .slice xV val.length xv, ⟨key, ck, val, pg, ct⟩⟩) hkO hvO
            have hS4 := (hS.alloc 50 [.slice xK key.length xk, .int .i64 ck, .slice xV val.length xv, .int .i64 pg, .int .i64 ct]).sw1
            have hfive := Rd.five wr (.slice xK key.length xk) (.int .i64 ck) (.slice xV val.length xv) (.int .i64 pg) (.int .i64 ct) 50
            generalize l1 ++ l3.take j = tk at *
            have hown2 := (show Own _ 0 50 5 (.slice B M bc) M (flatC tk) from hS4.head)
            clear hkO hvO hS
            go_upto_region 23 with (first
              | (at_builtin; refine wp_append_C rfl (.tmp 119) (.tmp 124) rfl 0 (.slice B M bc) tk rfl (by rw [HM.out]; exact hown2) (.slice (some ⟨wr.heap.size, 0, none⟩) 1 1) [⟨.slice xK key.length xk, .slice xV val.length xv, ⟨key, ck, val, pg, ct⟩⟩] rfl hfive (by simpa [flatC] using hone) (by rw [HM.out]; simp only [List.length_singleton]; omega) (Nat.zero_le _) ?_; intro v5 w5 ho5 hg5 hk5)
              | fail)
            have hS5 := (hS4.appC ho5 hg5 (by rcases hk5 with e | e; exact .inl e; exact .inr ⟨_, e, Nat.le_refl _⟩))
            rw [← HSN.out] at hS5
            have HS5 := Lib.hid (Sep.pick (L := [_, _]) [0] (by decide) rfl hS5)
            clear hS4 hown2 hfive hone ho5 hg5 hk5 hS5 y0 y1 y2 y3 y4
            go_wp2_with fail
            exact ⟨⟨j + 1, by omega, by go_num, HS5.out⟩, by simp [intOf]; omega⟩
          · obtain rfl : j = k := by omega
            have e1 : l3.take j = l3 := List.take_of_length_le (by rw [HN3'.out]; exact Nat.le_refl _)
            rw [e1] at hS hM
            have hmm : ∀ x ∈ l1 ++ l3, x.c.key.length ≤ 1000000000 ∧ x.c.val.length ≤ 1000000000 := fun x hx => by
              have hx2 : x.c ∈ pcs l1 := by
                rcases List.mem_append.1 hx with hx | hx
                · exact List.mem_map_of_mem hx
                · rw [HL3.out]; exact List.mem_map_of_mem hx
              have := HSM.out _ hx2
              omega
            have hMn := KMine_sep (u := .slice B M bc) (l := l1 ++ l3) (L := ownE 50 5 (.slice A1 j c1) j (flatC l1) :: ownE 50 5 (.slice A3 j c3) j (flatC l3) :: [oldE w]) (by rw [cellsE_append, hM]; exact hS.perm (List.Perm.cons _ (perm_mine _ _ _ _ _))) (by rw [List.length_append, HN1.out, HN3'.out]; omega) hmm
            clear e1 hS hmm hM
            go_upto_region 26 with (first
              | (go_at_call 30; (with_reducible refine hMn.mono ?_); rintro e w14 ⟨rfl, hS14⟩)
              | fail)
            clear hMn
            have hA := KApart_sep (u := .slice A1 j c1) (v := .slice A3 j c3) (l := l1) (m := l3) (L := [oldE w]) (by rw [HN1.out, HN3'.out]; exact hS14) (by rw [HN1.out]; omega) (by rw [HN3'.out]; omega)
            clear hS14
            have q1 : (k1 == k1) = true := beq_self_eq_true _
            have q2 : ((0 : Int) == (0 : Int)) = true := beq_self_eq_true _
            go_wp2_with (first
              | (go_at_call 31; (with_reducible refine hA.mono ?_); rintro e w15 ⟨rfl, hS15⟩)
              | fail)
            go_ret
            exact ⟨rfl, hS15.belowOld (v := w) (by simp)⟩
  · have hz60 : k1 = 0 ∧ z1 = 60 := by
      rcases HR1.out with ⟨h, _⟩ | ⟨_, h1, _, h2⟩
      · exact absurd h (hno _ _)
      · exact ⟨h1, h2⟩
    obtain ⟨rfl, rfl⟩ := hz60
    clear hO hS6
    have ha := AsLent3_sep (vb := .slice A n c) (hS7.sw [_, _, _]) HNN.out (hS7.rd (v := w) (by simp) hv) hbl
    go_upto_region 9 with (first
      | (go_at_call 26; (with_reducible refine ha.mono ?_); rintro e w8 ⟨rfl, hS8⟩)
      | fail)
    have hS8 := hS8.perm (show List.Perm _ (csE (.slice A3 l1.length c3) l3 :: csE (.slice A2 l1.length c2) lw :: csE (.slice A1 l1.length c1) l1 :: [oldE w]) from List.Perm.refl _)
    have hrl1 := csE_rd (hS8.of_mem (E := csE (.slice A1 l1.length c1) l1) (by simp)) hg1
    have hrlw := csE_rd (hS8.of_mem (E := csE (.slice A2 l1.length c2) lw) (by simp)) hg2
    have hrl3 := csE_rd (hS8.of_mem (E := csE (.slice A3 l1.length c3) l3) (by simp)) hg3
    have hsa := RKSameAll_any _ _ l1 lw w8 hrl1 hrlw
    rw [sameAllB_iff.2 HLW.out] at hsa
    have hsc := fun W (hw : Below w8.heap.size w8 W) => RKSameAll_any _ _ l3 lw W (hrl3.below hw) (hrlw.below hw)
    rw [sameAllB_iff.2 (HL3.out.symm.trans HLW.out)] at hsc
    clear ha hS7 hrl1 hrlw hrl3
    go_upto_region 10 with (first
      | (go_at_call 22; (with_reducible refine hsa.mono ?_); rintro e w9 ⟨rfl, hw9⟩)
      | fail)
    have hsc := hsc w9 hw9
    go_upto_region 11 with (first
      | (go_at_call 22; (with_reducible refine hsc.mono ?_); rintro e w10 ⟨rfl, hw10⟩)
      | fail)
    have hS10 := (hS8.below hw9).below hw10
    clear hsa hsc hS8 hw9 hw10
    have hS12 : Sep w w10 [csE (.slice A1 l1.length c1) l1, csE (.slice A3 l1.length c3) l3, oldE w] := Sep.pick (L := [_, _, _]) [2, 0] (by decide) rfl hS10
    clear hS10
    go_upto_region 16 with (fail)
    have hS13 : Sep w w10 (ownE 50 5 (.slice A1 l1.length c1) l1.length (flatC l1) :: (cellsE l1 ++ ownE 50 5 (.slice A3 l1.length c3) l1.length (flatC l3) :: (cellsE l3 ++ [oldE w]))) := by
      have h1 := Sep.unpack (D := ownE 50 5 (.slice A1 l1.length c1) l1.length (flatC l1) :: cellsE l1) hS12
      have h2 := Sep.sw (E := csE (.slice A3 l1.length c3) l3) (ownE 50 5 (.slice A1 l1.length c1) l1.length (flatC l1) :: cellsE l1) h1
      have h3 := Sep.unpack (D := ownE 50 5 (.slice A3 l1.length c3) l3.length (flatC l3) :: cellsE l3) h2
      rw [HN3.out] at h3
      exact h3.perm (perm_two _ _ _ _ _)
    clear hS12
    obtain ⟨N, hNN⟩ : ∃ N, l1.length = N := ⟨_, rfl⟩
    have HN1 := Lib.hid hNN
    have HN3' : Hid (l3.length = N) := Lib.hid (by rw [HN3.out, hNN])
    have HS13 := Lib.hid hS13
    rw [hNN] at hsm1 ⊢
    clear hS13 hNN
    go_wp2_with fail
    go_loopw [23, 24] (fun av i wr => ∃ k : Nat, k ≤ N ∧ i = .int .i64 (k : Int) ∧ Sep w wr (ownE 50 5 av (l1.take k).length (flatC (l1.take k)) :: ownE 50 5 (.slice A1 N c1) N (flatC l1) :: (cellsE l1 ++ ownE 50 5 (.slice A3 N c3) N (flatC l3) :: (cellsE l3 ++ [oldE w])))) (fun _ i _ => N - (intOf i).toNat)
    case atStart => exact ⟨0, Nat.zero_le _, rfl, by have h := HS13.out; rw [HN1.out] at h; rw [List.take_zero]; exact h.nilC⟩
    case round =>
      clear HS13
      obtain ⟨k, hk, rfl, hS⟩ := hrel
      obtain ⟨B, bc, rfl⟩ := Own.slice (show Own wr 0 50 5 _ (l1.take k).length (flatC (l1.take k)) from hS.head)
      generalize hM : (l1.take k).length = M at *
      by_cases hlt : k < N
      · have ik : (k : Int) < (N : Int) := by omega
        have hkl : k < l1.length := by rw [HN1.out]; exact hlt
        have hox : Own wr 0 50 5 (.slice A1 N c1) N (flatC l1) := hS.tail.head
        obtain ⟨gq, rfl⟩ : ∃ gq, A1 = some ⟨gq, 0, none⟩ := by
          rcases hox.form with ⟨_, h⟩ | ⟨gq, c', h, _⟩
          · omega
          · injection h with h; exact ⟨gq, h⟩
        have y0 : wr.cell? ⟨gq, k * 5, none⟩ = some l1[k].kv := hox.cells (k * 5) _ (flatC_at l1 k 0 hkl (by omega))
        have y1 : wr.cell? ⟨gq, k * 5 + 1, none⟩ = some (.int .i64 l1[k].c.kind) := hox.cells (k * 5 + 1) _ (flatC_at l1 k 1 hkl (by omega))
        have y2 : wr.cell? ⟨gq, k * 5 + 2, none⟩ = some l1[k].vv := hox.cells (k * 5 + 2) _ (flatC_at l1 k 2 hkl (by omega))
        have y3 : wr.cell? ⟨gq, k * 5 + 3, none⟩ = some (.int .i64 l1[k].c.page) := hox.cells (k * 5 + 3) _ (flatC_at l1 k 3 hkl (by omega))
        have y4 : wr.cell? ⟨gq, k * 5 + 4, none⟩ = some (.int .i64 l1[k].c.count) := hox.cells (k * 5 + 4) _ (flatC_at l1 k 4 hkl (by omega))
        have hmE : bytesE l1[k].kv l1[k].c.key ∈ cellsE l1 ∧ bytesE l1[k].vv l1[k].c.val ∈ cellsE l1 := ⟨List.mem_flatMap.2 ⟨_, List.getElem_mem hkl, by simp⟩, List.mem_flatMap.2 ⟨_, List.getElem_mem hkl, by simp⟩⟩
        have hkO : OwB wr 0 l1[k].kv l1[k].c.key := hS.of_mem (E := bytesE _ _) (by simp [hmE.1])
        have hvO : OwB wr 0 l1[k].vv l1[k].c.val := hS.of_mem (E := bytesE _ _) (by simp [hmE.2])
        have hsn : l1.take (k + 1) = l1.take k ++ [l1[k]] := by exact List.take_succ_eq_append_getElem hkl
        have HSN := Lib.hid hsn
        have hl9 : M ≤ 65536 := by rw [← hM]; rw [List.length_take]; omega
        have HM := Lib.hid hM
        clear hmE hox hsn hM
        generalize l1[k] = x at *
        obtain ⟨kv, vv, key, ck, val, pg, ct⟩ := x
        simp only at y0 y1 y2 y3 y4 hkO hvO
        obtain ⟨xK, xk, rfl⟩ := Own.slice hkO
        obtain ⟨xV, xv, rfl⟩ := Own.slice hvO
        have hone := cells_one (x := ⟨.slice xK key.length xk, .slice xV val.length xv, ⟨key, ck, val, pg, ct⟩⟩) hkO hvO
        have hS4 := (hS.alloc 50 [.slice xK key.length xk, .int .i64 ck, .slice xV val.length xv, .int .i64 pg, .int .i64 ct]).sw1
        have hfive := Rd.five wr (.slice xK key.length xk) (.int .i64 ck) (.slice xV val.length xv) (.int .i64 pg) (.int .i64 ct) 50
        generalize l1.take k = tk at *
        have hown2 := (show Own _ 0 50 5 (.slice B M bc) M (flatC tk) from hS4.head)
        clear hkO hvO hS
        go_upto_region 19 with (first
          | (at_builtin; refine wp_append_C rfl (.tmp 106) (.tmp 111) rfl 0 (.slice B M bc) tk rfl (by rw [HM.out]; exact hown2) (.slice (some ⟨wr.heap.size, 0, none⟩) 1 1) [⟨.slice xK key.length xk, .slice xV val.length xv, ⟨key, ck, val, pg, ct⟩⟩] rfl hfive (by simpa [flatC] using hone) (by rw [HM.out]; simp only [List.length_singleton]; omega) (Nat.zero_le _) ?_; intro v5 w5 ho5 hg5 hk5)
          | fail)
        have hS5 := (hS4.appC ho5 hg5 (by rcases hk5 with e | e; exact .inl e; exact .inr ⟨_, e, Nat.le_refl _⟩))
        rw [← HSN.out] at hS5
        have HS5 := Lib.hid (Sep.pick (L := [_, _]) [0] (by decide) rfl hS5)
        clear hS4 hown2 hfive hone ho5 hg5 hk5 hS5 y0 y1 y2 y3 y4
        go_wp2_with fail
        exact ⟨⟨k + 1, by omega, by go_num, HS5.out⟩, by simp [intOf]; omega⟩
      · obtain rfl : k = N := by omega
        have e1 : l1.take k = l1 := List.take_of_length_le (by rw [HN1.out]; exact Nat.le_refl _)
        rw [e1] at hS hM
        have hS0 : Sep w wr (ownE 50 5 (.slice B M bc) (l1 ++ l3.take 0).length (flatC (l1 ++ l3.take 0)) :: ownE 50 5 (.slice A1 k c1) k (flatC l1) :: (cellsE l1 ++ ownE 50 5 (.slice A3 k c3) k (flatC l3) :: (cellsE l3 ++ [oldE w]))) := by
          rw [List.take_zero, List.append_nil, hM]; exact hS
        clear e1 hS hM
        obtain ⟨wq, rfl⟩ : ∃ wq, wq = wr := ⟨_, rfl⟩
        go_wp2_with fail
        go_loopw [23, 25] (fun av i wr => ∃ j : Nat, j ≤ k ∧ i = .int .i64 (j : Int) ∧ Sep w wr (ownE 50 5 av (l1 ++ l3.take j).length (flatC (l1 ++ l3.take j)) :: ownE 50 5 (.slice A1 k c1) k (flatC l1) :: (cellsE l1 ++ ownE 50 5 (.slice A3 k c3) k (flatC l3) :: (cellsE l3 ++ [oldE w])))) (fun _ i _ => k - (intOf i).toNat)
        case atStart => exact ⟨0, Nat.zero_le _, rfl, hS0⟩
        case round =>
          clear hS0
          obtain ⟨j, hj, rfl, hS⟩ := hrel
          obtain ⟨B, bc, rfl⟩ := Own.slice (show Own wr 0 50 5 _ (l1 ++ l3.take j).length (flatC (l1 ++ l3.take j)) from hS.head)
          generalize hM : (l1 ++ l3.take j).length = M at *
          by_cases hlt : j < k
          · have ik : (j : Int) < (k : Int) := by omega
            have hkl : j < l3.length := by rw [HN3'.out]; exact hlt
            have hox : Own wr 0 50 5 (.slice A3 k c3) k (flatC l3) := hS.of_mem (E := ownE _ _ _ _ _) (by simp)
            obtain ⟨gq, rfl⟩ : ∃ gq, A3 = some ⟨gq, 0, none⟩ := by
              rcases hox.form with ⟨_, h⟩ | ⟨gq, c', h, _⟩
              · omega
              · injection h with h; exact ⟨gq, h⟩
            have y0 : wr.cell? ⟨gq, j * 5, none⟩ = some l3[j].kv := hox.cells (j * 5) _ (flatC_at l3 j 0 hkl (by omega))
            have y1 : wr.cell? ⟨gq, j * 5 + 1, none⟩ = some (.int .i64 l3[j].c.kind) := hox.cells (j * 5 + 1) _ (flatC_at l3 j 1 hkl (by omega))
            have y2 : wr.cell? ⟨gq, j * 5 + 2, none⟩ = some l3[j].vv := hox.cells (j * 5 + 2) _ (flatC_at l3 j 2 hkl (by omega))
            have y3 : wr.cell? ⟨gq, j * 5 + 3, none⟩ = some (.int .i64 l3[j].c.page) := hox.cells (j * 5 + 3) _ (flatC_at l3 j 3 hkl (by omega))
            have y4 : wr.cell? ⟨gq, j * 5 + 4, none⟩ = some (.int .i64 l3[j].c.count) := hox.cells (j * 5 + 4) _ (flatC_at l3 j 4 hkl (by omega))
            have hmE : bytesE l3[j].kv l3[j].c.key ∈ cellsE l3 ∧ bytesE l3[j].vv l3[j].c.val ∈ cellsE l3 := ⟨List.mem_flatMap.2 ⟨_, List.getElem_mem hkl, by simp⟩, List.mem_flatMap.2 ⟨_, List.getElem_mem hkl, by simp⟩⟩
            have hkO : OwB wr 0 l3[j].kv l3[j].c.key := hS.of_mem (E := bytesE _ _) (by simp [hmE.1])
            have hvO : OwB wr 0 l3[j].vv l3[j].c.val := hS.of_mem (E := bytesE _ _) (by simp [hmE.2])
            have hsn : l1 ++ l3.take (j + 1) = l1 ++ l3.take j ++ [l3[j]] := by rw [List.take_succ_eq_append_getElem hkl, List.append_assoc]
            have HSN := Lib.hid hsn
            have hl9 : M ≤ 65536 := by rw [← hM]; rw [List.length_append, List.length_take, HN1.out]; omega
            have HM := Lib.hid hM
            clear hmE hox hsn hM
            generalize l3[j] = x at *
            obtain ⟨kv, vv, key, ck, val, pg, ct⟩ := x
            simp only at y0 y1 y2 y3 y4 hkO hvO
            obtain ⟨xK, xk, rfl⟩ := Own.slice hkO
            obtain ⟨xV, xv, rfl⟩ := Own.slice hvO
            have hone := cells_one (x := ⟨.slice xK key.length xk, .slice xV val.length xv, ⟨key, ck, val, pg, ct⟩⟩) hkO hvO
            have hS4 := (hS.alloc 50 [.slice xK key.length xk, .int .i64 ck, .slice xV val.length xv, .int .i64 pg, .int .i64 ct]).sw1
            have hfive := Rd.five wr (.slice xK key.length xk) (.int .i64 ck) (.slice xV val.length xv) (.int .i64 pg) (.int .i64 ct) 50
            generalize l1 ++ l3.take j = tk at *
            have hown2 := (show Own _ 0 50 5 (.slice B M bc) M (flatC tk) from hS4.head)
            clear hkO hvO hS
            go_upto_region 23 with (first
              | (at_builtin; refine wp_append_C rfl (.tmp 119) (.tmp 124) rfl 0 (.slice B M bc) tk rfl (by rw [HM.out]; exact hown2) (.slice (some ⟨wr.heap.size, 0, none⟩) 1 1) [⟨.slice xK key.length xk, .slice xV val.length xv, ⟨key, ck, val, pg, ct⟩⟩] rfl hfive (by simpa [flatC] using hone) (by rw [HM.out]; simp only [List.length_singleton]; omega) (Nat.zero_le _) ?_; intro v5 w5 ho5 hg5 hk5)
              | fail)
            have hS5 := (hS4.appC ho5 hg5 (by rcases hk5 with e | e; exact .inl e; exact .inr ⟨_, e, Nat.le_refl _⟩))
            rw [← HSN.out] at hS5
            have HS5 := Lib.hid (Sep.pick (L := [_, _]) [0] (by decide) rfl hS5)
            clear hS4 hown2 hfive hone ho5 hg5 hk5 hS5 y0 y1 y2 y3 y4
            go_wp2_with fail
            exact ⟨⟨j + 1, by omega, by go_num, HS5.out⟩, by simp [intOf]; omega⟩
          · obtain rfl : j = k := by omega
            have e1 : l3.take j = l3 := List.take_of_length_le (by rw [HN3'.out]; exact Nat.le_refl _)
            rw [e1] at hS hM
            have hmm : ∀ x ∈ l1 ++ l3, x.c.key.length ≤ 1000000000 ∧ x.c.val.length ≤ 1000000000 := fun x hx => by
              have hx2 : x.c ∈ pcs l1 := by
                rcases List.mem_append.1 hx with hx | hx
                · exact List.mem_map_of_mem hx
                · rw [HL3.out]; exact List.mem_map_of_mem hx
              have := HSM.out _ hx2
              omega
            have hMn := KMine_sep (u := .slice B M bc) (l := l1 ++ l3) (L := ownE 50 5 (.slice A1 j c1) j (flatC l1) :: ownE 50 5 (.slice A3 j c3) j (flatC l3) :: [oldE w]) (by rw [cellsE_append, hM]; exact hS.perm (List.Perm.cons _ (perm_mine _ _ _ _ _))) (by rw [List.length_append, HN1.out, HN3'.out]; omega) hmm
            clear e1 hS hmm hM
            go_upto_region 26 with (first
              | (go_at_call 30; (with_reducible refine hMn.mono ?_); rintro e w14 ⟨rfl, hS14⟩)
              | fail)
            clear hMn
            have hA := KApart_sep (u := .slice A1 j c1) (v := .slice A3 j c3) (l := l1) (m := l3) (L := [oldE w]) (by rw [HN1.out, HN3'.out]; exact hS14) (by rw [HN1.out]; omega) (by rw [HN3'.out]; omega)
            clear hS14
            have q1 : ((0 : Int) == (0 : Int)) = true := beq_self_eq_true _
            have q2 : ((60 : Int) == (60 : Int)) = true := beq_self_eq_true _
            go_wp2_with (first
              | (go_at_call 31; (with_reducible refine hA.mono ?_); rintro e w15 ⟨rfl, hS15⟩)
              | fail)
            go_ret
            exact ⟨rfl, hS15.belowOld (v := w) (by simp)⟩
end Go.Proofs.Ytaniabhajngdeaa
