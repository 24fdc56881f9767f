/- espalierlaw06.PlainDecodes: the statement 'PlainDecodesSaid' is proved: whatever the input, the law returns true and the input reads as it did. -/
import Derived.Test.YtonbcipofakpjaaH1
import Derived.Test.YtonbcipofakpjaaH2
import Derived.Test.YtonbcipofakpjaaH7
import Derived.Test.YtonbcipofakpjaaH9
import Derived.Test.YtonbcipofakpjaaH11
import Derived.Below
import Derived.ChangeSame
import Derived.WalkKit
import Derived.ProofKit
import Derived.OpenShut
import Derived.SizedLaws
import Derived.Carry
import Derived.Lib.SmallJoins
import Derived.WideKeyArgs
import Derived.Test.YtonbcipofakpjaaRows
import Derived.JoinedCond
-- (*espalierref06.Book).TakeAll: the walk.
namespace Go.Proofs.Ytonbcipofakpjaa
open Go.RowKit
theorem own5 {w : World} {b n c : Nat} {A : Option Addr} {l : List CV} (h : Own w b 32 5 (.slice A n c) l.length (flatC l)) (hn : n = l.length) {k : Nat} (hk : k < l.length) :
    ∃ g, A = some ⟨g, 0, none⟩ ∧ w.cell? ⟨g, k * 5, none⟩ = some l[k].kv ∧ w.cell? ⟨g, k * 5 + 1, none⟩ = some (.int .i64 l[k].c.kind) ∧ w.cell? ⟨g, k * 5 + 2, none⟩ = some l[k].vv ∧ w.cell? ⟨g, k * 5 + 3, none⟩ = some (.int .i64 l[k].c.page) ∧ w.cell? ⟨g, k * 5 + 4, none⟩ = some (.int .i64 l[k].c.count) := by
  subst hn
  obtain ⟨g, rfl⟩ := h.some' (by omega)
  refine ⟨g, rfl, h.cells (k * 5) _ (flatC_at l k 0 hk (by omega)), h.cells (k * 5 + 1) _ (flatC_at l k 1 hk (by omega)), h.cells (k * 5 + 2) _ (flatC_at l k 2 hk (by omega)), h.cells (k * 5 + 3) _ (flatC_at l k 3 hk (by omega)), h.cells (k * 5 + 4) _ (flatC_at l k 4 hk (by omega))⟩
theorem ApartL.snoc {vs : List Value} {u : Value} (h : ApartL vs) (hu : ∀ g, u.ownBlock = some g → ¬ InL vs g) : ApartL (vs ++ [u]) := by
  have split : ∀ (i : Nat) (y : Value), (vs ++ [u])[i]? = some y → (i < vs.length ∧ vs[i]? = some y) ∨ (i = vs.length ∧ y = u) := fun i y hi => by
    rcases Nat.lt_or_ge i vs.length with hlt | hge
    · rw [List.getElem?_append_left hlt] at hi
      exact .inl ⟨hlt, hi⟩
    · rw [List.getElem?_append_right hge] at hi
      have h0 : i = vs.length := by
        have := (List.getElem?_eq_some_iff.mp hi).1
        simp at this; omega
      subst h0
      simp at hi
      exact .inr ⟨rfl, hi.symm⟩
  intro i j y y' hij hi hj g hg e
  rcases split i y hi with ⟨h1, h2⟩ | ⟨h1, rfl⟩
  · rcases split j y' hj with ⟨h3, h4⟩ | ⟨h3, rfl⟩
    · exact h i j y y' hij h2 h4 g hg e
    · exact hu g e.symm ⟨i, y, h2, hg⟩
  · rcases split j y' hj with ⟨h3, h4⟩ | ⟨h3, rfl⟩
    · exact hu g hg ⟨j, y', h4, e.symm⟩
    · omega
/-- A list comes behind the lists. -/
theorem Sep.lists {w0 w w' : World} {L : List Ent} {lv lv' u : Value} {ls : List (Value × Nat)} {n : Nat} {xs : List Value} (h : Sep w0 w (listsE lv ls :: ownE 32 5 u n xs :: L))
    (ho : Own w' 0 25 1 lv' ((ls.map Prod.fst).length + 1) (ls.map Prod.fst ++ [u])) (hg : w.grownBy w' lv.ownBlock) (hk : lv'.ownBlock = lv.ownBlock ∨ ∃ s, w.heap.size ≤ s ∧ lv'.ownBlock = some s) : Sep w0 w' (listsE lv' (ls ++ [(u, n)]) :: L) := by
  have hL : ListsAt w lv ls := h.head
  have hU : Own w 0 32 5 u n xs := h.tail.head
  have hTT : 32 ≠ 25 := by decide
  have hsz := hg.size
  have hU' : Own w' 0 32 5 u n xs := hU.grown hg (fun g hg' e => by
    obtain ⟨cs, h1⟩ := Own.oblk hL.own e.symm
    obtain ⟨cs2, h2⟩ := hU.oblk hg'
    exact h2.ne h1 hTT rfl)
  have hE' : ∀ (j : Nat) (y : Value), (ls.map Prod.fst)[j]? = some y → OwQ w' y (lnF ls j) 0 0 := fun j y hj => (hL.each j y hj).grown hg (fun g hg' => (hL.each j y hj).ne_own hL.own hTT g hg')
  refine h.join.upd (E' := listsE lv' (ls ++ [(u, n)])) ((Turn.of_grown hg (fun _ e => e)).mono fun b hb => .inl (.inl hb)) ⟨by simpa using ho, fun j y hj => ?_, ?_⟩ (fun g hg' => ?_)
  · rw [List.map_append, List.map_cons, List.map_nil] at hj
    rcases Nat.lt_or_ge j (ls.map Prod.fst).length with hlt | hge
    · rw [List.getElem?_append_left hlt] at hj
      have e1 : lnF (ls ++ [(u, n)]) j = lnF ls j := by
        rw [List.length_map] at hlt
        simp [lnF, List.getD, List.getElem?_append_left hlt]
      rw [e1]; exact hE' j y hj
    · rw [List.getElem?_append_right hge] at hj
      have h0 : j = ls.length := by
        have := (List.getElem?_eq_some_iff.mp hj).1
        simp at this hge; omega
      subst h0
      simp at hj
      subst hj
      have e1 : lnF (ls ++ [(u, n)]) ls.length = n := by simp [lnF, List.getD]
      rw [e1]
      exact ⟨xs, hU', fun k hk => absurd hk (Nat.not_lt_zero _)⟩
  · rw [List.map_append, List.map_cons, List.map_nil]
    exact hL.apart.snoc (fun g hg' hin => h.far (List.mem_cons_self ..) g (.inr hin) hg')
  · rcases hg' with hg' | ⟨j, y, hj, hy⟩
    · refine ⟨?_, (Own.lt ho g hg').2⟩
      rcases hk with e | ⟨s, hs, e⟩
      · exact .inl (.inl (.inl (e.symm.trans hg' : lv.ownBlock = some g)))
      · right
        have := e.symm.trans hg'
        injection this with this
        omega
    · rw [List.map_append, List.map_cons, List.map_nil, List.getElem?_append] at hj
      split at hj
      · exact ⟨.inl (.inl (.inr ⟨j, y, hj, hy⟩)), (hE' j y hj).lt g hy⟩
      · rw [List.getElem?_singleton] at hj
        split at hj
        · injection hj with hj
          rw [← hj] at hy
          exact ⟨.inl (.inr hy), (Own.lt hU' g hy).2⟩
        · cases hj
theorem bookT_rest {T : TypeId} {w0 w : World} {L : List Ent} {bb : Nat} {v lv lv' : Value} {xs : List (Value × List UInt8)} (hT1 : 5 ≠ T) (hT2 : 27 ≠ T) (h : Sep w0 w (bookTE T bb [lv] v xs :: L)) : Sep w0 (w.setCell ⟨bb, 1, none⟩ lv') (bookTE T bb [lv'] v xs :: L) := by
  have hB : BookAt w 0 bb v (xs.map Prod.fst) (bkF xs) T [lv] := h.head
  have hg := grownBy_setCell w ⟨bb, 1, none⟩ lv'
  refine h.upd (E' := bookTE T bb [lv'] v xs) ((Turn.of_grown hg (fun k e => (Option.some.inj e).symm)).mono fun b hb => .inl hb) ⟨by have := hB.blk.set 1 lv'; simpa using this, hB.own.grown hg (fun g hg' e => hB.own.ne_Tb hB.blk hT2 (by rw [hg', e])), fun j u hj => Own.grown (hB.each j u hj) hg (fun g hg' e => OwB.ne_blk (hB.each j u hj) hB.blk hT1 (by rw [hg', e])), hB.apart⟩ (fun g hg' => ⟨.inl hg', ?_⟩)
  have h1 := h.lt g hg'
  have h2 := hg.size
  omega
set_option maxRecDepth 100000 in
set_option maxHeartbeats 8000000 in
theorem TakeAll6_sep {w0 w : World} {L : List Ent} {bb : Nat} {v lv u : Value} {xs : List (Value × List UInt8)} {ls : List (Value × Nat)} {l : List CV} (h : Sep w0 w (bookTE 56 bb [lv] v xs :: listsE lv ls :: ownE 32 5 u l.length (flatC l) :: (cellsE l ++ L)))
    (hn : xs.length + 2 * l.length ≤ 8000000) (hn2 : ls.length ≤ 1000000) :
    Calls Try.prog 30 #[.pointer (some ⟨bb, 0, none⟩), u] w fun e w' => (∃ y, e = .returned y) ∧ ∃ v' lv', Sep w0 w' (bookTE 56 bb [lv'] v' (xs ++ pairsC l) :: listsE lv' (ls ++ [(u, l.length)]) :: L) := by
  have hU0 : Own w 0 32 5 u l.length (flatC l) := h.tail.tail.head
  obtain ⟨A, c, rfl⟩ := hU0.slice
  have hnl : l.length ≤ 4000000 := by omega
  clear hU0
  go_enter Try.func30, Try.ntmps30
  go_wp2_with fail
  go_loopw [4] (fun i wr => ∃ (k : Nat) (v' : Value), k ≤ l.length ∧ i = .int .i64 (k : Int) ∧ Sep w0 wr (bookTE 56 bb [lv] v' (xs ++ pairsC (l.take k)) :: listsE lv ls :: ownE 32 5 (.slice A l.length c) l.length (flatC l) :: (cellsE (l.drop k) ++ L))) (fun i _ => l.length - (intOf i).toNat)
  case atStart => exact ⟨0, v, Nat.zero_le _, rfl, by simpa [pairsC] using h⟩
  case round =>
    clear h
    obtain ⟨k, v', hk, rfl, h⟩ := hrel
    by_cases hlt : k < l.length
    · have ik : (k : Int) < (l.length : Int) := by omega
      obtain ⟨g, rfl, c0, c1, c2, c3, c4⟩ := own5 (show Own wr 0 32 5 (.slice A l.length c) l.length (flatC l) from h.tail.tail.head) rfl hlt
      rw [cellsE_drop l hlt] at h
      have hS := Sep.sn [_, _, _] (Sep.sn [_, _] h)
      have hpl : (pairsC (l.take k)).length ≤ 2 * l.length := by rw [pairsC_length, List.length_take]; omega
      have hT := Take6_sep (x := l[k]) (Sep.sn [_] hS) (by rw [List.length_append]; omega)
      rw [List.append_assoc xs, List.append_assoc xs, ← pairsC_snoc l hlt] at hT
      unfold cellV at hT
      clear hS hpl h
      go_upto_region 2 with (first
        | (go_at_call 61; refine hT.mono ?_; rintro e w3 ⟨⟨_, rfl⟩, v3, hS3⟩)
        | fail)
      clear hT c0 c1 c2 c3 c4
      go_wp2_with fail
      exact ⟨⟨k + 1, v3, by omega, by go_num, hS3⟩, by simp [intOf]; omega⟩
    · obtain rfl : k = l.length := by omega
      rw [List.take_length, List.drop_length] at h
      have h : Sep w0 wr (bookTE 56 bb [lv] v' (xs ++ pairsC l) :: listsE lv ls :: ownE 32 5 (.slice A l.length c) l.length (flatC l) :: L) := h
      have hB : BookAt wr 0 bb v' ((xs ++ pairsC l).map Prod.fst) (bkF (xs ++ pairsC l)) 56 [lv] := h.head
      have hblk := hB.blk
      have hown : Own wr 0 25 1 lv (ls.map Prod.fst).length (ls.map Prod.fst) := (show ListsAt wr lv ls from h.tail.head).own
      obtain ⟨LA, lc, rfl⟩ := hown.slice
      have c1 := hblk.cell' (j := 1) rfl
      have hlm : (ls.map Prod.fst).length ≤ 1000000 := by rw [List.length_map]; exact hn2
      have hTB : 25 ≠ 56 := by decide
      have HS := Lib.hid h
      clear h hB
      generalize hvs : ls.map Prod.fst = vs at *
      have HVS := Lib.hid hvs
      clear hvs
      go_wp2_with (first
        | (at_builtin; refine wp_append_LC rfl (.tmp 21) (.tmp 23) rfl 0 _ vs rfl hown (.slice A l.length c) rfl 25 rfl (by omega) (Nat.zero_le _) ?_; intro lv4 w4 ho4 hg4 hk4; obtain ⟨LB, ld, rfl⟩ := Own.slice ho4; have hb4 := hblk.grown hg4 (fun e => hown.ne_Tb hblk hTB e); have d1 := hb4.cell' (j := 1) rfl; have f1 := hb4.frozen (j := 1) (by simp))
        | fail)
      refine bodyPost_end (results_none rfl _ _ _) rfl ?_
      have hS := (Sep.sw1 HS.out)
      have hL : ls.map Prod.fst = vs := HVS.out
      subst hL
      have hS4 := Sep.lists (h := hS.sn [_]) (lv' := .slice LB ((ls.map Prod.fst).length + 1) ld) ho4 hg4 (hk4.imp id (fun e => ⟨_, by omega, e⟩))
      exact ⟨⟨_, rfl⟩, v', _, bookT_rest (by decide) (by decide) hS4.sw1⟩
end Go.Proofs.Ytonbcipofakpjaa

-- Decode, Open, Bytes of a page, in the words of pieces; told.
namespace Go.Proofs.Ytonbcipofakpjaa
open Go.RowKit
def RngC (l : List CV) : Prop := ∀ x ∈ l, i64r x.c.kind ∧ i64r x.c.page ∧ i64r x.c.count
/-- Cells of the call's own, with their bytes. -/
def csE (u : Value) (l : List CV) : Ent := allE (ownE 32 5 u l.length (flatC l) :: cellsE l)
theorem csE_rd {w : World} {u : Value} {l : List CV} (h : (csE u l).p w) (hr : RngC l) : RdCs w u l := by
  have ho : Own w 0 32 5 u l.length (flatC l) := h.1 _ (List.mem_cons_self ..)
  refine ⟨ho.rd, fun x hx => ?_⟩
  have hk : OwB w 0 x.kv x.c.key := h.1 (bytesE x.kv x.c.key) (List.mem_cons_of_mem _ (List.mem_flatMap.2 ⟨x, hx, by simp⟩))
  have hv : OwB w 0 x.vv x.c.val := h.1 (bytesE x.vv x.c.val) (List.mem_cons_of_mem _ (List.mem_flatMap.2 ⟨x, hx, by simp⟩))
  exact ⟨hk.rd, hv.rd, (hr x hx).1, (hr x hx).2.1, (hr x hx).2.2⟩
/-- What is told of bytes. -/
def DecR (b : List UInt8) (kind : Int) (l : List PC) (e : Int) : Prop := (isPln b kind l ∧ e = 0) ∨ ((∀ k l', ¬ isPln b k l') ∧ kind = 0 ∧ l = [] ∧ e = 60)
theorem DecR.same {b : List UInt8} {k k' : Int} {l l' : List PC} {e e' : Int} (h : DecR b k l e) (h' : DecR b k' l' e') : k = k' ∧ l = l' ∧ e = e' := by
  rcases h with ⟨h1, rfl⟩ | ⟨h1, rfl, rfl, rfl⟩
  · rcases h' with ⟨h2, rfl⟩ | ⟨h2, _⟩
    · obtain ⟨a1, a2⟩ := isPln_parse h1
      obtain ⟨b1, b2⟩ := isPln_parse h2
      rw [a1] at b1
      injection b1 with b1
      exact ⟨a2.symm.trans b2, b1, rfl⟩
    · exact absurd h1 (h2 _ _)
  · rcases h' with ⟨h2, _⟩ | ⟨h2, rfl, rfl, rfl⟩
    · exact absurd h2 (h1 _ _)
    · exact ⟨rfl, rfl, rfl⟩
theorem PDec_sep {w0 w : World} {L : List Ent} {v : Value} {b : List UInt8} (h : Sep w0 w L) (hv : RdB w v b) :
    Calls Try.prog 20 #[v] w fun e w' => ∃ (kind : Int) (l : List CV) (u : Value) (z : Int), e = .returned (.tuple #[.int .i64 kind, u, .int .i64 z]) ∧ DecR b kind (pcs l) z ∧ RngC l ∧ Sep w0 w' (csE u l :: L) := by
  refine (PDecode_any v b w hv).mono ?_
  rintro e w' ⟨hb, ⟨kind, l, u, hy, rfl, hO⟩ | ⟨hn, rfl⟩⟩
  · exact ⟨kind, l, u, 0, rfl, .inl ⟨hy, rfl⟩, hO.rng, (h.cells hb hO).pack (D := ownE 32 5 u l.length (flatC l) :: cellsE l)⟩
  · refine ⟨0, [], _, 60, rfl, .inr ⟨hn, rfl, rfl, rfl⟩, by simp [RngC], (h.cells hb (OwCs.nil w' w.heap.size)).pack (D := ownE 32 5 (.slice none 0 0) 0 (flatC []) :: cellsE [])⟩
theorem RDecZ (v : Value) (b : List UInt8) (w : World) (hv : RdB w v b) :
    Calls Try.prog 60 #[v] w fun e w' => ∃ (kind : Int) (l : List CV) (u : Value) (z : Int), e = .returned (.tuple #[.int .i64 kind, u, .int .i64 z]) ∧ DecR b kind (pcs l) z ∧ OwM w' w.heap.size u l ∧ Below w.heap.size w w' := by
  refine (RDecode_any v b w hv).mono ?_
  rintro e w' ⟨hb, ⟨kind, l, u, hy, rfl, hO⟩ | ⟨hn, rfl⟩⟩
  · exact ⟨kind, l, u, 0, rfl, .inl ⟨hy, rfl⟩, hO, hb⟩
  · exact ⟨0, [], _, 60, rfl, .inr ⟨hn, rfl, rfl, rfl⟩, OwM.nil _ _, hb⟩
set_option maxRecDepth 100000 in
set_option maxHeartbeats 4000000 in
theorem told_any (kind z : Int) (u vb : Value) (l : List CV) (b : List UInt8) (w : World) (hl : RdCs w u l) (hd : DecR b kind (pcs l) z) (hb : RdB w vb b) :
    Calls Try.prog 27 #[.int .i64 kind, u, .int .i64 z, vb] w fun e w' => e = .returned (.bool true) ∧ Below w.heap.size w w' := by
  have hr := RDecZ vb b w hb
  obtain ⟨A, c, rfl, hm⟩ := hb.form
  obtain ⟨B, d, rfl, hm2, hd2⟩ := hl.slice
  have HD := Lib.hid hd
  clear hd
  go_enter Try.func27, Try.ntmps27
  go_upto_region 2 with (first
    | (go_at_call 60; refine hr.mono ?_; rintro e w1 ⟨k2, l2, u2, z2, rfl, hd2, hO, hb1⟩)
    | fail)
  obtain ⟨rfl, hll, rfl⟩ := HD.out.same hd2
  obtain ⟨C, cc, rfl⟩ := hO.own.slice
  have hs := SameCells_eq _ _ l l2 w1 (hl.below hb1) hO.rd hll
  have HLL := Lib.hid hll
  clear hr hd2 hll hO
  go_wp2_with (first
    | (go_at_call 22; refine hs.mono ?_; rintro e w2 ⟨rfl, hb2⟩)
    | fail)
  go_ret
  exact ⟨rfl, hb1.trans (hb2.mono hb1.size)⟩
set_option maxRecDepth 100000 in
set_option maxHeartbeats 4000000 in
theorem PBytes_any (p : Nat) (kind : Int) (P : Nat) (used : Int) (u : Value) (l : List CV) (w : World) (hblk : OBlk w p 89 [.int .i64 kind, .int .i64 (P : Int), .int .i64 used, u]) (hrd : RdCs w u l) (hk : isKindB kind = true) (hP1 : 512 ≤ P) (hP : P ≤ 65536) (hok : ∀ c ∈ pcs l, OkC P c) (hsz : sizeF (pcs l) ≤ P) :
    Calls Try.prog 29 #[.pointer (some ⟨p, 0, none⟩)] w fun e w' => ∃ v, e = .returned v ∧ OwB w' w.heap.size v (laidF kind (pcs l) P) ∧ Below w.heap.size w w' := by
  have hla := fun nq => laid_any kind u l P hk hP1 hP (w.drewN nq) ⟨hrd.form, fun x hx => ⟨(hrd.ok x hx).k, (hrd.ok x hx).v, (hrd.ok x hx).r1, (hrd.ok x hx).r2, (hrd.ok x hx).r3⟩⟩ hok hsz
  have HLA := Lib.hid hla
  obtain ⟨b0, b1, b2, b3⟩ := cells4 hblk
  obtain ⟨A, c, rfl, _, _⟩ := hrd.slice
  have hll := laidF_length (kind := kind) hsz
  have HLL := Lib.hid hll
  clear hla hok hrd hll
  go_enter Try.func29, Try.ntmps29
  go_upto_region 1 with (fail)
  refine wp_region_dtail 12 (by kernel_rfl) (by kernel_rfl) ?_
  simp only [List.take_succ_cons, List.take_zero, List.drop_succ_cons, List.drop_zero]
  repeat (quiet_step (fail))
  refine wpQuiet_nil ?_
  rintro _ ⟨nq, rfl⟩
  go_wp2_with (first
    | (go_at_call 52; refine (HLA.out nq).mono ?_; rintro e w1 ⟨g, rfl, hg, ho, hb⟩)
    | fail)
  go_ret
  refine ⟨_, rfl, ?_, (belowE (Below.refl _ _) nq).trans hb⟩
  have := ho.owB' (base := w.heap.size) hg (by rw [HLL.out]; simp only [maxLen]; omega)
  rw [HLL.out] at this
  exact this
def pgE (p : Nat) (kind : Int) (P : Nat) (used : Int) (u : Value) (l : List CV) : Ent := allE [blkE p 89 [.int .i64 kind, .int .i64 (P : Int), .int .i64 used, u], csE u l]
set_option maxHeartbeats 4000000 in
theorem POpen_sep {w0 w : World} {L : List Ent} {v : Value} {b : List UInt8} (h : Sep w0 w L) (hv : RdB w v b) :
    Calls Try.prog 21 #[v] w fun e w' => (∃ (kind : Int) (l : List CV) (p : Nat) (u : Value), isPln b kind (pcs l) ∧ RngC l ∧ e = .returned (.tuple #[.pointer (some ⟨p, 0, none⟩), .int .i64 0]) ∧ Sep w0 w' (pgE p kind b.length (sizeF (pcs l) : Nat) u l :: L)) ∨
      ((∀ kind l, ¬ isPln b kind l) ∧ e = .returned (.tuple #[.pointer none, .int .i64 60]) ∧ Sep w0 w' L) := by
  have hd := PDecode_any v b w hv
  obtain ⟨A, c, rfl, hm⟩ := hv.form
  have HS := Lib.hid h
  clear h
  go_enter Try.func21, Try.ntmps21
  go_wp2_with fail
  refine hd.mono ?_
  rintro e w1 ⟨hw1, ⟨kind, l, u, hy, rfl, hO⟩ | ⟨hn, rfl⟩⟩
  · obtain ⟨B, cc, rfl⟩ := Own.slice hO.own
    have hsz : sizeF (pcs l) ≤ b.length := (encE_zero.1 hy.2.2.1).2
    have hP := (isPowB_range hy.1).2
    have hokc : ∀ c ∈ pcs l, OkC b.length c := fun c hc => may_ok (scan_may (encE_zero.1 hy.2.2.1).1 c hc)
    have hn : (pcs l).length ≤ 2000000000000 := by have := sizeF_eq (pcs l); omega
    have hS := Size_any kind _ l w1 hO.rd (fit_of hokc (by omega) hn)
    have HY := Lib.hid hy
    have hS1 := Sep.pack (D := ownE 32 5 (.slice B l.length cc) l.length (flatC l) :: cellsE l) (HS.out.cells hw1 hO)
    have HO := Lib.hid hO.rng
    clear hsz hokc hn hd hy hO
    go_wp2_with fail
    refine hS.mono ?_
    rintro e w2 ⟨rfl, hw2⟩
    have hS2 := (hS1.below hw2).alloc 89 [.int .i64 kind, .int .i64 (b.length : Int), .int .i64 (sizeF (pcs l) : Nat), .slice B l.length cc]
    clear hS1
    go_wp2_with fail
    go_ret2
    exact .inl ⟨kind, l, _, _, HY.out, HO.out, rfl, Sep.pack (D := [_, _]) hS2⟩
  · have HN := Lib.hid hn
    have hS1 := HS.out.below hw1
    clear hn hd
    go_wp2_with fail
    go_ret2
    exact .inr ⟨HN.out, rfl, hS1⟩
theorem TakeAllC_sep {w0 w : World} {L : List Ent} {bb : Nat} {v lv u : Value} {xs : List (Value × List UInt8)} {ls : List (Value × Nat)} {l : List CV} (h : Sep w0 w (bookTE 56 bb [lv] v xs :: listsE lv ls :: csE u l :: L))
    (hn : xs.length + 2 * l.length ≤ 8000000) (hn2 : ls.length ≤ 1000000) :
    Calls Try.prog 30 #[.pointer (some ⟨bb, 0, none⟩), u] w fun e w' => (∃ y, e = .returned y) ∧ ∃ v' lv', Sep w0 w' (bookTE 56 bb [lv'] v' (xs ++ pairsC l) :: listsE lv' (ls ++ [(u, l.length)]) :: L) := by
  have h1 := (h.sw [_, _]).unpack
  refine TakeAll6_sep (v := v) (lv := lv) (h1.perm ?_) hn hn2
  show ((ownE 32 5 u l.length (flatC l) :: cellsE l) ++ ([bookTE 56 bb [lv] v xs, listsE lv ls] ++ L)).Perm ([bookTE 56 bb [lv] v xs, listsE lv ls] ++ ((ownE 32 5 u l.length (flatC l) :: cellsE l) ++ L))
  rw [← List.append_assoc, ← List.append_assoc]
  exact List.Perm.append_right _ List.perm_append_comm
end Go.Proofs.Ytonbcipofakpjaa

-- espalierlaw06.PlainDecodes: the walk.
namespace Go.Proofs.Ytonbcipofakpjaa
open Go.RowKit
theorem Sep.unit {w0 w : World} {L : List Ent} (h : Sep w0 w L) : Sep w0 w (allE [] :: L) := Sep.pack (D := []) h
/-- What Open tells. -/
def OpenR (b : List UInt8) (pv : Value) (z : Int) (PG : Ent) : Prop :=
  (∃ (kind : Int) (l : List CV) (p : Nat) (u : Value), pv = .pointer (some ⟨p, 0, none⟩) ∧ z = 0 ∧ isPln b kind (pcs l) ∧ RngC l ∧ PG = pgE p kind b.length (sizeF (pcs l) : Nat) u l) ∨ (pv = .pointer none ∧ z = 60 ∧ ∀ k l, ¬ isPln b k l)
theorem POpenZ {w0 w : World} {L : List Ent} {v : Value} {b : List UInt8} (h : Sep w0 w L) (hv : RdB w v b) :
    Calls Try.prog 21 #[v] w fun e w' => ∃ pv z PG, e = .returned (.tuple #[pv, .int .i64 z]) ∧ OpenR b pv z PG ∧ Sep w0 w' (PG :: L) := by
  refine (POpen_sep h hv).mono ?_
  rintro e w' (⟨kind, l, p, u, hy, hr, rfl, hS⟩ | ⟨hn, rfl, hS⟩)
  · exact ⟨_, _, _, rfl, .inl ⟨kind, l, p, u, rfl, rfl, hy, hr, rfl⟩, hS⟩
  · exact ⟨_, _, _, rfl, .inr ⟨rfl, rfl, hn⟩, hS.unit⟩
theorem OpenR.code {b : List UInt8} {pv : Value} {z k' z' : Int} {PG : Ent} {l' : List PC} (h : OpenR b pv z PG) (h' : DecR b k' l' z') : z = z' := by
  rcases h with ⟨kind, l, p, u, _, rfl, hy, _⟩ | ⟨_, rfl, hn⟩
  · exact (DecR.same (.inl ⟨hy, rfl⟩ : DecR b kind (pcs l) 0) h').2.2
  · exact (DecR.same (.inr ⟨hn, rfl, rfl, rfl⟩ : DecR b 0 [] 60) h').2.2
theorem DecR.len {b : List UInt8} {k z : Int} {l : List CV} (h : DecR b k (pcs l) z) : l.length ≤ 40000 ∧ ∀ p ∈ pairsC l, p.2.length ≤ 1000000000 := by
  rcases h with ⟨hy, _⟩ | ⟨_, _, hl, _⟩
  · obtain ⟨h1, h2, h3, h4⟩ := hy
    have hP := (isPowB_range h1).2
    obtain ⟨h5, h6⟩ := encE_zero.1 h3
    have hs := sizeF_eq (pcs l)
    rw [pcs_length] at hs
    refine ⟨by omega, fun p hp => ?_⟩
    obtain ⟨x, hx, hp⟩ := List.mem_flatMap.1 hp
    have hk := okc_fit (may_ok (scan_may h5 x.c (List.mem_map_of_mem hx))) (by omega)
    simp only [List.mem_cons, List.not_mem_nil, or_false] at hp
    rcases hp with rfl | rfl <;> simp only <;> omega
  · have : l = [] := List.eq_nil_of_length_eq_zero (by rw [← pcs_length l, hl]; rfl)
    subst this
    exact ⟨by simp, by simp [pairsC]⟩
def ovF (b c : List UInt8) : List UInt8 := c.take (min c.length b.length) ++ b.drop (min c.length b.length)
theorem ovF_length (b c : List UInt8) : (ovF b c).length = b.length := by
  unfold ovF; rw [List.length_append, List.length_take, List.length_drop]; omega
theorem splice_ov (b c m : List UInt8) : splice (b ++ m) 0 (c.take (min c.length b.length)) = ovF b c ++ m := by
  unfold splice ovF
  rw [List.take_zero, List.nil_append, Nat.zero_add, List.length_take, show min (min c.length b.length) c.length = min c.length b.length by omega, List.drop_append_of_le_length (by omega), List.append_assoc]
theorem LentB_sep {w0 w : World} {L : List Ent} {v : Value} {l : List UInt8} (h : Sep w0 w L) (hv : RdB w v l) (hl : l.length ≤ 140737488355328) :
    Calls Try.prog 26 #[v] w fun e w' => ∃ g, e = .returned (.slice (some ⟨g, 0, none⟩) l.length (l.length + 9)) ∧ Sep w0 w' (bytesE (.slice (some ⟨g, 0, none⟩) (l.length + 9) (l.length + 9)) (l ++ marks9) :: L) := by
  refine (Lent_any v l w hv hl).mono ?_
  rintro e w' ⟨g, rfl, ho, hb⟩
  exact ⟨g, rfl, h.bytes hb ho (Nat.le_refl _)⟩
theorem AsLentB_sep {w0 w : World} {L : List Ent} {vb : Value} {l : List UInt8} {g n : Nat} (h : Sep w0 w (bytesE (.slice (some ⟨g, 0, none⟩) (n + 9) (n + 9)) (l ++ marks9) :: L)) (hn : l.length = n) (hv : RdB w vb l) (hl : n ≤ 140737488355328) :
    Calls Try.prog 28 #[.slice (some ⟨g, 0, none⟩) n (n + 9), vb] w fun e w' => e = .returned (.bool true) ∧ Sep w0 w' L := by
  refine (AsLent_any g n vb l 0 w hn h.head hv hl).mono ?_
  rintro e w' ⟨rfl, hg⟩
  exact ⟨rfl, h.kill (Turn.of_grown hg (fun k e => e))⟩
theorem Sep.book6 {w0 w : World} {L : List Ent} (h : Sep w0 w L) : Sep w0 (w.alloc (.cells #[.slice none 0 0, .slice none 0 0] 56)) (bookTE 56 w.heap.size [.slice none 0 0] (.slice none 0 0) [] :: listsE (.slice none 0 0) [] :: L) := by
  have h1 := h.alloc 56 [.slice none 0 0, .slice none 0 0]
  have h2 : Sep w0 _ (bookTE 56 w.heap.size [.slice none 0 0] (.slice none 0 0) [] :: L) := h1.weak (fun hp => ⟨hp, Own.nil _ _ _ _, fun j u hj => by simp at hj, fun i j u u' _ hi => by simp at hi⟩) (fun g hg => by
    rcases hg with rfl | hg | ⟨j, u, hj, _⟩
    · rfl
    · cases hg
    · simp at hj)
  refine Sep.sw1 (h2.cons (E := listsE (.slice none 0 0) []) ⟨Own.nil _ _ _ _, fun j u hj => by simp at hj, fun i j u u' _ hi => by simp at hi⟩ (fun g hg => ?_) (fun A _ g hg => ?_))
  · rcases hg with hg | ⟨j, u, hj, _⟩
    · cases hg
    · simp at hj
  · rcases hg with hg | ⟨j, u, hj, _⟩
    · cases hg
    · simp at hj
set_option maxRecDepth 100000 in
set_option maxHeartbeats 8000000 in
theorem pdec_any (va vc : Value) (b c : List UInt8) (w : World) (hb : RdB w va b) (hc : RdB w vc c) (hbl : b.length ≤ 140737488351232) (hcl : c.length ≤ 140737488351232) :
    Calls Try.prog 8 #[va, vc] w fun e w' => e = .returned (.bool true) ∧ Below w.heap.size w w' := by
  obtain ⟨VA, ca, rfl, _⟩ := hb.form
  obtain ⟨VC, cc, rfl, _⟩ := hc.form
  go_enter Try.func8, Try.ntmps8
  go_wp2_with fail
  refine (awake_any _).mono ?_
  rintro e w1 ⟨rfl, hw1⟩
  have HB := Lib.hid (hb.below hw1 (Nat.le_refl _))
  have HC := Lib.hid (hc.below hw1 (Nat.le_refl _))
  clear hb hc
  obtain ⟨n, hn⟩ : ∃ n, b.length = n := ⟨_, rfl⟩
  obtain ⟨m, hm⟩ : ∃ m, c.length = m := ⟨_, rfl⟩
  rw [hn] at hbl HB ⊢
  rw [hm] at hcl HC ⊢
  have HN := Lib.hid hn
  have HM := Lib.hid hm
  clear hn hm
  have hS1 := Sep.start w1
  have hL := LentB_sep hS1 (l := b) HB.out (by rw [HN.out]; omega)
  rw [HN.out] at hL
  go_upto_region 5 with (first
    | (go_at_call 26; refine hL.mono ?_; rintro e w2 ⟨g1, rfl, hS2⟩)
    | fail)
  clear hL hS1
  have hL := LentB_sep hS2 (l := c) (hS2.rd (v := w1) (by simp) HC.out) (by rw [HM.out]; omega)
  rw [HM.out] at hL
  go_upto_region 6 with (first
    | (go_at_call 26; refine hL.mono ?_; rintro e w3 ⟨g2, rfl, hS3⟩)
    | fail)
  clear hL hS2
  have hr : RdB w3 (.slice (some ⟨g1, 0, none⟩) n (n + 9)) b := lentC_rd0 (hS3.of_mem (E := bytesE (.slice (some ⟨g1, 0, none⟩) (n + 9) (n + 9)) (b ++ marks9)) (by simp)) HN.out
  have hD := PDec_sep hS3 hr
  go_upto_region 7 with (first
    | (go_at_call 20; refine hD.mono ?_; rintro e w4 ⟨k1, l1, u1, z1, rfl, hd1, hg1, hS4⟩)
    | fail)
  have HD1 := Lib.hid hd1
  have HG1 := Lib.hid hg1
  clear hr hD hS3 hd1 hg1
  have hr : RdB w4 (.slice (some ⟨g1, 0, none⟩) n (n + 9)) b := lentC_rd0 (hS4.of_mem (E := bytesE (.slice (some ⟨g1, 0, none⟩) (n + 9) (n + 9)) (b ++ marks9)) (by simp)) HN.out
  have hD := PDec_sep hS4 hr
  go_upto_region 8 with (first
    | (go_at_call 20; refine hD.mono ?_; rintro e w5 ⟨k2, l2, u2, z2, rfl, hd2, hg2, hS5⟩)
    | fail)
  have HD2 := Lib.hid hd2
  have HG2 := Lib.hid hg2
  clear hr hD hS4 hd2 hg2
  have hr : RdB w5 (.slice (some ⟨g2, 0, none⟩) m (m + 9)) c := lentC_rd0 (hS5.of_mem (E := bytesE (.slice (some ⟨g2, 0, none⟩) (m + 9) (m + 9)) (c ++ marks9)) (by simp)) HM.out
  have hD := PDec_sep hS5 hr
  go_upto_region 9 with (first
    | (go_at_call 20; refine hD.mono ?_; rintro e w6 ⟨k3, l3, u3, z3, rfl, hd3, hg3, hS6⟩)
    | fail)
  have HD3 := Lib.hid hd3
  have HG3 := Lib.hid hg3
  clear hr hD hS5 hd3 hg3
  have hr : RdB w6 (.slice (some ⟨g1, 0, none⟩) n (n + 9)) b := lentC_rd0 (hS6.of_mem (E := bytesE (.slice (some ⟨g1, 0, none⟩) (n + 9) (n + 9)) (b ++ marks9)) (by simp)) HN.out
  have hO := POpenZ hS6 hr
  go_upto_region 10 with (first
    | (go_at_call 21; refine hO.mono ?_; rintro e w7 ⟨pv, zf, PG, rfl, hpg, hS7⟩)
    | fail)
  have HPG := Lib.hid hpg
  clear hr hO hS6 hpg
  have hr : RdB w7 (.slice (some ⟨g1, 0, none⟩) n (n + 9)) b := lentC_rd0 (hS7.of_mem (E := bytesE (.slice (some ⟨g1, 0, none⟩) (n + 9) (n + 9)) (b ++ marks9)) (by simp)) HN.out
  have hD := PDec_sep hS7 hr
  go_upto_region 11 with (first
    | (go_at_call 20; refine hD.mono ?_; rintro e w8 ⟨k4, l4, u4, z4, rfl, hd4, hg4, hS8⟩)
    | fail)
  have HD4 := Lib.hid hd4
  have HG4 := Lib.hid hg4
  clear hr hD hS7 hd4 hg4
  have s1 := run_B_string (lentC_rd0 (hS8.of_mem (E := bytesE (.slice (some ⟨g1, 0, none⟩) (n + 9) (n + 9)) (b ++ marks9)) (by simp)) HN.out)
  have s2 := run_B_string (hS8.rd (v := w1) (by simp) HB.out)
  go_upto_region 12 with (fail)
  clear s1 s2
  have hSB : Sep w1 w8 (bytesE (.slice (some ⟨g1, 0, none⟩) (n + 9) (n + 9)) (b ++ marks9) :: [csE u4 l4, PG, csE u3 l3, csE u2 l2, csE u1 l1, bytesE (.slice (some ⟨g2, 0, none⟩) (m + 9) (m + 9)) (c ++ marks9), oldE w1]) := hS8.sw [_, _, _, _, _, _]
  have hrc := hSB.rd (v := w1) (by simp) HC.out
  have hbh : OwB w8 0 (.slice (some ⟨g1, 0, none⟩) (n + 9) (n + 9)) (b ++ marks9) := hSB.head
  have hlb : (b ++ marks9).length = n + 9 := by rw [List.length_append, HN.out]; rfl
  have HLB := Lib.hid hlb
  clear hlb hS8
  go_upto_region 13 with (first
    | ((with_reducible refine at_copy ?_); refine wp_copy_At rfl (.tmp 77) (.tmp 78) rfl 0 g1 (n + 9) (n + 9) 0 _ n (n + 9) rfl (fun _ => rfl) _ hbh HLB.out (by omega) _ c rfl hrc ?_; intro w9 hc9 hg9)
    | fail)
  have hov : splice (b ++ marks9) 0 (c.take (min c.length n)) = ovF b c ++ marks9 := by rw [← HN.out]; exact splice_ov b c marks9
  rw [hov] at hc9
  have hS9 : Sep w1 w9 (bytesE (.slice (some ⟨g1, 0, none⟩) (n + 9) (n + 9)) (ovF b c ++ marks9) :: [csE u4 l4, PG, csE u3 l3, csE u2 l2, csE u1 l1, bytesE (.slice (some ⟨g2, 0, none⟩) (m + 9) (m + 9)) (c ++ marks9), oldE w1]) := hSB.upd (E' := bytesE (.slice (some ⟨g1, 0, none⟩) (n + 9) (n + 9)) (ovF b c ++ marks9)) (Turn.of_grown hg9 (fun k e => e)) hc9 (fun g hg => ⟨.inl hg, (Own.lt hc9 g hg).2⟩)
  have HOL : Hid ((ovF b c).length = n) := Lib.hid (by rw [ovF_length, HN.out])
  clear hov hbh hrc hSB hc9 hg9
  have hr : RdB w9 (.slice (some ⟨g1, 0, none⟩) n (n + 9)) (ovF b c) := lentC_rd0 (hS9.of_mem (E := bytesE (.slice (some ⟨g1, 0, none⟩) (n + 9) (n + 9)) (ovF b c ++ marks9)) (by simp)) HOL.out
  have hD := PDec_sep hS9 hr
  go_upto_region 14 with (first
    | (go_at_call 20; refine hD.mono ?_; rintro e w10 ⟨k5, l5, u5, z5, rfl, hd5, hg5, hS10⟩)
    | fail)
  have HD5 := Lib.hid hd5
  have HG5 := Lib.hid hg5
  clear hr hD hS9 hd5 hg5
  have hr : RdB w10 (.slice (some ⟨g1, 0, none⟩) n (n + 9)) (ovF b c) := lentC_rd0 (hS10.of_mem (E := bytesE (.slice (some ⟨g1, 0, none⟩) (n + 9) (n + 9)) (ovF b c ++ marks9)) (by simp)) HOL.out
  go_upto_region 15 with (first
    | (at_builtin; refine wp_append_B rfl _ (.tmp 86) rfl 0 _ [] rfl (OwB.nil _ _) _ (ovF b c) rfl hr (by rw [HOL.out]; simp only [List.length_nil]; omega) (Nat.zero_le _) ?_; intro v11 w11 ho11 hg11 hk11)
    | fail)
  have hS11 := hS10.nil.appended ho11 hg11 hk11
  rw [List.nil_append] at hS11
  clear hr hS10 ho11 hg11 hk11
  have hT := told_any k1 z1 u1 _ l1 _ w11 (csE_rd (hS11.of_mem (E := csE u1 l1) (by simp)) HG1.out) HD1.out (hS11.rd (v := w1) (by simp) HB.out)
  go_upto_region 16 with (first
    | (go_at_call 27; refine hT.mono ?_; rintro e w12 ⟨rfl, hb⟩)
    | fail)
  have hS12 := hS11.below hb
  clear hT hS11 hb
  have hT := told_any k2 z2 u2 _ l2 _ w12 (csE_rd (hS12.of_mem (E := csE u2 l2) (by simp)) HG2.out) HD2.out (hS12.rd (v := w1) (by simp) HB.out)
  go_upto_region 17 with (first
    | (go_at_call 27; refine hT.mono ?_; rintro e w13 ⟨rfl, hb⟩)
    | fail)
  have hS13 := hS12.below hb
  clear hT hS12 hb
  have hT := told_any k3 z3 u3 _ l3 _ w13 (csE_rd (hS13.of_mem (E := csE u3 l3) (by simp)) HG3.out) HD3.out (hS13.rd (v := w1) (by simp) HC.out)
  go_upto_region 18 with (first
    | (go_at_call 27; refine hT.mono ?_; rintro e w14 ⟨rfl, hb⟩)
    | fail)
  have hS14 := hS13.below hb
  clear hT hS13 hb
  have hT := told_any k4 z4 u4 _ l4 _ w14 (csE_rd (hS14.of_mem (E := csE u4 l4) (by simp)) HG4.out) HD4.out (hS14.rd (v := w1) (by simp) HB.out)
  go_upto_region 19 with (first
    | (go_at_call 27; refine hT.mono ?_; rintro e w15 ⟨rfl, hb⟩)
    | fail)
  have hS15 := hS14.below hb
  clear hT hS14 hb
  have hT := told_any k5 z5 u5 _ l5 _ w15 (csE_rd (hS15.of_mem (E := csE u5 l5) (by simp)) HG5.out) HD5.out (show OwB w15 0 v11 (ovF b c) from hS15.of_mem (E := bytesE _ _) (by simp)).rd
  go_upto_region 20 with (first
    | (go_at_call 27; refine hT.mono ?_; rintro e w16 ⟨rfl, hb⟩)
    | fail)
  have hS16 := hS15.below hb
  clear hT hS15 hb
  have hSB : Sep w1 w16 (bytesE (.slice (some ⟨g1, 0, none⟩) (n + 9) (n + 9)) (ovF b c ++ marks9) :: [bytesE v11 (ovF b c), csE u5 l5, csE u4 l4, PG, csE u3 l3, csE u2 l2, csE u1 l1, bytesE (.slice (some ⟨g2, 0, none⟩) (m + 9) (m + 9)) (c ++ marks9), oldE w1]) := hS16.sw [_, _]
  have hA := AsLentB_sep hSB (vb := v11) HOL.out (show OwB w16 0 v11 (ovF b c) from hSB.of_mem (E := bytesE _ _) (by simp)).rd (by omega)
  go_upto_region 21 with (first
    | (go_at_call 28; refine hA.mono ?_; rintro e w17 ⟨rfl, hS17⟩)
    | fail)
  have hSC : Sep w1 w17 (bytesE (.slice (some ⟨g2, 0, none⟩) (m + 9) (m + 9)) (c ++ marks9) :: [bytesE v11 (ovF b c), csE u5 l5, csE u4 l4, PG, csE u3 l3, csE u2 l2, csE u1 l1, oldE w1]) := hS17.sw [_, _, _, _, _, _, _]
  clear hA hSB hS16 hS17
  have hA := AsLentB_sep hSC HM.out (hSC.rd (v := w1) (by simp) HC.out) (by omega)
  go_upto_region 22 with (first
    | (go_at_call 28; refine hA.mono ?_; rintro e w18 ⟨rfl, hS18⟩)
    | fail)
  clear hA hSC
  have hz := HPG.out.code HD1.out
  subst hz
  have hT1 : Sep w1 w18 (csE u4 l4 :: [bytesE v11 (ovF b c), csE u5 l5, PG, csE u3 l3, csE u2 l2, csE u1 l1, oldE w1]) := hS18.sw [_, _]
  have hT2 : Sep w1 w18 (csE u3 l3 :: [csE u4 l4, bytesE v11 (ovF b c), csE u5 l5, PG, csE u2 l2, csE u1 l1, oldE w1]) := hT1.sw [_, _, _, _]
  have hT3 : Sep w1 w18 (csE u2 l2 :: [csE u3 l3, csE u4 l4, bytesE v11 (ovF b c), csE u5 l5, PG, csE u1 l1, oldE w1]) := hT2.sw [_, _, _, _, _]
  have hT4 : Sep w1 w18 (csE u1 l1 :: [csE u2 l2, csE u3 l3, csE u4 l4, bytesE v11 (ovF b c), csE u5 l5, PG, oldE w1]) := hT3.sw [_, _, _, _, _, _]
  clear hS18 hT1 hT2 hT3
  rcases HPG.out with ⟨kp, lp, p, up, rfl, hz0, hyp, hrp, rfl⟩ | ⟨rfl, hz60, hnp⟩
  · subst hz0
    have HYP := Lib.hid hyp
    obtain ⟨y1, y2, y3, y4⟩ := hyp
    have hpe : (pgE p kp b.length (sizeF (pcs lp) : Nat) up lp).p w18 := hT4.of_mem (by simp)
    have hpb : OBlk w18 p 89 [.int .i64 kp, .int .i64 (b.length : Int), .int .i64 (sizeF (pcs lp) : Nat), up] := hpe.1 (blkE p 89 _) (by simp)
    have hpr : RdCs w18 up lp := csE_rd (hpe.1 (csE up lp) (by simp)) hrp
    have hP := isPowB_range y1
    obtain ⟨q1, q2⟩ := encE_zero.1 y3
    have hPB := PBytes_any p kp b.length _ up lp w18 hpb hpr y2 (by omega) (by omega) (fun x hx => may_ok (scan_may q1 x hx)) q2
    rw [y4] at hPB
    clear hpe hpb hpr hP q1 q2 y1 y2 y3 y4 hrp
    go_upto_region 26 with (first
      | (go_at_call 29; refine hPB.mono ?_; rintro e wx ⟨v19, rfl, ho19, hb19⟩)
      | fail)
    have hX := hT4.below hb19
    have s1 := run_B_string ho19.rd
    have s2 := run_B_string (hX.rd (v := w1) (by simp) HB.out)
    clear hPB hT4 ho19 hb19
    go_upto_region 28 with (fail)
    clear s1 s2
    have n1 := HD1.out.len.1
    have n2 := HD2.out.len.1
    have n3 := HD3.out.len.1
    have n4 := HD4.out.len.1
    have hB := hX.book6
    go_upto_region 29 with (fail)
    generalize hwb : wx.alloc (.cells #[.slice none 0 0, .slice none 0 0] 56) = w20 at *
    generalize wx.heap.size = bb at *
    clear hwb hX
    have hT := TakeAllC_sep hB (by simp only [List.length_append, List.length_nil, pairsC_length]; omega) (by simp)
    go_upto_region 30 with (first
      | (go_at_call 30; refine hT.mono ?_; rintro e w21 ⟨⟨_, rfl⟩, _, _, hB21⟩)
      | fail)
    clear hT hB
    have hT := TakeAllC_sep hB21 (by simp only [List.length_append, List.length_nil, pairsC_length]; omega) (by simp)
    go_upto_region 31 with (first
      | (go_at_call 30; refine hT.mono ?_; rintro e w22 ⟨⟨_, rfl⟩, _, _, hB22⟩)
      | fail)
    clear hT hB21
    have hT := TakeAllC_sep hB22 (by simp only [List.length_append, List.length_nil, pairsC_length]; omega) (by simp)
    go_upto_region 32 with (first
      | (go_at_call 30; refine hT.mono ?_; rintro e w23 ⟨⟨_, rfl⟩, _, _, hB23⟩)
      | fail)
    clear hT hB22
    have hT := TakeAllC_sep hB23 (by simp only [List.length_append, List.length_nil, pairsC_length]; omega) (by simp)
    go_upto_region 33 with (first
      | (go_at_call 30; refine hT.mono ?_; rintro e w24 ⟨⟨_, rfl⟩, _, _, hB24⟩)
      | fail)
    clear hT hB23
    have hO := Owned6_sep hB24 (by simp only [List.length_append, List.length_nil, pairsC_length]; omega) (fun p hp => by
      simp only [List.nil_append, List.mem_append] at hp
      rcases hp with ((hp | hp) | hp) | hp
      · exact HD1.out.len.2 p hp
      · exact HD2.out.len.2 p hp
      · exact HD3.out.len.2 p hp
      · exact HD4.out.len.2 p hp) (by simp) (fun p hp => by
      simp only [List.nil_append, List.mem_append, List.mem_singleton] at hp
      rcases hp with ((rfl | rfl) | rfl) | rfl <;> simp only <;> omega)
    go_wp2_with (first
      | (go_at_call 31; refine hO.mono ?_; rintro e w25 ⟨rfl, hB25⟩)
      | fail)
    go_ret
    exact ⟨rfl, hw1.trans ((hB25.belowOld (v := w1) (by simp)).mono hw1.size)⟩
  · subst hz60
    obtain ⟨wx, rfl⟩ : ∃ wx, wx = w18 := ⟨_, rfl⟩
    have hX := hT4
    clear hT4
    have n1 := HD1.out.len.1
    have n2 := HD2.out.len.1
    have n3 := HD3.out.len.1
    have n4 := HD4.out.len.1
    have hB := hX.book6
    go_upto_region 29 with (fail)
    generalize hwb : wx.alloc (.cells #[.slice none 0 0, .slice none 0 0] 56) = w20 at *
    generalize wx.heap.size = bb at *
    clear hwb hX
    have hT := TakeAllC_sep hB (by simp only [List.length_append, List.length_nil, pairsC_length]; omega) (by simp)
    go_upto_region 30 with (first
      | (go_at_call 30; refine hT.mono ?_; rintro e w21 ⟨⟨_, rfl⟩, _, _, hB21⟩)
      | fail)
    clear hT hB
    have hT := TakeAllC_sep hB21 (by simp only [List.length_append, List.length_nil, pairsC_length]; omega) (by simp)
    go_upto_region 31 with (first
      | (go_at_call 30; refine hT.mono ?_; rintro e w22 ⟨⟨_, rfl⟩, _, _, hB22⟩)
      | fail)
    clear hT hB21
    have hT := TakeAllC_sep hB22 (by simp only [List.length_append, List.length_nil, pairsC_length]; omega) (by simp)
    go_upto_region 32 with (first
      | (go_at_call 30; refine hT.mono ?_; rintro e w23 ⟨⟨_, rfl⟩, _, _, hB23⟩)
      | fail)
    clear hT hB22
    have hT := TakeAllC_sep hB23 (by simp only [List.length_append, List.length_nil, pairsC_length]; omega) (by simp)
    go_upto_region 33 with (first
      | (go_at_call 30; refine hT.mono ?_; rintro e w24 ⟨⟨_, rfl⟩, _, _, hB24⟩)
      | fail)
    clear hT hB23
    have hO := Owned6_sep hB24 (by simp only [List.length_append, List.length_nil, pairsC_length]; omega) (fun p hp => by
      simp only [List.nil_append, List.mem_append] at hp
      rcases hp with ((hp | hp) | hp) | hp
      · exact HD1.out.len.2 p hp
      · exact HD2.out.len.2 p hp
      · exact HD3.out.len.2 p hp
      · exact HD4.out.len.2 p hp) (by simp) (fun p hp => by
      simp only [List.nil_append, List.mem_append, List.mem_singleton] at hp
      rcases hp with ((rfl | rfl) | rfl) | rfl <;> simp only <;> omega)
    go_wp2_with (first
      | (go_at_call 31; refine hO.mono ?_; rintro e w25 ⟨rfl, hB25⟩)
      | fail)
    go_ret
    exact ⟨rfl, hw1.trans ((hB25.belowOld (v := w1) (by simp)).mono hw1.size)⟩
end Go.Proofs.Ytonbcipofakpjaa

-- The row's last step from 'Below' alone (the guide's small lemma 9).
namespace Go.Proofs.Ytonbcipofakpjaa
open Go.RowKit Go.WideShapes Go.ChangeShapes
section
variable {H : Type} {enc : TypeId × Value → H} {P : Program}
theorem post_of_below {f : Func} {s : ChangeSpec} {apart fresh handsOn again : Bool} {W W' : World} {args : Array Value} {v : Value} {ds gs : List (DataW H)} {before pa pv : List MemPlace}
    (hW : DataW.Whole enc P f.params.toList s.vars apart W args.toList ds gs before)
    (hres : ∀ (b : Nat) (sp : Nat → Bool) (hd : Bool), DataW.TrodAll enc P W' b sp hd f.resultTypes.toList (v.resultList f.resultTypes.size) (s.fn H (ds ++ gs)).results [])
    (hargs : ∀ sp : Nat → Bool, (∀ p ∈ before, sp p.block = true) → DataW.TrodAll enc P W' 0 sp true f.params.toList args.toList (s.fn H (ds ++ gs)).args pa)
    (hvars : ∀ sp : Nat → Bool, (∀ p ∈ before, sp p.block = true) → DataW.TrodVars enc P W' sp s.vars (s.fn H (ds ++ gs)).vars pv)
    (hps : before = pa ++ pv) (hb : Below W.heap.size W W')
    (hok : ∀ (j : Nat) (t : TypeId) (r : Value), f.resultTypes[j]? = some t → (v.resultList f.resultTypes.size)[j]? = some r → Value.okWide P W' .any 0 t r) :
    s.post enc P f apart fresh handsOn again W args v W' := by
  have hlt : ∀ p ∈ before, p.block < W.heap.size := fun p hp => hW.lt p hp
  have hold : ∀ p ∈ before, (fun b => decide (b < W.heap.size)) p.block = true := fun p hp => by simpa using hlt p hp
  refine ⟨ds, gs, before, [], pa, pv, hW, hres _ _ _, hargs _ hold, hvars _ hold, World.keptBut_mono (fun p hp => ⟨hp, ?_⟩) (hb.frame (· ∈ before)), fun _ => ?_⟩
  · rw [hps, List.mem_append] at hp
    exact Or.inr hp
  · obtain ⟨_, _, _, _, _, hz, hn⟩ := hW
    refine ⟨hok, _, _, ([] ++ pa) ++ pv, ⟨[] ++ pa, pv, trodAll_append (hargs _ (fun _ _ => rfl)) (hres _ _ _), hvars _ (fun _ _ => rfl), rfl, ?_, ?_⟩, ?_⟩
    · intro b off hp
      have hin : MemPlace.cell b off ∈ before := by rw [hps]; simpa using hp
      rw [hb.frozen (hlt _ hin)]
      exact hz b off hin
    · intro ha
      have := hn ha
      rw [hps] at this
      simpa using this
    · intro p hp _
      rw [hps]
      simpa using hp
end
end Go.Proofs.Ytonbcipofakpjaa

-- A law that returns true and changes nothing below: from its walk to the row's own form.
namespace Go.Proofs.Ytonbcipofakpjaa
open Go.RowKit Go.WideShapes Go.ChangeShapes Go.Joins
section
variable {H : Type} {enc : TypeId × Value → H} {P : Program}
theorem trodAll_stays (hl : laidOutB P = true) {W W' : World} {sp' : Nat → Bool} : ∀ {ts : List TypeId} {vs : List Value} {ds : List (DataW H)} {ps : List MemPlace}, (ts.all fun t => P.readableRec t && decide (t < P.types.size)) = true →
    DataW.TrodAll enc P W 0 (fun _ => true) true ts vs ds ps → (∀ p ∈ ps, W.sameAt W' p) → (∀ p ∈ ps, sp' p.block = true) → DataW.TrodAll enc P W' 0 sp' true ts vs ds ps
  | [], [], [], _, _, h, _, _ => h
  | t :: ts, _ :: _, _ :: _, _, hr, ⟨p, q, h1, h2, e⟩, hk, hs => by
    simp only [List.all_cons, Bool.and_eq_true, decide_eq_true_eq] at hr
    obtain ⟨⟨hr1, hr2⟩, hr3⟩ := hr
    exact ⟨p, q, WideElems.Trod_stays hl hr1 hr2 h1 (fun x hx => hk x (by rw [e]; exact List.mem_append_left _ hx)) (fun x hx => hs x (by rw [e]; exact List.mem_append_left _ hx)),
      trodAll_stays hl hr3 h2 (fun x hx => hk x (by rw [e]; exact List.mem_append_right _ hx)) (fun x hx => hs x (by rw [e]; exact List.mem_append_right _ hx)), e⟩
theorem trodAll_len {w : World} {base : Nat} {spare : Nat → Bool} {held : Bool} : ∀ {ts : List TypeId} {vs : List Value} {ds : List (DataW H)} {ps : List MemPlace}, DataW.TrodAll enc P w base spare held ts vs ds ps → ds.length = ts.length
  | [], [], [], _, _ => rfl
  | _ :: _, _ :: _, _ :: _, _, ⟨_, _, _, h2, _⟩ => by simp [trodAll_len h2]
theorem law_post {fn : Func} {s : ChangeSpec} {tb : TypeId} {W W' : World} {args : Array Value} {ds gs : List (DataW H)} {before : List MemPlace} (hvars : s.vars = []) (hrt : fn.resultTypes = #[tb]) (htb : P.underlying tb = some .bool) (hl : laidOutB P = true)
    (hr : (fn.params.toList.all fun t => P.readableRec t && decide (t < P.types.size)) = true) (hs : ∀ ds : List (DataW H), ds.length = fn.params.size → s.fn H ds = { results := [.lit (.bool true)], args := ds })
    (hW : DataW.Whole enc P fn.params.toList s.vars false W args.toList ds gs before) (hb : Below W.heap.size W W') : s.post enc P fn false true false false W args (.bool true) W' := by
  have hW' := hW
  obtain ⟨p, q, hA, hV, rfl, hfz, hnd⟩ := hW
  rw [hvars] at hV
  obtain ⟨rfl, rfl⟩ := trodVars_none hV
  have hlen : ds.length = fn.params.size := by simpa using trodAll_len hA
  have hfn := hs ds hlen
  have hlt : ∀ x ∈ p, x.block < W.heap.size := fun x hx => hW'.lt x (List.mem_append_left _ hx)
  refine post_of_below (pa := p) (pv := []) hW' ?_ ?_ ?_ (by simp) hb (ok_one hrt rfl (okWide_bool_mk htb _))
  · intro b sp hd
    rw [List.append_nil, hfn, hrt]
    exact trodAll_cons_mk (shut_bool htb _) trodAll_mk0
  · intro sp hsp
    rw [List.append_nil, hfn]
    exact trodAll_stays hl hr hA (fun x hx => hb.same (hlt x hx)) (fun x hx => hsp x (List.mem_append_left _ hx))
  · intro sp _
    rw [List.append_nil, hfn, hvars]
    exact (rfl : DataW.TrodVars enc P W' sp [] [] [])
end
theorem law_lifts {H : Type} {enc : TypeId × Value → H} {C : Checked} {os : Os} {fno : FuncId} {fn : Func} {s : ChangeSpec} {conds : List PathCond} {tb : TypeId}
    (own : ownKnob C.prog.godebug = none) (started : os.Started) (noInit : C.prog.inits.idxOf? fno = none) (hfn : C.prog.funcs[fno]? = some fn)
    (witness : ∃ (w : World) (tape : Tape) (i : Input), w.os = os ∧ (w.forCall tape i).Shaped C.prog ∧ i.vars = [] ∧ Input.okWide C.prog (w.forCall tape i) .any w.heap.size fno i ∧
      s.pre6 enc C.prog fn conds false (w.forCall tape i).memory i.args ∧ ({} : Assume).holds C.prog (lone (Frame.enter C.prog fno i.args .normal) [] (w.forCall tape i)))
    (hvars : s.vars = []) (hrt : fn.resultTypes = #[tb]) (htb : C.prog.underlying tb = some .bool) (hl : laidOutB C.prog = true)
    (hr : (fn.params.toList.all fun t => C.prog.readableRec t && decide (t < C.prog.types.size)) = true) (hs : ∀ ds : List (DataW H), ds.length = fn.params.size → s.fn H ds = { results := [.lit (.bool true)], args := ds })
    (walk : ∀ (W : World) (base : Nat) (args : Array Value) (ds : List (DataW H)) (p : List MemPlace), (∀ (j : Nat) t v, fn.params[j]? = some t → args[j]? = some v → Value.okWide C.prog W .any base t v) →
      DataW.TrodAll enc C.prog W 0 (fun _ => true) true fn.params.toList args.toList ds p → (DataW.weightsEach C.prog fn.params.toList ds).all (· ≤ reachBytes) = true →
      Calls C.prog fno args W fun e W' => e = .returned (.bool true) ∧ Below W.heap.size W W') :
    ReturnsInHanded {} C os fno .any (s.pre6 enc C.prog fn conds false) (s.post enc C.prog fn false true false false) := by
  refine returnsInHanded_of_change_sized own started noInit hfn witness ?_
  intro W base args ds gs before hval hW _ hsz _
  have hW' := hW
  obtain ⟨p, q, hA, hV, _, _, _⟩ := hW
  rw [hvars] at hV
  obtain ⟨rfl, rfl⟩ := trodVars_none hV
  have hv : s.plain.varTypes C.prog = [] := by
    unfold ChangeSpec.plain DataSpec.varTypes
    simp [hvars]
  rw [hv, List.append_nil, List.append_nil] at hsz
  refine (walk W base args ds p hval hA hsz).mono fun e W' h => ?_
  obtain ⟨rfl, hb⟩ := h
  exact ⟨_, rfl, law_post hvars hrt htb hl hr hs hW' hb⟩
section
variable {H : Type} {enc : TypeId × Value → H} {W : World}
theorem cells_u8 : Try.prog.cellsOf 5 = 1 := by kernel_rfl
theorem bytes_u8 : Try.prog.bytesOf 5 = 1 := by kernel_rfl
set_option maxRecDepth 100000 in
/-- An argument of type []byte. -/
theorem open_bytes {base : Nat} {v : Value} {d : DataW H} {p : List MemPlace} {ts : List TypeId} {ds : List (DataW H)} {j : Nat} (hv : Value.okWide Try.prog W .any base 27 v) (h : DataW.Trod enc Try.prog W 0 (fun _ => true) true 27 v d p)
    (hsz : (DataW.weightsEach Try.prog ts ds).all (· ≤ reachBytes) = true) (ht : ts[j]? = some 27) (hd : ds[j]? = some d) :
    ∃ l : List UInt8, RdB W v l ∧ l.length ≤ 140737488351232 := by
  obtain ⟨a0, len, cap, rfl⟩ := okWide_slice Try.underlying27 hv
  obtain ⟨fuel, hf⟩ := h
  rcases open_ints Try.underlying27 Try.underlying5 cells_u8 hf with ⟨hcs, _⟩ | ⟨a, len', cap', zs, hcs, _, hl, hm, hz, hx, hcell, hwz⟩
  · simp [Value.cells] at hcs
    obtain ⟨rfl, rfl, rfl⟩ := hcs
    exact ⟨[], RdB.nil, by simp⟩
  · simp [Value.cells] at hcs
    obtain ⟨rfl, rfl, rfl⟩ := hcs
    simp only [if_true] at hz
    simp only [Prod.mk.injEq] at hx
    obtain ⟨rfl, _⟩ := hx
    have hs := sized_slice hsz ht hd Try.underlying27
    rw [bytes_u8] at hs
    simp only [lits, List.length_map, List.length_take, List.length_drop, reachBytes] at hs
    refine ⟨(zs.take len).map fun z => UInt8.ofNat z.toNat, ?_, by simp; omega⟩
    have hlen : ((zs.take len).map fun z => UInt8.ofNat z.toNat).length = len := by simp; omega
    refine ⟨some a, cap, by rw [hlen], by rw [hlen]; exact hl, hm, fun j hj => ⟨a, rfl, ?_⟩⟩
    rw [hlen] at hj
    rw [hcell j (by omega)]
    have hjz : j < zs.length := by omega
    have hmem : zs[j] ∈ zs := List.getElem_mem hjz
    have hw := hwz _ hmem
    have hg : zs.getD j 0 = zs[j] := by simp [List.getD, hjz]
    rw [hg]
    simp [Lit.wf, IntKind.min, IntKind.max, IntKind.signed, IntKind.bits] at hw
    simp
    omega
end
end Go.Proofs.Ytonbcipofakpjaa

-- The bounds of an integer that came in; a row whose statement bears the bound on the bulk.
namespace Go.Proofs.Ytonbcipofakpjaa
open Go.RowKit Go.WideShapes Go.ChangeShapes
theorem wf_i64 {n : Int} (h : (Lit.int .i64 n).wf = true) : -9223372036854775808 ≤ n ∧ n ≤ 9223372036854775807 := by
  simp [Lit.wf, IntKind.min, IntKind.max, IntKind.signed, IntKind.bits] at h
  exact h
theorem wf_u64 {n : Int} (h : (Lit.int .u64 n).wf = true) : ∃ k : Nat, n = (k : Int) ∧ k < 18446744073709551616 := by
  simp [Lit.wf, IntKind.min, IntKind.max, IntKind.signed, IntKind.bits] at h
  exact ⟨n.toNat, by omega, by omega⟩
theorem wf_u32 {n : Int} (h : (Lit.int .u32 n).wf = true) : ∃ k : Nat, n = (k : Int) ∧ k < 4294967296 := by
  simp [Lit.wf, IntKind.min, IntKind.max, IntKind.signed, IntKind.bits] at h
  exact ⟨n.toNat, by omega, by omega⟩
end Go.Proofs.Ytonbcipofakpjaa

-- espalierlaw06.PlainDecodes: the statement 'PlainDecodesSaid' is proved: whatever the input, the law returns true and the input reads as it did.
namespace Go.Proofs.Ytonbcipofakpjaa.plainDecodes
open Go.ChangeShapes Go.WideShapes Go.ChangeAt Go.RowKit
theorem own : ownKnob Try.prog.godebug = none := by kernel_rfl
theorem laidOut : laidOutB Try.prog = true := by kernel_rfl
set_option maxRecDepth 100000 in
theorem lifted (os : Os) (started : os.Started) (H : Type) (enc : TypeId × Value → H) :
    ReturnsInHanded {} Try.checked os 8 .any (Rows.plainDecodesSpec.pre6 enc Try.prog Try.f8 Rows.plainDecodesRow.domain false) (Rows.plainDecodesSpec.post enc Try.prog Try.f8 false true false false) := by
  refine law_lifts (C := Try.checked) (tb := 4) own started (by kernel_rfl) Try.func8
    (ChangeSpec.witness6 (enc := enc) (C := Try.checked) false ⟨#[], #[.slice none 0 0, .slice none 0 0], []⟩ 8 (by kernel_rfl) (by kernel_rfl) (by kernel_rfl) (by kernel_rfl))
    rfl rfl Try.underlying4 laidOut (by kernel_rfl) (fun ds hd => ?_) ?_
  · match ds, hd with
    | [d0, d1], _ => rfl
  · intro W base args ds p hval0 hA0 hsz0
    have hval : ∀ (j : Nat) t v, Try.f8.params[j]? = some t → args[j]? = some v → Value.okWide Try.prog W .any base t v := hval0
    have hA : DataW.TrodAll enc Try.prog W 0 (fun _ => true) true Try.f8.params.toList args.toList ds p := hA0
    have hsz : (DataW.weightsEach Try.prog Try.f8.params.toList ds).all (· ≤ reachBytes) = true := hsz0
    clear hval0 hA0 hsz0
    rw [Try.params8] at hA hval hsz
    obtain ⟨v0, v1, d0, d1, p0, p1, rfl, rfl, rfl, h0, h1⟩ := trodAll_two hA
    obtain ⟨l, hl, hln⟩ := open_bytes (hval 0 _ v0 rfl rfl) h0 hsz (j := 0) rfl rfl
    obtain ⟨m, hm, hmn⟩ := open_bytes (hval 1 _ v1 rfl rfl) h1 hsz (j := 1) rfl rfl
    exact pdec_any v0 v1 l m W hl hm hln hmn
theorem proved : Rows.PlainDecodesSaid :=
  OpenClaim.holds_of_wide 8 Try.f8 rfl rfl rfl rfl rfl rfl rfl ⟨rfl, rfl, rfl, rfl, rfl⟩ rfl rfl rfl rfl rfl (by kernel_rfl) Try.func8 (by kernel_rfl)
    (of_decide_eq_true (by kernel_rfl)) (by unfold Func.isWrapper; first | (rw [if_pos (by decide +kernel)]; kernel_rfl) | (rw [if_neg (by decide +kernel)]; exact ⟨rfl, rfl⟩))
    (fun os started H enc _ => lifted os started H enc)
end Go.Proofs.Ytonbcipofakpjaa.plainDecodes
