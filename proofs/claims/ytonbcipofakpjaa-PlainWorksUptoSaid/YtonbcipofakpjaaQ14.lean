/- Texts joined: (*espalierref06.Book).TakeAll; Decode, Open, Bytes of a page, in the words of pieces; told.; Pieces picked by number; A page that is worked on, in words of pieces.; plain.Page.Insert, in words of pieces; plain.Page.Set, in words of pieces; plain.Page.Remove and Cell, in words of pieces -/
import Derived.Test.YtonbcipofakpjaaQ5
import Derived.Test.YtonbcipofakpjaaQ6
import Derived.Test.YtonbcipofakpjaaQ7
import Derived.Test.YtonbcipofakpjaaQ8
import Derived.Test.YtonbcipofakpjaaQ13
-- (*espalierref06.Book).TakeAll: the walk.
namespace Go.Proofs.Ytonbcipofakpjaa
open Go.RowKit
theorem own5 {w : World} {b n c : Nat} {A : Option Addr} {l : List CV} (h : Own w b 32 5 (.slice A n c) l.length (flatC l)) (hn : n = l.length) {k : Nat} (hk : k < l.length) :
    ∃ g, A = some ⟨g, 0, none⟩ ∧ w.cell? ⟨g, k * 5, none⟩ = some l[k].kv ∧ w.cell? ⟨g, k * 5 + 1, none⟩ = some (.int .i64 l[k].c.kind) ∧ w.cell? ⟨g, k * 5 + 2, none⟩ = some l[k].vv ∧ w.cell? ⟨g, k * 5 + 3, none⟩ = some (.int .i64 l[k].c.page) ∧ w.cell? ⟨g, k * 5 + 4, none⟩ = some (.int .i64 l[k].c.count) := by
  subst hn
  obtain ⟨g, rfl⟩ := h.some' (by omega)
  refine ⟨g, rfl, h.cells (k * 5) _ (flatC_at l k 0 hk (by omega)), h.cells (k * 5 + 1) _ (flatC_at l k 1 hk (by omega)), h.cells (k * 5 + 2) _ (flatC_at l k 2 hk (by omega)), h.cells (k * 5 + 3) _ (flatC_at l k 3 hk (by omega)), h.cells (k * 5 + 4) _ (flatC_at l k 4 hk (by omega))⟩
theorem ApartL.snoc {vs : List Value} {u : Value} (h : ApartL vs) (hu : ∀ g, u.ownBlock = some g → ¬ InL vs g) : ApartL (vs ++ [u]) := by
  have split : ∀ (i : Nat) (y : Value), (vs ++ [u])[i]? = some y → (i < vs.length ∧ vs[i]? = some y) ∨ (i = vs.length ∧ y = u) := fun i y hi => by
    rcases Nat.lt_or_ge i vs.length with hlt | hge
    · rw [List.getElem?_append_left hlt] at hi
      exact .inl ⟨hlt, hi⟩
    · rw [List.getElem?_append_right hge] at hi
      have h0 : i = vs.length := by
        have := (List.getElem?_eq_some_iff.mp hi).1
        simp at this; omega
      subst h0
      simp at hi
      exact .inr ⟨rfl, hi.symm⟩
  intro i j y y' hij hi hj g hg e
  rcases split i y hi with ⟨h1, h2⟩ | ⟨h1, rfl⟩
  · rcases split j y' hj with ⟨h3, h4⟩ | ⟨h3, rfl⟩
    · exact h i j y y' hij h2 h4 g hg e
    · exact hu g e.symm ⟨i, y, h2, hg⟩
  · rcases split j y' hj with ⟨h3, h4⟩ | ⟨h3, rfl⟩
    · exact hu g hg ⟨j, y', h4, e.symm⟩
    · omega
/-- A list comes behind the lists. -/
theorem Sep.lists {w0 w w' : World} {L : List Ent} {lv lv' u : Value} {ls : List (Value × Nat)} {n : Nat} {xs : List Value} (h : Sep w0 w (listsE lv ls :: ownE 32 5 u n xs :: L))
    (ho : Own w' 0 25 1 lv' ((ls.map Prod.fst).length + 1) (ls.map Prod.fst ++ [u])) (hg : w.grownBy w' lv.ownBlock) (hk : lv'.ownBlock = lv.ownBlock ∨ ∃ s, w.heap.size ≤ s ∧ lv'.ownBlock = some s) : Sep w0 w' (listsE lv' (ls ++ [(u, n)]) :: L) := by
  have hL : ListsAt w lv ls := h.head
  have hU : Own w 0 32 5 u n xs := h.tail.head
  have hTT : 32 ≠ 25 := by decide
  have hsz := hg.size
  have hU' : Own w' 0 32 5 u n xs := hU.grown hg (fun g hg' e => by
    obtain ⟨cs, h1⟩ := Own.oblk hL.own e.symm
    obtain ⟨cs2, h2⟩ := hU.oblk hg'
    exact h2.ne h1 hTT rfl)
  have hE' : ∀ (j : Nat) (y : Value), (ls.map Prod.fst)[j]? = some y → OwQ w' y (lnF ls j) 0 0 := fun j y hj => (hL.each j y hj).grown hg (fun g hg' => (hL.each j y hj).ne_own hL.own hTT g hg')
  refine h.join.upd (E' := listsE lv' (ls ++ [(u, n)])) ((Turn.of_grown hg (fun _ e => e)).mono fun b hb => .inl (.inl hb)) ⟨by simpa using ho, fun j y hj => ?_, ?_⟩ (fun g hg' => ?_)
  · rw [List.map_append, List.map_cons, List.map_nil] at hj
    rcases Nat.lt_or_ge j (ls.map Prod.fst).length with hlt | hge
    · rw [List.getElem?_append_left hlt] at hj
      have e1 : lnF (ls ++ [(u, n)]) j = lnF ls j := by
        rw [List.length_map] at hlt
        simp [lnF, List.getD, List.getElem?_append_left hlt]
      rw [e1]; exact hE' j y hj
    · rw [List.getElem?_append_right hge] at hj
      have h0 : j = ls.length := by
        have := (List.getElem?_eq_some_iff.mp hj).1
        simp at this hge; omega
      subst h0
      simp at hj
      subst hj
      have e1 : lnF (ls ++ [(u, n)]) ls.length = n := by simp [lnF, List.getD]
      rw [e1]
      exact ⟨xs, hU', fun k hk => absurd hk (Nat.not_lt_zero _)⟩
  · rw [List.map_append, List.map_cons, List.map_nil]
    exact hL.apart.snoc (fun g hg' hin => h.far (List.mem_cons_self ..) g (.inr hin) hg')
  · rcases hg' with hg' | ⟨j, y, hj, hy⟩
    · refine ⟨?_, (Own.lt ho g hg').2⟩
      rcases hk with e | ⟨s, hs, e⟩
      · exact .inl (.inl (.inl (e.symm.trans hg' : lv.ownBlock = some g)))
      · right
        have := e.symm.trans hg'
        injection this with this
        omega
    · rw [List.map_append, List.map_cons, List.map_nil, List.getElem?_append] at hj
      split at hj
      · exact ⟨.inl (.inl (.inr ⟨j, y, hj, hy⟩)), (hE' j y hj).lt g hy⟩
      · rw [List.getElem?_singleton] at hj
        split at hj
        · injection hj with hj
          rw [← hj] at hy
          exact ⟨.inl (.inr hy), (Own.lt hU' g hy).2⟩
        · cases hj
theorem bookT_rest {T : TypeId} {w0 w : World} {L : List Ent} {bb : Nat} {v lv lv' : Value} {xs : List (Value × List UInt8)} (hT1 : 5 ≠ T) (hT2 : 27 ≠ T) (h : Sep w0 w (bookTE T bb [lv] v xs :: L)) : Sep w0 (w.setCell ⟨bb, 1, none⟩ lv') (bookTE T bb [lv'] v xs :: L) := by
  have hB : BookAt w 0 bb v (xs.map Prod.fst) (bkF xs) T [lv] := h.head
  have hg := grownBy_setCell w ⟨bb, 1, none⟩ lv'
  refine h.upd (E' := bookTE T bb [lv'] v xs) ((Turn.of_grown hg (fun k e => (Option.some.inj e).symm)).mono fun b hb => .inl hb) ⟨by have := hB.blk.set 1 lv'; simpa using this, hB.own.grown hg (fun g hg' e => hB.own.ne_Tb hB.blk hT2 (by rw [hg', e])), fun j u hj => Own.grown (hB.each j u hj) hg (fun g hg' e => OwB.ne_blk (hB.each j u hj) hB.blk hT1 (by rw [hg', e])), hB.apart⟩ (fun g hg' => ⟨.inl hg', ?_⟩)
  have h1 := h.lt g hg'
  have h2 := hg.size
  omega
set_option maxRecDepth 100000 in
set_option maxHeartbeats 8000000 in
theorem TakeAll6_sep {w0 w : World} {L : List Ent} {bb : Nat} {v lv u : Value} {xs : List (Value × List UInt8)} {ls : List (Value × Nat)} {l : List CV} (h : Sep w0 w (bookTE 56 bb [lv] v xs :: listsE lv ls :: ownE 32 5 u l.length (flatC l) :: (cellsE l ++ L)))
    (hn : xs.length + 2 * l.length ≤ 8000000) (hn2 : ls.length ≤ 1000000) :
    Calls Try.prog 30 #[.pointer (some ⟨bb, 0, none⟩), u] w fun e w' => (∃ y, e = .returned y) ∧ ∃ v' lv', Sep w0 w' (bookTE 56 bb [lv'] v' (xs ++ pairsC l) :: listsE lv' (ls ++ [(u, l.length)]) :: L) := by
  have hU0 : Own w 0 32 5 u l.length (flatC l) := h.tail.tail.head
  obtain ⟨A, c, rfl⟩ := hU0.slice
  have hnl : l.length ≤ 4000000 := by omega
  clear hU0
  go_enter Try.func30, Try.ntmps30
  go_wp2_with fail
  go_loopw [4] (fun i wr => ∃ (k : Nat) (v' : Value), k ≤ l.length ∧ i = .int .i64 (k : Int) ∧ Sep w0 wr (bookTE 56 bb [lv] v' (xs ++ pairsC (l.take k)) :: listsE lv ls :: ownE 32 5 (.slice A l.length c) l.length (flatC l) :: (cellsE (l.drop k) ++ L))) (fun i _ => l.length - (intOf i).toNat)
  case atStart => exact ⟨0, v, Nat.zero_le _, rfl, by simpa [pairsC] using h⟩
  case round =>
    clear h
    obtain ⟨k, v', hk, rfl, h⟩ := hrel
    by_cases hlt : k < l.length
    · have ik : (k : Int) < (l.length : Int) := by omega
      obtain ⟨g, rfl, c0, c1, c2, c3, c4⟩ := own5 (show Own wr 0 32 5 (.slice A l.length c) l.length (flatC l) from h.tail.tail.head) rfl hlt
      rw [cellsE_drop l hlt] at h
      have hS := Sep.sn [_, _, _] (Sep.sn [_, _] h)
      have hpl : (pairsC (l.take k)).length ≤ 2 * l.length := by rw [pairsC_length, List.length_take]; omega
      have hT := Take6_sep (x := l[k]) (Sep.sn [_] hS) (by rw [List.length_append]; omega)
      rw [List.append_assoc xs, List.append_assoc xs, ← pairsC_snoc l hlt] at hT
      unfold cellV at hT
      clear hS hpl h
      go_upto_region 2 with (first
        | (go_at_call 61; refine hT.mono ?_; rintro e w3 ⟨⟨_, rfl⟩, v3, hS3⟩)
        | fail)
      clear hT c0 c1 c2 c3 c4
      go_wp2_with fail
      exact ⟨⟨k + 1, v3, by omega, by go_num, hS3⟩, by simp [intOf]; omega⟩
    · obtain rfl : k = l.length := by omega
      rw [List.take_length, List.drop_length] at h
      have h : Sep w0 wr (bookTE 56 bb [lv] v' (xs ++ pairsC l) :: listsE lv ls :: ownE 32 5 (.slice A l.length c) l.length (flatC l) :: L) := h
      have hB : BookAt wr 0 bb v' ((xs ++ pairsC l).map Prod.fst) (bkF (xs ++ pairsC l)) 56 [lv] := h.head
      have hblk := hB.blk
      have hown : Own wr 0 25 1 lv (ls.map Prod.fst).length (ls.map Prod.fst) := (show ListsAt wr lv ls from h.tail.head).own
      obtain ⟨LA, lc, rfl⟩ := hown.slice
      have c1 := hblk.cell' (j := 1) rfl
      have hlm : (ls.map Prod.fst).length ≤ 1000000 := by rw [List.length_map]; exact hn2
      have hTB : 25 ≠ 56 := by decide
      have HS := Lib.hid h
      clear h hB
      generalize hvs : ls.map Prod.fst = vs at *
      have HVS := Lib.hid hvs
      clear hvs
      go_wp2_with (first
        | (at_builtin; refine wp_append_LC rfl (.tmp 21) (.tmp 23) rfl 0 _ vs rfl hown (.slice A l.length c) rfl 25 rfl (by omega) (Nat.zero_le _) ?_; intro lv4 w4 ho4 hg4 hk4; obtain ⟨LB, ld, rfl⟩ := Own.slice ho4; have hb4 := hblk.grown hg4 (fun e => hown.ne_Tb hblk hTB e); have d1 := hb4.cell' (j := 1) rfl; have f1 := hb4.frozen (j := 1) (by simp))
        | fail)
      refine bodyPost_end (results_none rfl _ _ _) rfl ?_
      have hS := (Sep.sw1 HS.out)
      have hL : ls.map Prod.fst = vs := HVS.out
      subst hL
      have hS4 := Sep.lists (h := hS.sn [_]) (lv' := .slice LB ((ls.map Prod.fst).length + 1) ld) ho4 hg4 (hk4.imp id (fun e => ⟨_, by omega, e⟩))
      exact ⟨⟨_, rfl⟩, v', _, bookT_rest (by decide) (by decide) hS4.sw1⟩
end Go.Proofs.Ytonbcipofakpjaa

-- Decode, Open, Bytes of a page, in the words of pieces; told.
namespace Go.Proofs.Ytonbcipofakpjaa
open Go.RowKit
def RngC (l : List CV) : Prop := ∀ x ∈ l, i64r x.c.kind ∧ i64r x.c.page ∧ i64r x.c.count
/-- Cells of the call's own, with their bytes. -/
def csE (u : Value) (l : List CV) : Ent := allE (ownE 32 5 u l.length (flatC l) :: cellsE l)
theorem csE_rd {w : World} {u : Value} {l : List CV} (h : (csE u l).p w) (hr : RngC l) : RdCs w u l := by
  have ho : Own w 0 32 5 u l.length (flatC l) := h.1 _ (List.mem_cons_self ..)
  refine ⟨ho.rd, fun x hx => ?_⟩
  have hk : OwB w 0 x.kv x.c.key := h.1 (bytesE x.kv x.c.key) (List.mem_cons_of_mem _ (List.mem_flatMap.2 ⟨x, hx, by simp⟩))
  have hv : OwB w 0 x.vv x.c.val := h.1 (bytesE x.vv x.c.val) (List.mem_cons_of_mem _ (List.mem_flatMap.2 ⟨x, hx, by simp⟩))
  exact ⟨hk.rd, hv.rd, (hr x hx).1, (hr x hx).2.1, (hr x hx).2.2⟩
/-- What is told of bytes. -/
def DecR (b : List UInt8) (kind : Int) (l : List PC) (e : Int) : Prop := (isPln b kind l ∧ e = 0) ∨ ((∀ k l', ¬ isPln b k l') ∧ kind = 0 ∧ l = [] ∧ e = 60)
theorem DecR.same {b : List UInt8} {k k' : Int} {l l' : List PC} {e e' : Int} (h : DecR b k l e) (h' : DecR b k' l' e') : k = k' ∧ l = l' ∧ e = e' := by
  rcases h with ⟨h1, rfl⟩ | ⟨h1, rfl, rfl, rfl⟩
  · rcases h' with ⟨h2, rfl⟩ | ⟨h2, _⟩
    · obtain ⟨a1, a2⟩ := isPln_parse h1
      obtain ⟨b1, b2⟩ := isPln_parse h2
      rw [a1] at b1
      injection b1 with b1
      exact ⟨a2.symm.trans b2, b1, rfl⟩
    · exact absurd h1 (h2 _ _)
  · rcases h' with ⟨h2, _⟩ | ⟨h2, rfl, rfl, rfl⟩
    · exact absurd h2 (h1 _ _)
    · exact ⟨rfl, rfl, rfl⟩
theorem PDec_sep {w0 w : World} {L : List Ent} {v : Value} {b : List UInt8} (h : Sep w0 w L) (hv : RdB w v b) :
    Calls Try.prog 20 #[v] w fun e w' => ∃ (kind : Int) (l : List CV) (u : Value) (z : Int), e = .returned (.tuple #[.int .i64 kind, u, .int .i64 z]) ∧ DecR b kind (pcs l) z ∧ RngC l ∧ Sep w0 w' (csE u l :: L) := by
  refine (PDecode_any v b w hv).mono ?_
  rintro e w' ⟨hb, ⟨kind, l, u, hy, rfl, hO⟩ | ⟨hn, rfl⟩⟩
  · exact ⟨kind, l, u, 0, rfl, .inl ⟨hy, rfl⟩, hO.rng, (h.cells hb hO).pack (D := ownE 32 5 u l.length (flatC l) :: cellsE l)⟩
  · refine ⟨0, [], _, 60, rfl, .inr ⟨hn, rfl, rfl, rfl⟩, by simp [RngC], (h.cells hb (OwCs.nil w' w.heap.size)).pack (D := ownE 32 5 (.slice none 0 0) 0 (flatC []) :: cellsE [])⟩
theorem RDecZ (v : Value) (b : List UInt8) (w : World) (hv : RdB w v b) :
    Calls Try.prog 60 #[v] w fun e w' => ∃ (kind : Int) (l : List CV) (u : Value) (z : Int), e = .returned (.tuple #[.int .i64 kind, u, .int .i64 z]) ∧ DecR b kind (pcs l) z ∧ OwM w' w.heap.size u l ∧ Below w.heap.size w w' := by
  refine (RDecode_any v b w hv).mono ?_
  rintro e w' ⟨hb, ⟨kind, l, u, hy, rfl, hO⟩ | ⟨hn, rfl⟩⟩
  · exact ⟨kind, l, u, 0, rfl, .inl ⟨hy, rfl⟩, hO, hb⟩
  · exact ⟨0, [], _, 60, rfl, .inr ⟨hn, rfl, rfl, rfl⟩, OwM.nil _ _, hb⟩
set_option maxRecDepth 100000 in
set_option maxHeartbeats 4000000 in
theorem told_any (kind z : Int) (u vb : Value) (l : List CV) (b : List UInt8) (w : World) (hl : RdCs w u l) (hd : DecR b kind (pcs l) z) (hb : RdB w vb b) :
    Calls Try.prog 27 #[.int .i64 kind, u, .int .i64 z, vb] w fun e w' => e = .returned (.bool true) ∧ Below w.heap.size w w' := by
  have hr := RDecZ vb b w hb
  obtain ⟨A, c, rfl, hm⟩ := hb.form
  obtain ⟨B, d, rfl, hm2, hd2⟩ := hl.slice
  have HD := Lib.hid hd
  clear hd
  go_enter Try.func27, Try.ntmps27
  go_upto_region 2 with (first
    | (go_at_call 60; refine hr.mono ?_; rintro e w1 ⟨k2, l2, u2, z2, rfl, hd2, hO, hb1⟩)
    | fail)
  obtain ⟨rfl, hll, rfl⟩ := HD.out.same hd2
  obtain ⟨C, cc, rfl⟩ := hO.own.slice
  have hs := SameCells_eq _ _ l l2 w1 (hl.below hb1) hO.rd hll
  have HLL := Lib.hid hll
  clear hr hd2 hll hO
  go_wp2_with (first
    | (go_at_call 22; refine hs.mono ?_; rintro e w2 ⟨rfl, hb2⟩)
    | fail)
  go_ret
  exact ⟨rfl, hb1.trans (hb2.mono hb1.size)⟩
set_option maxRecDepth 100000 in
set_option maxHeartbeats 4000000 in
theorem PBytes_any (p : Nat) (kind : Int) (P : Nat) (used : Int) (u : Value) (l : List CV) (w : World) (hblk : OBlk w p 89 [.int .i64 kind, .int .i64 (P : Int), .int .i64 used, u]) (hrd : RdCs w u l) (hk : isKindB kind = true) (hP1 : 512 ≤ P) (hP : P ≤ 65536) (hok : ∀ c ∈ pcs l, OkC P c) (hsz : sizeF (pcs l) ≤ P) :
    Calls Try.prog 29 #[.pointer (some ⟨p, 0, none⟩)] w fun e w' => ∃ v, e = .returned v ∧ OwB w' w.heap.size v (laidF kind (pcs l) P) ∧ Below w.heap.size w w' := by
  have hla := fun nq => laid_any kind u l P hk hP1 hP (w.drewN nq) ⟨hrd.form, fun x hx => ⟨(hrd.ok x hx).k, (hrd.ok x hx).v, (hrd.ok x hx).r1, (hrd.ok x hx).r2, (hrd.ok x hx).r3⟩⟩ hok hsz
  have HLA := Lib.hid hla
  obtain ⟨b0, b1, b2, b3⟩ := cells4 hblk
  obtain ⟨A, c, rfl, _, _⟩ := hrd.slice
  have hll := laidF_length (kind := kind) hsz
  have HLL := Lib.hid hll
  clear hla hok hrd hll
  go_enter Try.func29, Try.ntmps29
  go_upto_region 1 with (fail)
  refine wp_region_dtail 12 (by kernel_rfl) (by kernel_rfl) ?_
  simp only [List.take_succ_cons, List.take_zero, List.drop_succ_cons, List.drop_zero]
  repeat (quiet_step (fail))
  refine wpQuiet_nil ?_
  rintro _ ⟨nq, rfl⟩
  go_wp2_with (first
    | (go_at_call 52; refine (HLA.out nq).mono ?_; rintro e w1 ⟨g, rfl, hg, ho, hb⟩)
    | fail)
  go_ret
  refine ⟨_, rfl, ?_, (belowE (Below.refl _ _) nq).trans hb⟩
  have := ho.owB' (base := w.heap.size) hg (by rw [HLL.out]; simp only [maxLen]; omega)
  rw [HLL.out] at this
  exact this
def pgE (p : Nat) (kind : Int) (P : Nat) (used : Int) (u : Value) (l : List CV) : Ent := allE [blkE p 89 [.int .i64 kind, .int .i64 (P : Int), .int .i64 used, u], csE u l]
set_option maxHeartbeats 4000000 in
theorem POpen_sep {w0 w : World} {L : List Ent} {v : Value} {b : List UInt8} (h : Sep w0 w L) (hv : RdB w v b) :
    Calls Try.prog 21 #[v] w fun e w' => (∃ (kind : Int) (l : List CV) (p : Nat) (u : Value), isPln b kind (pcs l) ∧ RngC l ∧ e = .returned (.tuple #[.pointer (some ⟨p, 0, none⟩), .int .i64 0]) ∧ Sep w0 w' (pgE p kind b.length (sizeF (pcs l) : Nat) u l :: L)) ∨
      ((∀ kind l, ¬ isPln b kind l) ∧ e = .returned (.tuple #[.pointer none, .int .i64 60]) ∧ Sep w0 w' L) := by
  have hd := PDecode_any v b w hv
  obtain ⟨A, c, rfl, hm⟩ := hv.form
  have HS := Lib.hid h
  clear h
  go_enter Try.func21, Try.ntmps21
  go_wp2_with fail
  refine hd.mono ?_
  rintro e w1 ⟨hw1, ⟨kind, l, u, hy, rfl, hO⟩ | ⟨hn, rfl⟩⟩
  · obtain ⟨B, cc, rfl⟩ := Own.slice hO.own
    have hsz : sizeF (pcs l) ≤ b.length := (encE_zero.1 hy.2.2.1).2
    have hP := (isPowB_range hy.1).2
    have hokc : ∀ c ∈ pcs l, OkC b.length c := fun c hc => may_ok (scan_may (encE_zero.1 hy.2.2.1).1 c hc)
    have hn : (pcs l).length ≤ 2000000000000 := by have := sizeF_eq (pcs l); omega
    have hS := Size_any kind _ l w1 hO.rd (fit_of hokc (by omega) hn)
    have HY := Lib.hid hy
    have hS1 := Sep.pack (D := ownE 32 5 (.slice B l.length cc) l.length (flatC l) :: cellsE l) (HS.out.cells hw1 hO)
    have HO := Lib.hid hO.rng
    clear hsz hokc hn hd hy hO
    go_wp2_with fail
    refine hS.mono ?_
    rintro e w2 ⟨rfl, hw2⟩
    have hS2 := (hS1.below hw2).alloc 89 [.int .i64 kind, .int .i64 (b.length : Int), .int .i64 (sizeF (pcs l) : Nat), .slice B l.length cc]
    clear hS1
    go_wp2_with fail
    go_ret2
    exact .inl ⟨kind, l, _, _, HY.out, HO.out, rfl, Sep.pack (D := [_, _]) hS2⟩
  · have HN := Lib.hid hn
    have hS1 := HS.out.below hw1
    clear hn hd
    go_wp2_with fail
    go_ret2
    exact .inr ⟨HN.out, rfl, hS1⟩
theorem TakeAllC_sep {w0 w : World} {L : List Ent} {bb : Nat} {v lv u : Value} {xs : List (Value × List UInt8)} {ls : List (Value × Nat)} {l : List CV} (h : Sep w0 w (bookTE 56 bb [lv] v xs :: listsE lv ls :: csE u l :: L))
    (hn : xs.length + 2 * l.length ≤ 8000000) (hn2 : ls.length ≤ 1000000) :
    Calls Try.prog 30 #[.pointer (some ⟨bb, 0, none⟩), u] w fun e w' => (∃ y, e = .returned y) ∧ ∃ v' lv', Sep w0 w' (bookTE 56 bb [lv'] v' (xs ++ pairsC l) :: listsE lv' (ls ++ [(u, l.length)]) :: L) := by
  have h1 := (h.sw [_, _]).unpack
  refine TakeAll6_sep (v := v) (lv := lv) (h1.perm ?_) hn hn2
  show ((ownE 32 5 u l.length (flatC l) :: cellsE l) ++ ([bookTE 56 bb [lv] v xs, listsE lv ls] ++ L)).Perm ([bookTE 56 bb [lv] v xs, listsE lv ls] ++ ((ownE 32 5 u l.length (flatC l) :: cellsE l) ++ L))
  rw [← List.append_assoc, ← List.append_assoc]
  exact List.Perm.append_right _ List.perm_append_comm
end Go.Proofs.Ytonbcipofakpjaa

-- Pieces picked by number: any of the first ones, in any order; the others of these are let go.
namespace Go.Proofs.Ytonbcipofakpjaa
open Go.RowKit
def unitE : Ent := ⟨fun _ => False, fun _ => True, fun _ h => h⟩
theorem Sep.pick {w0 w : World} {L R : List Ent} (idx : List Nat) (hn : idx.Nodup) (hl : idx.all (fun i => Nat.blt i L.length) = true) (h : Sep w0 w (L ++ R)) : Sep w0 w (idx.map (fun i => L.getD i unitE) ++ R) := by
  have hlt : ∀ i ∈ idx, i < L.length := fun i hi => by
    have := List.all_eq_true.1 hl i hi
    exact Nat.le_of_ble_eq_true this
  have hg : ∀ i (hi : i < L.length), L.getD i unitE = L[i] := fun i hi => by
    rw [List.getD_eq_getElem?_getD, List.getElem?_eq_getElem hi]; rfl
  have ha := List.pairwise_append.1 h.apart
  have hp := List.pairwise_iff_getElem.1 ha.1
  refine ⟨h.same, fun E hE => ?_, List.pairwise_append.2 ⟨?_, ha.2.1, fun a hA b hb => ?_⟩⟩
  · rcases List.mem_append.1 hE with hE | hE
    · obtain ⟨i, hi, rfl⟩ := List.mem_map.1 hE
      rw [hg i (hlt i hi)]
      exact h.each _ (List.mem_append_left _ (List.getElem_mem _))
    · exact h.each E (List.mem_append_right _ hE)
  · rw [List.pairwise_map]
    refine List.Pairwise.imp_of_mem (fun {i j} hi hj hij => ?_) hn
    rw [hg i (hlt i hi), hg j (hlt j hj)]
    rcases Nat.lt_or_ge i j with h1 | h1
    · exact hp i j (hlt i hi) (hlt j hj) h1
    · intro g h2 h3
      exact hp j i (hlt j hj) (hlt i hi) (by omega) g h3 h2
  · obtain ⟨i, hi, rfl⟩ := List.mem_map.1 hA
    rw [hg i (hlt i hi)]
    exact ha.2.2 _ (List.getElem_mem _) b hb
end Go.Proofs.Ytonbcipofakpjaa

-- A page that is worked on, in words of pieces.
namespace Go.Proofs.Ytonbcipofakpjaa
open Go.RowKit
/-- A cell that is read, in whichever pieces. -/
structure XIn (L : List Ent) (x : CV) : Prop where
  k : RdIn L x.kv x.c.key
  v : RdIn L x.vv x.c.val
  r1 : i64r x.c.kind
  r2 : i64r x.c.page
  r3 : i64r x.c.count
  s1 : x.c.key.length ≤ 140737488355328
  s2 : x.c.val.length ≤ 140737488355328
theorem XIn.ok {L M : List Ent} {x : CV} {w0 w : World} (h : XIn L x) (hS : Sep w0 w M) (hs : ∀ E ∈ L, E ∈ M) : x.ok w := by
  obtain ⟨E, hE, hr⟩ := h.k
  obtain ⟨E', hE', hr'⟩ := h.v
  exact ⟨hr w (hS.of_mem (hs E hE)), hr' w (hS.of_mem (hs E' hE')), h.r1, h.r2, h.r3⟩
theorem XIn.app {L1 L2 : List Ent} {x : CV} (h : XIn L2 x) : XIn (L1 ++ L2) x := by
  obtain ⟨E, hE, hr⟩ := h.k
  obtain ⟨E', hE', hr'⟩ := h.v
  exact ⟨⟨E, List.mem_append_right _ hE, hr⟩, ⟨E', List.mem_append_right _ hE', hr'⟩, h.r1, h.r2, h.r3, h.s1, h.s2⟩
theorem cellsE_append (a b : List CV) : cellsE (a ++ b) = cellsE a ++ cellsE b := by simp [cellsE]
theorem cellsE_cons (y : CV) (b : List CV) : cellsE (y :: b) = bytesE y.kv y.c.key :: bytesE y.vv y.c.val :: cellsE b := rfl
theorem cellsE_split (l : List CV) (i : Nat) : cellsE l = cellsE (l.take i) ++ cellsE (l.drop i) := by rw [← cellsE_append, List.take_append_drop]
theorem pcs_append (a b : List CV) : pcs (a ++ b) = pcs a ++ pcs b := by simp [pcs]
theorem pcs_take (l : List CV) (i : Nat) : pcs (l.take i) = (pcs l).take i := by simp [pcs, List.map_take]
theorem pcs_drop (l : List CV) (i : Nat) : pcs (l.drop i) = (pcs l).drop i := by simp [pcs, List.map_drop]
theorem pcs_with (l : List CV) (i gone : Nat) (y : CV) : pcs (l.take i ++ y :: l.drop (i + gone)) = withF (pcs l) i gone y.c := by
  unfold withF
  rw [pcs_append, pcs_take, ← pcs_drop]; rfl
theorem pcs_rem (l : List CV) (i : Nat) : pcs (l.take i ++ l.drop (i + 1)) = (pcs l).take i ++ (pcs l).drop (i + 1) := by
  rw [pcs_append, pcs_take, ← pcs_drop]
theorem RngC.with_ {l : List CV} (h : RngC l) {y : CV} (hy : i64r y.c.kind ∧ i64r y.c.page ∧ i64r y.c.count) (i j : Nat) : RngC (l.take i ++ y :: l.drop j) := by
  intro x hx
  rcases List.mem_append.1 hx with hx | hx
  · exact h x (List.mem_of_mem_take hx)
  · rcases List.mem_cons.1 hx with rfl | hx
    · exact hy
    · exact h x (List.mem_of_mem_drop hx)
theorem RngC.rem {l : List CV} (h : RngC l) (i j : Nat) : RngC (l.take i ++ l.drop j) := by
  intro x hx
  rcases List.mem_append.1 hx with hx | hx
  · exact h x (List.mem_of_mem_take hx)
  · exact h x (List.mem_of_mem_drop hx)
section
variable {w0 w w' : World} {L : List Ent} {u v : Value} {l : List CV} {y : CV} {i : Nat}
theorem Sep.sub {L' : List Ent} (h : Sep w0 w L) (hs : L'.Sublist L) : Sep w0 w L' := ⟨h.same, fun E hE => h.each E (hs.subset hE), h.apart.sublist hs⟩
theorem perm_ins {α : Type} (k a O : α) (T X : List α) : (k :: a :: O :: (T ++ X)).Perm (O :: (T ++ (k :: a :: X))) :=
  (List.perm_middle (l₁ := [k, a])).trans (List.Perm.cons _ (List.perm_append_comm_assoc [k, a] T X))
theorem cellsE_del (hi : i < l.length) : (cellsE (l.take i) ++ cellsE (l.drop (i + 1))).Sublist (cellsE l) := by
  rw [cellsE_split l i, cellsE_drop l hi]
  exact (List.Sublist.refl _).append (((List.Sublist.refl _).cons _).cons _)
theorem Sep.push3 {a b c d : Ent} {T : List Ent} (h : Sep w0 w (a :: b :: c :: d :: (T ++ L))) : Sep w0 w (a :: b :: c :: (T ++ d :: L)) := h.perm (((List.perm_middle.symm).cons _ |>.cons _ |>.cons _))
theorem Sep.push1 {a d : Ent} {T : List Ent} (h : Sep w0 w (a :: d :: (T ++ L))) : Sep w0 w (a :: (T ++ d :: L)) := h.perm ((List.perm_middle.symm).cons _)
/-- A cell more, in its place. -/
theorem Sep.csIns {N : Nat} (hN : (l.take i ++ y :: l.drop i).length = N) (h : Sep w0 w (bytesE y.kv y.c.key :: bytesE y.vv y.c.val :: ownE 32 5 v N (flatC (l.take i ++ y :: l.drop i)) :: (cellsE l ++ L))) : Sep w0 w (csE v (l.take i ++ y :: l.drop i) :: L) := by
  subst hN
  refine Sep.pack (D := ownE 32 5 v _ _ :: cellsE _) (h.perm ?_)
  rw [cellsE_append, cellsE_cons, cellsE_split l i]
  simp only [List.cons_append, List.append_assoc]
  exact perm_ins _ _ _ _ _
/-- A cell in another one's place. -/
theorem Sep.csSet {N : Nat} (hN : (l.take i ++ y :: l.drop (i + 1)).length = N) (hi : i < l.length) (h : Sep w0 w (bytesE y.kv y.c.key :: bytesE y.vv y.c.val :: ownE 32 5 v N (flatC (l.take i ++ y :: l.drop (i + 1))) :: (cellsE l ++ L))) : Sep w0 w (csE v (l.take i ++ y :: l.drop (i + 1)) :: L) := by
  subst hN
  have h1 := h.sub ((((cellsE_del (l := l) hi).append (List.Sublist.refl L)).cons_cons _).cons_cons _ |>.cons_cons _)
  refine Sep.pack (D := ownE 32 5 v _ _ :: cellsE _) (h1.perm ?_)
  rw [cellsE_append, cellsE_cons]
  simp only [List.cons_append, List.append_assoc]
  exact perm_ins _ _ _ _ _
/-- A cell less. -/
theorem Sep.csDel {N : Nat} (hN : (l.take i ++ l.drop (i + 1)).length = N) (hi : i < l.length) (h : Sep w0 w (ownE 32 5 v N (flatC (l.take i ++ l.drop (i + 1))) :: (cellsE l ++ L))) : Sep w0 w (csE v (l.take i ++ l.drop (i + 1)) :: L) := by
  refine Sep.pack (D := ownE 32 5 v _ _ :: cellsE _) ((by subst hN; exact h : Sep w0 w (ownE 32 5 v (l.take i ++ l.drop (i + 1)).length (flatC (l.take i ++ l.drop (i + 1))) :: (cellsE l ++ L))).sub ?_)
  rw [cellsE_append]
  exact ((cellsE_del (l := l) hi).append (List.Sublist.refl L)).cons_cons _
/-- own, in words of pieces. -/
theorem own_sep (h : Sep w0 w L) (x : CV) (hx : x.ok w) (h1 : x.c.key.length ≤ 140737488355328) (h2 : x.c.val.length ≤ 140737488355328) :
    Calls Try.prog 71 #[cellV x] w fun e w' => ∃ y : CV, e = .returned (cellV y) ∧ y.c = x.c ∧ Sep w0 w' (bytesE y.kv y.c.key :: bytesE y.vv y.c.val :: L) := by
  refine (own_any x w hx h1 h2).mono ?_
  rintro e w' ⟨y, rfl, hc, hk, hv, ha, hb⟩
  rw [← hc] at hk hv
  refine ⟨y, rfl, hc, ((h.below hb).cons (E := bytesE y.vv y.c.val) (OwB.low hv (Nat.zero_le _)) (fun g hg => (Own.lt hv g hg).2) (fun A hA g hg hAg => ?_)).cons (E := bytesE y.kv y.c.key) (OwB.low hk (Nat.zero_le _)) (fun g hg => (Own.lt hk g hg).2) (fun A hA g hg hAg => ?_)⟩
  · have h3 := (h.each A hA).2 g hAg
    have h4 := (Own.lt hv g hg).1
    omega
  · rcases List.mem_cons.1 hA with rfl | hA
    · have := ha g g hg hAg; omega
    · have h3 := (h.each A hA).2 g hAg
      have h4 := (Own.lt hk g hg).1
      omega
/-- A row that has been turned. -/
theorem Sep.insAt {l' : List CV} {e : Ending} (h : Sep w0 w (ownE 32 5 u l.length (flatC l) :: L)) (hi : InsAt w u l' e w') : ∃ v', e = .returned v' ∧ Sep w0 w' (ownE 32 5 v' l'.length (flatC l') :: L) := by
  obtain ⟨v', rfl, ho, ht, hv⟩ := hi
  exact ⟨v', rfl, h.upd ht ho (fun g hg => ⟨hv g hg, (Own.lt ho g hg).2⟩)⟩
end
/-- The page's pieces. -/
theorem Sep.pgOpen {w0 w : World} {L : List Ent} {p P : Nat} {kind used : Int} {u : Value} {l : List CV} (h : Sep w0 w (pgE p kind P used u l :: L)) :
    Sep w0 w (blkE p 89 [.int .i64 kind, .int .i64 (P : Int), .int .i64 used, u] :: ownE 32 5 u l.length (flatC l) :: (cellsE l ++ L)) := by
  have h1 : Sep w0 w (blkE p 89 [.int .i64 kind, .int .i64 (P : Int), .int .i64 used, u] :: csE u l :: L) := h.unpack
  exact (Sep.unpack (D := ownE 32 5 u l.length (flatC l) :: cellsE l) h1.sw1).perm List.perm_middle
theorem Sep.pgShut {w0 w : World} {L : List Ent} {p P : Nat} {kind used : Int} {u : Value} {l : List CV} (h : Sep w0 w (blkE p 89 [.int .i64 kind, .int .i64 (P : Int), .int .i64 used, u] :: csE u l :: L)) : Sep w0 w (pgE p kind P used u l :: L) := Sep.pack (D := [_, _]) h
theorem Sep.pgClose {w0 w : World} {L : List Ent} {p P : Nat} {kind used : Int} {u : Value} {l : List CV} (h : Sep w0 w (blkE p 89 [.int .i64 kind, .int .i64 (P : Int), .int .i64 used, u] :: ownE 32 5 u l.length (flatC l) :: (cellsE l ++ L))) : Sep w0 w (pgE p kind P used u l :: L) :=
  Sep.pgShut ((Sep.pack (D := ownE 32 5 u l.length (flatC l) :: cellsE l) (h.perm (List.perm_middle (l₁ := ownE 32 5 u l.length (flatC l) :: cellsE l)).symm)).sw1)
/-- What Insert, Set, Remove tell and leave. -/
def PgPost (w0 : World) (L : List Ent) (p P : Nat) (kind z : Int) (lp : List PC) (e : Ending) (w' : World) : Prop :=
  ∃ u' l', e = .returned (.int .i64 z) ∧ pcs l' = lp ∧ RngC l' ∧ Sep w0 w' (pgE p kind P (sizeF (pcs l') : Nat) u' l' :: L)
/-- What is read of the open pieces. -/
theorem Sep.openRd {w0 w : World} {M : List Ent} {u : Value} {l : List CV} (h : Sep w0 w M) (h1 : ownE 32 5 u l.length (flatC l) ∈ M) (h2 : ∀ E ∈ cellsE l, E ∈ M) (hr : RngC l) : RdCs w u l := by
  have ho : Own w 0 32 5 u l.length (flatC l) := h.of_mem h1
  refine ⟨ho.rd, fun x hx => ?_⟩
  have hk : OwB w 0 x.kv x.c.key := h.of_mem (E := bytesE x.kv x.c.key) (h2 _ (List.mem_flatMap.2 ⟨x, hx, by simp⟩))
  have hv : OwB w 0 x.vv x.c.val := h.of_mem (E := bytesE x.vv x.c.val) (h2 _ (List.mem_flatMap.2 ⟨x, hx, by simp⟩))
  exact ⟨hk.rd, hv.rd, (hr x hx).1, (hr x hx).2.1, (hr x hx).2.2⟩
end Go.Proofs.Ytonbcipofakpjaa

-- plain.Page.Insert, in words of pieces: the walk.
namespace Go.Proofs.Ytonbcipofakpjaa
open Go.RowKit
theorem OwnAt7 {w0 w : World} {M : List Ent} {v : Value} {n : Nat} {xs : List Value} (h : Sep w0 w (ownE 32 5 v n xs :: M)) : Own w 0 32 5 v n xs := h.head
set_option maxRecDepth 100000 in
set_option maxHeartbeats 2000000 in
theorem PInsert_sep {w0 w : World} {L : List Ent} {p P : Nat} {kind : Int} {u : Value} {l : List CV} (hS : Sep w0 w (pgE p kind P (sizeF (pcs l) : Nat) u l :: L)) (hr : RngC l) (hk : Wk kind P (pcs l)) (hP : P ≤ 65536) (x : CV) (hx : XIn L x) (i : Int) (hi64 : i64r i) :
    Calls Try.prog 40 #[.pointer (some ⟨p, 0, none⟩), .int .i64 i, cellV x] w (PgPost w0 L p P kind (insZ kind P (pcs l) i 0 x.c) (insL kind P (pcs l) i 0 x.c)) := by
  have hlen := hk.len hP
  rw [pcs_length] at hlen
  have hsz := hk.size
  have hS0 := hS.pgOpen
  have hS1 := hS0.alloc 32 [x.kv, .int .i64 x.c.kind, x.vv, .int .i64 x.c.page, .int .i64 x.c.count]
  have hxm : ∀ E ∈ L, E ∈ (blkE w.heap.size 32 [x.kv, .int .i64 x.c.kind, x.vv, .int .i64 x.c.page, .int .i64 x.c.count] :: blkE p 89 [.int .i64 kind, .int .i64 (P : Int), .int .i64 (sizeF (pcs l) : Nat), u] :: ownE 32 5 u l.length (flatC l) :: (cellsE l ++ L)) := fun E hE => by simp [hE]
  have hx1 := hx.ok hS1 hxm
  have hrd := hS1.openRd (u := u) (l := l) (by simp) (fun E hE => by simp [hE]) hr
  obtain ⟨U, uc, rfl, hm, hc⟩ := hrd.slice
  have hbp : OBlk _ p 89 [.int .i64 kind, .int .i64 (P : Int), .int .i64 (sizeF (pcs l) : Nat), .slice U l.length uc] := hS1.tail.head
  obtain ⟨b0, b1, b2, b3⟩ := cells4 hbp
  by_cases hin : i < 0 ∨ (l.length : Int) < i
  · have hz : insZ kind P (pcs l) i 0 x.c = 64 := insZ_out (by rw [pcs_length]; omega)
    rw [hz]
    have HL2 : Hid (pcs l = insL kind P (pcs l) i 0 x.c) := Lib.hid (by rw [insL_ne (by rw [hz]; omega)])
    have hS2 := hS1.tail
    clear hz hS1 hx1 hrd hbp hxm hS hS0
    unfold cellV
    rcases hin with h | h
    · go_enter Try.func40, Try.ntmps40
      go_wp2_with fail
      go_ret
      exact ⟨_, l, rfl, HL2.out, hr, hS2.pgClose⟩
    · have h' : ¬ i < 0 := by omega
      go_enter Try.func40, Try.ntmps40
      go_wp2_with fail
      go_ret
      exact ⟨_, l, rfl, HL2.out, hr, hS2.pgClose⟩
  · obtain ⟨k, rfl⟩ : ∃ k : Nat, i = (k : Int) := ⟨i.toNat, by omega⟩
    have hkl : k ≤ l.length := by omega
    have hz : insZ kind P (pcs l) (k : Int) 0 x.c = putE kind P (pcs l) k 0 x.c := insZ_in (by rw [pcs_length]; omega)
    have hrf := refused_any (w := w.alloc (.cells [x.kv, .int .i64 x.c.kind, x.vv, .int .i64 x.c.page, .int .i64 x.c.count].toArray 32)) ⟨hbp, hrd⟩ hP x hx1 (by have := hx.s1; have := hx.s2; omega) k k hkl hkl 0 (by omega) (by omega) (by omega) (by omega)
    rw [← putE_ins (by rw [pcs_length]; exact hkl), ← hz] at hrf
    have HL2 : Hid (insZ kind P (pcs l) (k : Int) 0 x.c ≠ 0 → pcs l = insL kind P (pcs l) (k : Int) 0 x.c) := Lib.hid (fun e => by rw [insL_ne e])
    have HL3 : Hid (insZ kind P (pcs l) (k : Int) 0 x.c = 0 → (∀ y : CV, y.c = x.c → pcs (l.take k ++ y :: l.drop k) = insL kind P (pcs l) (k : Int) 0 x.c) ∧ (∀ y : CV, y.c = x.c → ((sizeF (pcs (l.take k ++ y :: l.drop k)) : Nat) : Int) = (sizeF (pcs l) : Nat) + (2 + (longF x.c : Int))) ∧ longF x.c ≤ 65536) := Lib.hid (fun e => by
      refine ⟨fun y hy => ?_, fun y hy => ?_, ?_⟩
      · rw [insL_eq e]
        have := pcs_with l k 0 y
        rw [Nat.add_zero, hy] at this
        exact this
      · have := pcs_with l k 0 y
        rw [Nat.add_zero, hy] at this
        rw [this, with_ins_size _ _ (by rw [pcs_length]; exact hkl)]
        omega
      · exact longF_le (may_ok (putE_zero_may (by rw [← hz]; exact e))) hP)
    generalize insZ kind P (pcs l) (k : Int) 0 x.c = Z at *
    generalize insL kind P (pcs l) (k : Int) 0 x.c = lp at *
    have HZ0 : ∃ s, Hid (sizeF (pcs l) = s) ∧ sizeF (pcs l) = s := ⟨_, Lib.hid rfl, rfl⟩
    obtain ⟨sz, HSZ, hsz2⟩ := HZ0
    simp only [hsz2] at hsz hS1 hrf hbp b2 HL3 hx1 hxm
    clear hsz2
    have hlo : ∀ W, x.ok W → Calls Try.prog 53 #[cellV x] W fun e w' => e = .returned (.int .i64 (longF x.c : Nat)) ∧ Below W.heap.size W w' := fun W hW => long_any x W hW (by have := hx.s1; have := hx.s2; omega)
    have i1 : ¬ (k : Int) < 0 := by omega
    have i2 : ¬ (l.length : Int) < (k : Int) := by omega
    clear hz hin hS hS0 hk hrd
    obtain ⟨KA, ka, VA, va, key, ck, val, pg, ct, rfl, -, -⟩ := CV.form hx1
    simp only at hx1 hS1 HL2 HL3 hxm hrf hlo ⊢
    unfold cellV at hrf hlo ⊢
    simp only at hrf hlo ⊢
    have HLO := Lib.hid hlo
    have HX := Lib.hid hx
    clear hlo hx
    generalize longF ⟨key, ck, val, pg, ct⟩ = lo at *
    go_enter Try.func40, Try.ntmps40
    go_upto_region 4 with (first
      | (go_at_call 69; (with_reducible refine hrf.mono ?_); rintro e w2 ⟨rfl, hw2⟩)
      | fail)
    have hS2 := hS1.below hw2
    clear hrf hS1 hw2 hbp b0 b1 b2 b3 hx1
    by_cases hZ : Z = 0
    · subst hZ
      have HL4 := Lib.hid (HL3.out rfl)
      have hlo6 := HL4.out.2.2
      clear HL3 HL2
      have hC2 : OBlk w2 w.heap.size 32 [.slice KA key.length ka, .int .i64 ck, .slice VA val.length va, .int .i64 pg, .int .i64 ct] := hS2.head
      have hB2 : OBlk w2 p 89 [.int .i64 kind, .int .i64 (P : Int), .int .i64 (sz : Int), .slice U l.length uc] := hS2.tail.head
      have hx2 := HX.out.ok hS2 (fun E hE => by simp [hE])
      have hpz := hB2.lt
      have hcz := hC2.lt
      obtain ⟨b0, b1, b2, b3⟩ := cells4 hB2
      obtain ⟨c0, c1, c2, c3, c4⟩ := cells5 hC2
      have f2 := hB2.frozen (j := 2) (by simp)
      have i2 : IntKind.i64.wrap ((sz : Int) + ((2 : Int) + (lo : Int))) = (sz : Int) + ((2 : Int) + (lo : Int)) := by rw [IntKind.wrap_i64]; omega
      have i3 : IntKind.i64.wrap ((2 : Int) + (lo : Int)) = (2 : Int) + (lo : Int) := by rw [IntKind.wrap_i64]; omega
      go_upto_region 6 with (fail)
      obtain ⟨bx, hbx⟩ : ∃ b, w.heap.size = b := ⟨_, rfl⟩
      rw [hbx] at hS2 hC2 hcz c0 c1 c2 c3 c4 ⊢
      clear hbx
      go_cut [] (fun wx => Sep w0 wx (blkE p 89 [.int .i64 kind, .int .i64 (P : Int), .int .i64 ((sz : Int) + (2 + (lo : Int))), .slice U l.length uc] :: blkE bx 32 [.slice KA key.length ka, .int .i64 ck, .slice VA val.length va, .int .i64 pg, .int .i64 ct] :: ownE 32 5 (.slice U l.length uc) l.length (flatC l) :: (cellsE l ++ L)))
      case first =>
        go_region_law
          (first
            | (go_simp; go_at_call 53; refine (HLO.out _ (hx2.below ((Below.refl _ _).drew))).mono ?_; rintro e w3 ⟨rfl, hw3⟩; have hS3 := hS2.drew.below hw3; have hB3 := hB2.drew.below hw3 hpz; obtain ⟨d0, d1, d2, d3⟩ := cells4 hB3; have g2 := hB3.frozen (j := 2) (by simp))
            | fail)
        all_goals
          go_wp2_with fail
          go_meet
          exact hS3.sw1.setCell 2 (.int .i64 ((sz : Int) + (2 + (lo : Int))))
      case rest =>
        have hS5 := hcut
        clear hcut hS2 hC2 hB2 hx2 hpz hcz b0 b1 b2 b3 c0 c1 c2 c3 c4 f2 HLO
        have hB5 : OBlk wc p 89 [.int .i64 kind, .int .i64 (P : Int), .int .i64 ((sz : Int) + (2 + (lo : Int))), .slice U l.length uc] := hS5.head
        have hC5 : OBlk wc bx 32 [.slice KA key.length ka, .int .i64 ck, .slice VA val.length va, .int .i64 pg, .int .i64 ct] := hS5.tail.head
        obtain ⟨b0, b1, b2, b3⟩ := cells4 hB5
        obtain ⟨c0, c1, c2, c3, c4⟩ := cells5 hC5
        have f3 := hB5.frozen (j := 3) (by simp)
        have hx5 := HX.out.ok hS5.drew (fun E hE => by simp [hE])
        have hO := own_sep hS5.drew _ hx5 HX.out.s1 HX.out.s2
        unfold cellV at hO
        simp only at hO
        clear hB5 hC5
        go_upto_region 7 with (fail)
        go_region_law
          (first
            | (go_simp; go_at_call 71; refine hO.mono ?_; rintro e w6 ⟨⟨ykv, yvv, yc⟩, rfl, hyc, hS6⟩; simp only at hyc; subst hyc; obtain ⟨K2, kc, rfl⟩ := Own.slice (show OwB w6 0 ykv key from hS6.head); obtain ⟨V2, vc, rfl⟩ := Own.slice (show OwB w6 0 yvv val from hS6.tail.head); have hB6 : OBlk w6 p 89 [.int .i64 kind, .int .i64 (P : Int), .int .i64 ((sz : Int) + (2 + (lo : Int))), .slice U l.length uc] := hS6.tail.tail.head; obtain ⟨d0, d1, d2, d3⟩ := cells4 (hB6.alloc (.cells #[.slice K2 key.length kc, .int .i64 ck, .slice V2 val.length vc, .int .i64 pg, .int .i64 ct] 32)); obtain ⟨e0, e1, e2, e3⟩ := cells4 hB6; have hrd6 := hS6.openRd (u := .slice U l.length uc) (l := l) (by simp) (fun E hE => by simp [hE]) hr; have hI := InsertS_any (w := w6) (u := .slice U l.length uc) (l := l) (hS6.of_mem (E := ownE 32 5 (.slice U l.length uc) l.length (flatC l)) (by simp)) (flatC_one hrd6.ok) ⟨.slice K2 key.length kc, .slice V2 val.length vc, ⟨key, ck, val, pg, ct⟩⟩ (cells_one (show OwB w6 0 (.slice K2 key.length kc) key from hS6.head) (show OwB w6 0 (.slice V2 val.length vc) val from hS6.tail.head)) (by omega) k hkl; simp only at hI)
            | (go_simp; go_at_call 70; (with_reducible refine hI.mono ?_); rintro e w7 hI7; obtain ⟨v7, rfl, hS7⟩ := Sep.insAt (show Sep w0 w6 (ownE 32 5 (.slice U l.length uc) l.length (flatC l) :: bytesE (.slice K2 key.length kc) key :: bytesE (.slice V2 val.length vc) val :: blkE p 89 [.int .i64 kind, .int .i64 (P : Int), .int .i64 ((sz : Int) + (2 + (lo : Int))), .slice U l.length uc] :: blkE bx 32 [.slice KA key.length ka, .int .i64 ck, .slice VA val.length va, .int .i64 pg, .int .i64 ct] :: (cellsE l ++ L)) from Sep.sw4 hS6) hI7; obtain ⟨B7, c7, rfl⟩ := Own.slice (OwnAt7 hS7); have hlN : (l.take k ++ (⟨.slice K2 key.length kc, .slice V2 val.length vc, ⟨key, ck, val, pg, ct⟩⟩ : CV) :: l.drop k).length = l.length + 1 := (by simp only [List.length_append, List.length_cons, List.length_take, List.length_drop]; omega); simp only [hlN] at hS7; have HLN := Lib.hid hlN; clear hlN; have hB7 : OBlk w7 p 89 [.int .i64 kind, .int .i64 (P : Int), .int .i64 ((sz : Int) + (2 + (lo : Int))), .slice U l.length uc] := hS7.tail.tail.tail.head; obtain ⟨x0, x1, x2, x3⟩ := cells4 hB7; have g3 := hB7.frozen (j := 3) (by simp))
            | fail)
        all_goals
          have hS8 := (Sep.sw3 hS7).setCell 3 (.slice B7 (l.length + 1) c7)
          simp only [List.set_cons_succ, List.set_cons_zero] at hS8
          have hS9 := Sep.csIns HLN.out (Sep.push3 (Sep.pick (L := [_, _, _, _, _]) [2, 3, 1, 0] (by decide) rfl hS8))
          have HS9 := Lib.hid (Sep.pgShut hS9.sw1)
          clear hS9 hS8 hS7 hS6 hI
          go_wp2_with fail
          go_ret
          refine ⟨.slice B7 (l.length + 1) c7, l.take k ++ (⟨.slice K2 key.length kc, .slice V2 val.length vc, ⟨key, ck, val, pg, ct⟩⟩ : CV) :: l.drop k, rfl, HL4.out.1 _ rfl, hr.with_ (y := ⟨.slice K2 key.length kc, .slice V2 val.length vc, ⟨key, ck, val, pg, ct⟩⟩) ⟨HX.out.r1, HX.out.r2, HX.out.r3⟩ _ _, ?_⟩
          have h9 := HS9.out
          have e9 := HL4.out.2.1 (⟨.slice K2 key.length kc, .slice V2 val.length vc, ⟨key, ck, val, pg, ct⟩⟩ : CV) rfl
          rw [← e9] at h9
          rw [show k + (l.length - k + 1) = l.length + 1 by omega]
          exact h9
    · have HZ := Lib.hid hZ
      go_wp2_with fail
      go_ret
      refine ⟨.slice U l.length uc, l, rfl, HL2.out HZ.out, hr, ?_⟩
      rw [HSZ.out]
      exact hS2.tail.pgClose
end Go.Proofs.Ytonbcipofakpjaa

-- plain.Page.Set, in words of pieces: the walk.
namespace Go.Proofs.Ytonbcipofakpjaa
open Go.RowKit
theorem Own.cells5k {w : World} {b g n c : Nat} {l : List CV} (h : Own w b 32 5 (.slice (some ⟨g, 0, none⟩) n c) n (flatC l)) {k : Nat} (hk : k < l.length) :
    (∃ u, w.cell? ⟨g, k * 5, none⟩ = some u) ∧ (∃ u, w.cell? ⟨g, k * 5 + 1, none⟩ = some u) ∧ (∃ u, w.cell? ⟨g, k * 5 + 2, none⟩ = some u) ∧ (∃ u, w.cell? ⟨g, k * 5 + 3, none⟩ = some u) ∧ (∃ u, w.cell? ⟨g, k * 5 + 4, none⟩ = some u) :=
  ⟨⟨_, h.cells (k * 5) _ (flatC_at l k 0 hk (by omega))⟩, ⟨_, h.cells (k * 5 + 1) _ (flatC_at l k 1 hk (by omega))⟩, ⟨_, h.cells (k * 5 + 2) _ (flatC_at l k 2 hk (by omega))⟩, ⟨_, h.cells (k * 5 + 3) _ (flatC_at l k 3 hk (by omega))⟩, ⟨_, h.cells (k * 5 + 4) _ (flatC_at l k 4 hk (by omega))⟩⟩
theorem Own.froz5k {w : World} {b g n c : Nat} {l : List CV} (h : Own w b 32 5 (.slice (some ⟨g, 0, none⟩) n c) n (flatC l)) {k : Nat} (hk : k < l.length) :
    w.frozen? ⟨g, k * 5, none⟩ = false ∧ w.frozen? ⟨g, k * 5 + 1, none⟩ = false ∧ w.frozen? ⟨g, k * 5 + 2, none⟩ = false ∧ w.frozen? ⟨g, k * 5 + 3, none⟩ = false ∧ w.frozen? ⟨g, k * 5 + 4, none⟩ = false := by
  have hl := flatC_length l
  exact ⟨h.frozen (by omega), h.frozen (by omega), h.frozen (by omega), h.frozen (by omega), h.frozen (by omega)⟩
theorem Own.set5k {w : World} {b g n c : Nat} {l : List CV} (h : Own w b 32 5 (.slice (some ⟨g, 0, none⟩) n c) n (flatC l)) {k : Nat} (hk : k < l.length) (x : CV) :
    Own (((((w.setCell ⟨g, k * 5, none⟩ x.kv).setCell ⟨g, k * 5 + 1, none⟩ (.int .i64 x.c.kind)).setCell ⟨g, k * 5 + 2, none⟩ x.vv).setCell ⟨g, k * 5 + 3, none⟩ (.int .i64 x.c.page)).setCell ⟨g, k * 5 + 4, none⟩ (.int .i64 x.c.count)) b 32 5 (.slice (some ⟨g, 0, none⟩) n c) n (flatC (l.set k x)) := by
  rw [← flat_set l k hk x]
  exact ((((h.set (k * 5) x.kv).set (k * 5 + 1) (.int .i64 x.c.kind)).set (k * 5 + 2) x.vv).set (k * 5 + 3) (.int .i64 x.c.page)).set (k * 5 + 4) (.int .i64 x.c.count)
set_option maxRecDepth 100000 in
set_option maxHeartbeats 2000000 in
theorem PSet_sep {w0 w : World} {L : List Ent} {p P : Nat} {kind : Int} {u : Value} {l : List CV} (hS : Sep w0 w (pgE p kind P (sizeF (pcs l) : Nat) u l :: L)) (hr : RngC l) (hk : Wk kind P (pcs l)) (hP : P ≤ 65536) (x : CV) (hx : XIn L x) (i : Int) (hi64 : i64r i) :
    Calls Try.prog 84 #[.pointer (some ⟨p, 0, none⟩), .int .i64 i, cellV x] w (PgPost w0 L p P kind (insZ kind P (pcs l) i 1 x.c) (insL kind P (pcs l) i 1 x.c)) := by
  have hlen := hk.len hP
  rw [pcs_length] at hlen
  have hsz := hk.size
  have hS0 := hS.pgOpen
  have hS1 := hS0.alloc 32 [x.kv, .int .i64 x.c.kind, x.vv, .int .i64 x.c.page, .int .i64 x.c.count]
  have hxm : ∀ E ∈ L, E ∈ (blkE w.heap.size 32 [x.kv, .int .i64 x.c.kind, x.vv, .int .i64 x.c.page, .int .i64 x.c.count] :: blkE p 89 [.int .i64 kind, .int .i64 (P : Int), .int .i64 (sizeF (pcs l) : Nat), u] :: ownE 32 5 u l.length (flatC l) :: (cellsE l ++ L)) := fun E hE => by simp [hE]
  have hx1 := hx.ok hS1 hxm
  have hrd := hS1.openRd (u := u) (l := l) (by simp) (fun E hE => by simp [hE]) hr
  obtain ⟨U, uc, rfl, hm, hc⟩ := hrd.slice
  have hbp : OBlk _ p 89 [.int .i64 kind, .int .i64 (P : Int), .int .i64 (sizeF (pcs l) : Nat), .slice U l.length uc] := hS1.tail.head
  obtain ⟨b0, b1, b2, b3⟩ := cells4 hbp
  by_cases hin : i < 0 ∨ (l.length : Int) ≤ i
  · have hz : insZ kind P (pcs l) i 1 x.c = 64 := insZ_out (by rw [pcs_length]; omega)
    rw [hz]
    have HL2 : Hid (pcs l = insL kind P (pcs l) i 1 x.c) := Lib.hid (by rw [insL_ne (by rw [hz]; omega)])
    have hS2 := hS1.tail
    clear hz hS1 hx1 hrd hbp hxm hS hS0
    unfold cellV
    rcases hin with h | h
    · go_enter Try.func84, Try.ntmps84
      go_wp2_with fail
      go_ret
      exact ⟨_, l, rfl, HL2.out, hr, hS2.pgClose⟩
    · have h' : ¬ i < 0 := by omega
      go_enter Try.func84, Try.ntmps84
      go_wp2_with fail
      go_ret
      exact ⟨_, l, rfl, HL2.out, hr, hS2.pgClose⟩
  · obtain ⟨k, rfl⟩ : ∃ k : Nat, i = (k : Int) := ⟨i.toNat, by omega⟩
    have hkl : k < l.length := by omega
    have hz : insZ kind P (pcs l) (k : Int) 1 x.c = putE kind P (pcs l) k 1 x.c := insZ_in (by rw [pcs_length]; omega)
    have hkp : k < (pcs l).length := by rw [pcs_length]; exact hkl
    have hpk : (pcs l)[k] = l[k].c := pcs_at hkl
    have hlz : 2 + longF l[k].c ≤ sizeF (pcs l) := by have := longs_mem (List.getElem_mem hkp); rw [hpk] at this; exact this
    have hrf : ∀ W, PgAt W p kind P (sizeF (pcs l) : Nat) (.slice U l.length uc) l → x.ok W → Calls Try.prog 69 #[.pointer (some ⟨p, 0, none⟩), .int .i64 (k : Int), .int .i64 ((k : Int) + 1), cellV x, .int .i64 (2 + (longF l[k].c : Int))] W fun e w' => e = .returned (.int .i64 (insZ kind P (pcs l) (k : Int) 1 x.c)) ∧ Below W.heap.size W w' := fun W hPW hxW => by
      have := refused_any hPW hP x hxW (by have := hx.s1; have := hx.s2; omega) k (k + 1) (by omega) (by omega) (2 + (longF l[k].c : Int)) (by omega) (by omega) (by omega) (by omega)
      have e2 := putE_set (kind := kind) (P := P) (c := x.c) hkp
      rw [hpk] at e2
      rw [hz, e2]
      exact this
    have HL2 : Hid (insZ kind P (pcs l) (k : Int) 1 x.c ≠ 0 → pcs l = insL kind P (pcs l) (k : Int) 1 x.c) := Lib.hid (fun e => by rw [insL_ne e])
    have HL3 : Hid (insZ kind P (pcs l) (k : Int) 1 x.c = 0 → (∀ y : CV, y.c = x.c → pcs (l.take k ++ y :: l.drop (k + 1)) = insL kind P (pcs l) (k : Int) 1 x.c) ∧ (∀ y : CV, y.c = x.c → ((sizeF (pcs (l.take k ++ y :: l.drop (k + 1))) : Nat) : Int) = (sizeF (pcs l) : Nat) + ((2 + (longF x.c : Int)) - (2 + (longF l[k].c : Int)))) ∧ longF x.c ≤ 65536) := Lib.hid (fun e => by
      refine ⟨fun y hy => ?_, fun y hy => ?_, ?_⟩
      · rw [insL_eq e]
        have := pcs_with l k 1 y
        rw [hy] at this
        exact this
      · have := pcs_with l k 1 y
        rw [hy] at this
        rw [this]
        have := with_set_size (pcs l) x.c hkp
        rw [hpk] at this
        omega
      · exact longF_le (may_ok (putE_zero_may (by rw [← hz]; exact e))) hP)
    have hlen3 : (l.take k ++ l[k] :: l.drop (k + 1)).length = l.length := by simp only [List.length_append, List.length_cons, List.length_take, List.length_drop]; omega
    have hzx := hrd.ok _ (List.getElem_mem hkl)
    obtain ⟨ad, hUad, q0, q1, q2, q3, q4⟩ := hrd.at_ hkl
    obtain ⟨ug, rfl⟩ := Own.some5 (hS1.tail.tail.head : Own _ 0 32 5 (.slice U l.length uc) l.length (flatC l)) (by omega)
    have hUad' : ad = ⟨ug, 0, none⟩ := (Option.some.inj hUad).symm
    subst hUad'
    simp only [add_row, Nat.zero_add] at q0 q1 q2 q3 q4
    have hloz : ∀ W, l[k].ok W → Calls Try.prog 53 #[cellV l[k]] W fun e w' => e = .returned (.int .i64 (longF l[k].c : Nat)) ∧ Below W.heap.size W w' := fun W hW => long_any l[k] W hW (by have : l[k].c.key.length + l[k].c.val.length ≤ 131072 := okc_fit (may_ok (hk.may _ (by rw [← hpk]; exact List.getElem_mem hkp))) hP; omega)
    generalize hzk : l[k] = z at *
    generalize insZ kind P (pcs l) (k : Int) 1 x.c = Z at *
    generalize insL kind P (pcs l) (k : Int) 1 x.c = lp at *
    have HZ0 : ∃ s, Hid (sizeF (pcs l) = s) ∧ sizeF (pcs l) = s := ⟨_, Lib.hid rfl, rfl⟩
    obtain ⟨sz, HSZ, hsz2⟩ := HZ0
    simp only [hsz2] at hsz hS1 hrf hbp b2 HL3 hx1 hxm hlz
    clear hsz2
    have hlo : ∀ W, x.ok W → Calls Try.prog 53 #[cellV x] W fun e w' => e = .returned (.int .i64 (longF x.c : Nat)) ∧ Below W.heap.size W w' := fun W hW => long_any x W hW (by have := hx.s1; have := hx.s2; omega)
    have i1 : ¬ (k : Int) < 0 := by omega
    have i2 : ¬ (l.length : Int) ≤ (k : Int) := by omega
    have i2' : (k : Int) < (l.length : Int) := by omega
    clear hz hin hS hS0 hk hrd hpk hkp hUad hzk
    obtain ⟨KA, ka, VA, va, key, ck, val, pg, ct, rfl, -, -⟩ := CV.form hx1
    obtain ⟨KB, kb, VB, vb, zkey, zck, zval, zpg, zct, rfl, -, -⟩ := CV.form hzx
    simp only at hx1 hS1 HL2 HL3 hxm hrf hlo hloz hlz q0 q1 q2 q3 q4 ⊢
    unfold cellV at hrf hlo hloz ⊢
    simp only at hrf hlo hloz ⊢
    have HLO := Lib.hid hlo
    have HLZ := Lib.hid hloz
    have HRF := Lib.hid hrf
    have HX := Lib.hid hx
    clear hlo hx hloz hrf
    generalize longF ⟨key, ck, val, pg, ct⟩ = lo at *
    generalize longF ⟨zkey, zck, zval, zpg, zct⟩ = lz at *
    have i4 : IntKind.i64.wrap ((2 : Int) + (lz : Int)) = (2 : Int) + (lz : Int) := by rw [IntKind.wrap_i64]; omega
    have i5 : IntKind.i64.wrap ((k : Int) + 1) = (k : Int) + 1 := by rw [IntKind.wrap_i64]; omega
    go_enter Try.func84, Try.ntmps84
    go_upto_region 4 with (first
      | (go_at_call 53; (with_reducible refine (HLZ.out _ hzx).mono ?_); rintro e w2 ⟨rfl, hw2⟩)
      | fail)
    have hS2 := hS1.below hw2
    clear hS1 hw2 hbp b0 b1 b2 b3 hx1 hzx q0 q1 q2 q3 q4
    have hC2 : OBlk w2 w.heap.size 32 [.slice KA key.length ka, .int .i64 ck, .slice VA val.length va, .int .i64 pg, .int .i64 ct] := hS2.head
    obtain ⟨c0, c1, c2, c3, c4⟩ := cells5 hC2
    have hrf2 := HRF.out w2 ⟨hS2.tail.head, hS2.openRd (by simp) (fun E hE => by simp [hE]) hr⟩ (HX.out.ok hS2 (fun E hE => by simp [hE]))
    clear hC2
    go_upto_region 5 with (first
      | (go_at_call 69; (with_reducible refine hrf2.mono ?_); rintro e w3 ⟨rfl, hw3⟩)
      | fail)
    have hS3 := hS2.below hw3
    clear hS2 hw3 hrf2 c0 c1 c2 c3 c4 HRF
    clear w2
    by_cases hZ : Z = 0
    · subst hZ
      have HL4 := Lib.hid (HL3.out rfl)
      have hlo6 := HL4.out.2.2
      clear HL3 HL2
      have hC2 : OBlk w3 w.heap.size 32 [.slice KA key.length ka, .int .i64 ck, .slice VA val.length va, .int .i64 pg, .int .i64 ct] := hS3.head
      have hB2 : OBlk w3 p 89 [.int .i64 kind, .int .i64 (P : Int), .int .i64 (sz : Int), .slice (some ⟨ug, 0, none⟩) l.length uc] := hS3.tail.head
      have hx2 := HX.out.ok hS3 (fun E hE => by simp [hE])
      have hpz := hB2.lt
      have hcz := hC2.lt
      obtain ⟨b0, b1, b2, b3⟩ := cells4 hB2
      obtain ⟨c0, c1, c2, c3, c4⟩ := cells5 hC2
      have f2 := hB2.frozen (j := 2) (by simp)
      have j1 : IntKind.i64.wrap ((2 : Int) + (lo : Int)) = (2 : Int) + (lo : Int) := by rw [IntKind.wrap_i64]; omega
      have j2 : IntKind.i64.wrap (((2 : Int) + (lo : Int)) - ((2 : Int) + (lz : Int))) = ((2 : Int) + (lo : Int)) - ((2 : Int) + (lz : Int)) := by rw [IntKind.wrap_i64]; omega
      have j3 : IntKind.i64.wrap ((sz : Int) + (((2 : Int) + (lo : Int)) - ((2 : Int) + (lz : Int)))) = (sz : Int) + (((2 : Int) + (lo : Int)) - ((2 : Int) + (lz : Int))) := by rw [IntKind.wrap_i64]; omega
      go_upto_region 7 with (fail)
      obtain ⟨bx, hbx⟩ : ∃ b, w.heap.size = b := ⟨_, rfl⟩
      rw [hbx] at hS3 hC2 hcz c0 c1 c2 c3 c4 ⊢
      clear hbx
      go_cut [] (fun wx => Sep w0 wx (blkE p 89 [.int .i64 kind, .int .i64 (P : Int), .int .i64 ((sz : Int) + ((2 + (lo : Int)) - (2 + (lz : Int)))), .slice (some ⟨ug, 0, none⟩) l.length uc] :: blkE bx 32 [.slice KA key.length ka, .int .i64 ck, .slice VA val.length va, .int .i64 pg, .int .i64 ct] :: ownE 32 5 (.slice (some ⟨ug, 0, none⟩) l.length uc) l.length (flatC l) :: (cellsE l ++ L)))
      case first =>
        go_region_law
          (first
            | (go_simp; go_at_call 53; refine (HLO.out _ (hx2.below ((Below.refl _ _).drew))).mono ?_; rintro e w4 ⟨rfl, hw4⟩; have hS4 := hS3.drew.below hw4; have hB3 := hB2.drew.below hw4 hpz; obtain ⟨d0, d1, d2, d3⟩ := cells4 hB3; have g2 := hB3.frozen (j := 2) (by simp))
            | fail)
        all_goals
          go_wp2_with fail
          go_meet
          exact hS4.sw1.setCell 2 (.int .i64 ((sz : Int) + ((2 + (lo : Int)) - (2 + (lz : Int)))))
      case rest =>
        have hS5 := hcut
        clear hcut hS3 hC2 hB2 hx2 hpz hcz b0 b1 b2 b3 c0 c1 c2 c3 c4 f2 HLO HLZ
        have hB5 : OBlk wc p 89 [.int .i64 kind, .int .i64 (P : Int), .int .i64 ((sz : Int) + ((2 + (lo : Int)) - (2 + (lz : Int)))), .slice (some ⟨ug, 0, none⟩) l.length uc] := hS5.head
        have hC5 : OBlk wc bx 32 [.slice KA key.length ka, .int .i64 ck, .slice VA val.length va, .int .i64 pg, .int .i64 ct] := hS5.tail.head
        obtain ⟨b0, b1, b2, b3⟩ := cells4 hB5
        obtain ⟨c0, c1, c2, c3, c4⟩ := cells5 hC5
        have hx5 := HX.out.ok hS5.drew (fun E hE => by simp [hE])
        have hO := own_sep hS5.drew _ hx5 HX.out.s1 HX.out.s2
        unfold cellV at hO
        simp only at hO
        clear hB5 hC5
        go_upto_region 8 with (fail)
        go_region_law
          (first
            | (go_simp; go_at_call 71; refine hO.mono ?_; rintro e w6 ⟨⟨ykv, yvv, yc⟩, rfl, hyc, hS6⟩; simp only at hyc; subst hyc; obtain ⟨K2, kc, rfl⟩ := Own.slice (show OwB w6 0 ykv key from hS6.head); obtain ⟨V2, vc, rfl⟩ := Own.slice (show OwB w6 0 yvv val from hS6.tail.head); have hB6 : OBlk w6 p 89 [.int .i64 kind, .int .i64 (P : Int), .int .i64 ((sz : Int) + ((2 + (lo : Int)) - (2 + (lz : Int)))), .slice (some ⟨ug, 0, none⟩) l.length uc] := hS6.tail.tail.head; obtain ⟨e0, e1, e2, e3⟩ := cells4 hB6; have hO6 : Own w6 0 32 5 (.slice (some ⟨ug, 0, none⟩) l.length uc) l.length (flatC l) := (hS6.of_mem (E := ownE 32 5 (.slice (some ⟨ug, 0, none⟩) l.length uc) l.length (flatC l)) (by simp)); obtain ⟨⟨_, r0⟩, ⟨_, r1⟩, ⟨_, r2⟩, ⟨_, r3⟩, ⟨_, r4⟩⟩ := hO6.cells5k hkl; obtain ⟨s0, s1, s2, s3, s4⟩ := hO6.froz5k hkl)
            | fail)
        all_goals
          have hset := hO6.set5k hkl ⟨.slice K2 key.length kc, .slice V2 val.length vc, ⟨key, ck, val, pg, ct⟩⟩
          rw [List.set_eq_take_append_cons_drop, if_pos hkl] at hset
          have hS7 := Sep.upd (E' := ownE 32 5 (.slice (some ⟨ug, 0, none⟩) l.length uc) l.length (flatC (l.take k ++ (⟨.slice K2 key.length kc, .slice V2 val.length vc, ⟨key, ck, val, pg, ct⟩⟩ : CV) :: l.drop (k + 1)))) (show Sep w0 w6 (ownE 32 5 (.slice (some ⟨ug, 0, none⟩) l.length uc) l.length (flatC l) :: bytesE (.slice K2 key.length kc) key :: bytesE (.slice V2 val.length vc) val :: blkE p 89 [.int .i64 kind, .int .i64 (P : Int), .int .i64 ((sz : Int) + ((2 + (lo : Int)) - (2 + (lz : Int)))), .slice (some ⟨ug, 0, none⟩) l.length uc] :: blkE bx 32 [.slice KA key.length ka, .int .i64 ck, .slice VA val.length va, .int .i64 pg, .int .i64 ct] :: (cellsE l ++ L)) from Sep.sw4 hS6) (Turn.of_grown (grown5 w6 ug k _ _ _ _ _) (fun _ e => by rw [← Option.some.inj e]; rfl)) hset (fun g hg => ⟨.inl hg, (Own.lt hset g hg).2⟩)
          have hS9 := Sep.csSet (by simp only [List.length_append, List.length_cons, List.length_take, List.length_drop]; omega) hkl (Sep.push3 (Sep.pick (L := [_, _, _, _, _]) [1, 2, 0, 3] (by decide) rfl hS7))
          have HS9 := Lib.hid (Sep.pgShut hS9.sw1)
          clear hS9 hS7 hS6 hset
          go_wp2_with fail
          go_ret
          refine ⟨.slice (some ⟨ug, 0, none⟩) l.length uc, l.take k ++ (⟨.slice K2 key.length kc, .slice V2 val.length vc, ⟨key, ck, val, pg, ct⟩⟩ : CV) :: l.drop (k + 1), rfl, HL4.out.1 _ rfl, hr.with_ (y := ⟨.slice K2 key.length kc, .slice V2 val.length vc, ⟨key, ck, val, pg, ct⟩⟩) ⟨HX.out.r1, HX.out.r2, HX.out.r3⟩ _ _, ?_⟩
          have h9 := HS9.out
          have e9 := HL4.out.2.1 (⟨.slice K2 key.length kc, .slice V2 val.length vc, ⟨key, ck, val, pg, ct⟩⟩ : CV) rfl
          rw [← e9] at h9
          exact h9
    · have HZ := Lib.hid hZ
      go_wp2_with fail
      go_ret
      refine ⟨.slice (some ⟨ug, 0, none⟩) l.length uc, l, rfl, HL2.out HZ.out, hr, ?_⟩
      rw [HSZ.out]
      exact hS3.tail.pgClose
end Go.Proofs.Ytonbcipofakpjaa

-- plain.Page.Remove and Cell, in words of pieces: walks.
namespace Go.Proofs.Ytonbcipofakpjaa
open Go.RowKit
set_option maxRecDepth 100000 in
set_option maxHeartbeats 2000000 in
theorem PRemove_sep {w0 w : World} {L : List Ent} {p P : Nat} {kind : Int} {u : Value} {l : List CV} (hS : Sep w0 w (pgE p kind P (sizeF (pcs l) : Nat) u l :: L)) (hr : RngC l) (hk : Wk kind P (pcs l)) (hP : P ≤ 65536) (i : Int) (hi64 : i64r i) :
    Calls Try.prog 63 #[.pointer (some ⟨p, 0, none⟩), .int .i64 i] w (PgPost w0 L p P kind (remZ (pcs l) i) (remL (pcs l) i)) := by
  have hlen := hk.len hP
  rw [pcs_length] at hlen
  have hsz := hk.size
  have hS1 := hS.pgOpen
  have hrd := hS1.openRd (u := u) (l := l) (by simp) (fun E hE => by simp [hE]) hr
  obtain ⟨U, uc, rfl, hm, hc⟩ := hrd.slice
  have hbp : OBlk _ p 89 [.int .i64 kind, .int .i64 (P : Int), .int .i64 (sizeF (pcs l) : Nat), .slice U l.length uc] := hS1.head
  obtain ⟨b0, b1, b2, b3⟩ := cells4 hbp
  by_cases hin : i < 0 ∨ (l.length : Int) ≤ i
  · have hz : remZ (pcs l) i = 64 := by unfold remZ; rw [if_pos (by rw [pcs_length]; exact hin)]
    rw [hz]
    have HL2 : Hid (pcs l = remL (pcs l) i) := Lib.hid (by unfold remL; rw [if_pos (by rw [pcs_length]; exact hin)])
    clear hz hrd hbp hS
    rcases hin with h | h
    · go_enter Try.func63, Try.ntmps63
      go_wp2_with fail
      go_ret
      exact ⟨_, l, rfl, HL2.out, hr, hS1.pgClose⟩
    · have h' : ¬ i < 0 := by omega
      go_enter Try.func63, Try.ntmps63
      go_wp2_with fail
      go_ret
      exact ⟨_, l, rfl, HL2.out, hr, hS1.pgClose⟩
  · obtain ⟨k, rfl⟩ : ∃ k : Nat, i = (k : Int) := ⟨i.toNat, by omega⟩
    have hkl : k < l.length := by omega
    have hz : remZ (pcs l) (k : Int) = 0 := by unfold remZ; rw [if_neg (by rw [pcs_length]; exact hin)]
    have HL2 : Hid (pcs (l.take k ++ l.drop (k + 1)) = remL (pcs l) (k : Int)) := Lib.hid (by unfold remL; rw [if_neg (by rw [pcs_length]; exact hin)]; exact pcs_rem l k)
    rw [hz]
    have hkp : k < (pcs l).length := by rw [pcs_length]; exact hkl
    have hpk : (pcs l)[k] = l[k].c := pcs_at hkl
    have hlz : 2 + longF l[k].c ≤ sizeF (pcs l) := by have := longs_mem (List.getElem_mem hkp); rw [hpk] at this; exact this
    have HSZ : Hid (((sizeF (pcs (l.take k ++ l.drop (k + 1))) : Nat) : Int) = (sizeF (pcs l) : Nat) - (2 + (longF l[k].c : Int))) := Lib.hid (by
      have := rem_size (pcs l) hkp
      rw [pcs_rem]
      rw [hpk] at this
      omega)
    have hzx := hrd.ok _ (List.getElem_mem hkl)
    obtain ⟨ad, hUad, q0, q1, q2, q3, q4⟩ := hrd.at_ hkl
    obtain ⟨ug, rfl⟩ := Own.some5 (hS1.tail.head : Own _ 0 32 5 (.slice U l.length uc) l.length (flatC l)) (by omega)
    have hUad' : ad = ⟨ug, 0, none⟩ := (Option.some.inj hUad).symm
    subst hUad'
    simp only [add_row, Nat.zero_add] at q0 q1 q2 q3 q4
    have hloz : ∀ W, l[k].ok W → Calls Try.prog 53 #[cellV l[k]] W fun e w' => e = .returned (.int .i64 (longF l[k].c : Nat)) ∧ Below W.heap.size W w' := fun W hW => long_any l[k] W hW (by have : l[k].c.key.length + l[k].c.val.length ≤ 131072 := okc_fit (may_ok (hk.may _ (by rw [← hpk]; exact List.getElem_mem hkp))) hP; omega)
    generalize remL (pcs l) (k : Int) = lp at *
    generalize l[k] = z at *
    generalize sizeF (pcs l) = sz at *
    have i1 : ¬ (k : Int) < 0 := by omega
    have i2 : ¬ (l.length : Int) ≤ (k : Int) := by omega
    have i2' : (k : Int) < (l.length : Int) := by omega
    clear hz hin hS hk hrd hpk hkp hUad
    obtain ⟨KB, kb, VB, vb, zkey, zck, zval, zpg, zct, rfl, -, -⟩ := CV.form hzx
    simp only at hloz hlz q0 q1 q2 q3 q4 HSZ ⊢
    unfold cellV at hloz
    simp only at hloz
    have HLZ := Lib.hid hloz
    clear hloz
    generalize longF ⟨zkey, zck, zval, zpg, zct⟩ = lz at *
    have i4 : IntKind.i64.wrap ((2 : Int) + (lz : Int)) = (2 : Int) + (lz : Int) := by rw [IntKind.wrap_i64]; omega
    have i5 : IntKind.i64.wrap ((k : Int) + 1) = (k : Int) + 1 := by rw [IntKind.wrap_i64]; omega
    have i6 : IntKind.i64.wrap ((sz : Int) - ((2 : Int) + (lz : Int))) = (sz : Int) - ((2 : Int) + (lz : Int)) := by rw [IntKind.wrap_i64]; omega
    have hpz := hbp.lt
    have f2 := hbp.frozen (j := 2) (by simp)
    go_enter Try.func63, Try.ntmps63
    go_upto_region 3 with (fail)
    go_cut [] (fun wx => Sep w0 wx (blkE p 89 [.int .i64 kind, .int .i64 (P : Int), .int .i64 ((sz : Int) - (2 + (lz : Int))), .slice (some ⟨ug, 0, none⟩) l.length uc] :: ownE 32 5 (.slice (some ⟨ug, 0, none⟩) l.length uc) l.length (flatC l) :: (cellsE l ++ L)))
    case first =>
      go_region_law
        (first
          | (go_simp; go_at_call 53; refine (HLZ.out _ (hzx.below ((Below.refl _ _).drew))).mono ?_; rintro e w4 ⟨rfl, hw4⟩; have hS4 := hS1.drew.below hw4; have hB3 := hbp.drew.below hw4 hpz; obtain ⟨d0, d1, d2, d3⟩ := cells4 hB3; have g2 := hB3.frozen (j := 2) (by simp))
          | fail)
      all_goals
        go_wp2_with fail
        go_meet
        exact hS4.setCell 2 (.int .i64 ((sz : Int) - (2 + (lz : Int))))
    case rest =>
      have hS5 := hcut
      clear hcut hS1 hbp hzx b0 b1 b2 b3 q0 q1 q2 q3 q4 f2 HLZ hpz
      have hB5 : OBlk wc p 89 [.int .i64 kind, .int .i64 (P : Int), .int .i64 ((sz : Int) - (2 + (lz : Int))), .slice (some ⟨ug, 0, none⟩) l.length uc] := hS5.head
      obtain ⟨b0, b1, b2, b3⟩ := cells4 hB5
      clear hB5
      have hrd5 := hS5.openRd (u := .slice (some ⟨ug, 0, none⟩) l.length uc) (l := l) (by simp) (fun E hE => by simp [hE]) hr
      have hD := DeleteS_any (w := wc) (u := .slice (some ⟨ug, 0, none⟩) l.length uc) (l := l) (hS5.of_mem (E := ownE 32 5 (.slice (some ⟨ug, 0, none⟩) l.length uc) l.length (flatC l)) (by simp)) (flatC_one hrd5.ok) (by omega) k hkl
      clear hrd5
      have hlN : (l.take k ++ l.drop (k + 1)).length = l.length - 1 := by simp only [List.length_append, List.length_take, List.length_drop]; omega
      have HLN := Lib.hid hlN
      clear hlN
      go_wp2_with (first
        | (go_at_call 87; (with_reducible refine hD.mono ?_); rintro e w7 hI7; obtain ⟨v7, rfl, hS7⟩ := Sep.insAt hS5.sw1 hI7; rw [HLN.out] at hS7; obtain ⟨B7, c7, rfl⟩ := Own.slice (OwnAt7 hS7); have hB7 : OBlk w7 p 89 [.int .i64 kind, .int .i64 (P : Int), .int .i64 ((sz : Int) - (2 + (lz : Int))), .slice (some ⟨ug, 0, none⟩) l.length uc] := hS7.tail.head; obtain ⟨x0, x1, x2, x3⟩ := cells4 hB7; have g3 := hB7.frozen (j := 3) (by simp))
        | fail)
      go_ret
      have hS8 := hS7.sw1.setCell 3 (.slice B7 (l.length - 1) c7)
      simp only [List.set_cons_succ, List.set_cons_zero] at hS8
      have hS9 := (Sep.csDel HLN.out hkl hS8.sw1.push1).sw1.pgShut
      refine ⟨.slice B7 (l.length - 1) c7, l.take k ++ l.drop (k + 1), rfl, HL2.out, hr.rem _ _, ?_⟩
      rw [HSZ.out]
      exact hS9
end Go.Proofs.Ytonbcipofakpjaa
