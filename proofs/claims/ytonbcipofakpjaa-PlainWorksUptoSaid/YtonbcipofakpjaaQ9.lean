/- Texts joined: espalierref03.Book; Pieces of memory; copy into bytes that the call owns, at a place.; Step laws for regions that draw; espalierref03.Lent, AsLent; espalierref03.AsLent; Pieces of memory -/
import Derived.Test.YtonbcipofakpjaaQ2
import Derived.Test.YtonbcipofakpjaaQ3
import Derived.Test.YtonbcipofakpjaaQ8
import Derived.Deep.DeepCutAuto
import Derived.Deep.QuietTactic
import Derived.BigQuiet
import Derived.Deep.RegionHeld3
-- espalierref03.Book: marked, Take, Owned: walks.
namespace Go.Proofs.Ytonbcipofakpjaa
open Go.RowKit
set_option maxRecDepth 20000 in
set_option maxHeartbeats 2000000 in
theorem marked_any (v : Value) (n m : Nat) (w : World) (hv : RdB w v (mkL n m)) (hn : n ≤ 1000000000000) : Calls Try.prog 55 #[v, .int .i64 (n : Int)] w fun e w' => e = .returned (.bool true) ∧ w = w' := by
  have hm := hv.le
  obtain ⟨A, c, rfl, hc⟩ := hv.form
  rw [mkL_length] at hc hv hm ⊢
  go_enter Try.func55, Try.ntmps55
  go_wp2_with fail
  go_loopw [5] (fun i wr => ∃ q : Nat, q ≤ m ∧ i = .int .i64 (q : Int) ∧ w = wr) (fun i _ => m - (intOf i).toNat)
  case atStart => exact ⟨0, Nat.zero_le _, rfl, rfl⟩
  case round =>
    obtain ⟨q, hq, rfl, rfl⟩ := hrel
    by_cases hlt : q < m
    · obtain ⟨ad, rfl, hcell⟩ := hv.at_ (j := q) (by rw [mkL_length]; exact hlt)
      rw [mkL_get, ← mrk_val] at hcell
      have i1 : (q : Int) < (m : Int) := by omega
      go_wp2_with fail
      exact ⟨⟨q + 1, by omega, by go_num, trivial⟩, by simp [intOf]; omega⟩
    · obtain rfl : q = m := by omega
      go_wp2_with fail
      go_ret
      exact ⟨rfl, rfl⟩
theorem Own.ne_Tb {w : World} {b n size : Nat} {v : Value} {xs : List Value} {T T' : TypeId} {g : Nat} {cs : List Value} (h : Own w b T size v n xs) (hg : OBlk w g T' cs) (hT : T ≠ T') : some g ≠ v.ownBlock := by
  rcases h.2 with ⟨rfl, _⟩ | ⟨g', cap, cs', rfl, _, hg', _⟩
  · simp [Value.ownBlock]
  · intro e
    simp [Value.ownBlock] at e
    subst e
    exact (hg'.ne hg hT) rfl
/-- A book: its block, its lists. -/
structure BookAt (w : World) (b0 : Nat) (bb : Nat) (v : Value) (vs : List Value) (f : Nat → List UInt8) (T : TypeId := 38) (rest : List Value := []) : Prop where
  blk : OBlk w bb T (v :: rest)
  own : Own w b0 27 1 v vs.length vs
  each : OwLs w 0 vs f
  apart : ApartL vs
def InL (vs : List Value) (b : Nat) : Prop := ∃ (j : Nat) (u : Value), vs[j]? = some u ∧ u.ownBlock = some b
theorem BookAt.below {w w' : World} {b0 bb : Nat} {v : Value} {vs : List Value} {f : Nat → List UInt8} {T : TypeId} {rest : List Value} (h : BookAt w b0 bb v vs f T rest) (hb : Below w.heap.size w w') : BookAt w' b0 bb v vs f T rest :=
  ⟨h.blk.below hb h.blk.lt, Own.below' h.own hb (Nat.le_refl _), h.each.below' hb (Nat.le_refl _), h.apart⟩
set_option maxRecDepth 20000 in
set_option maxHeartbeats 2000000 in
/-- A list comes into the book. -/
theorem Take_gen {T : TypeId} {rest : List Value} (hT1 : 5 ≠ T) (hT2 : 27 ≠ T) (w : World) (b0 bb : Nat) (v : Value) (vs : List Value) (f : Nat → List UInt8) (u : Value) (l : List UInt8) (h : BookAt w b0 bb v vs f T rest) (h0 : b0 ≤ w.heap.size) (hn : vs.length ≤ 100000000) (hu : OwB w 0 u l) (ha : ∀ (j : Nat) (y : Value), vs[j]? = some y → ∀ g, u.ownBlock = some g → y.ownBlock ≠ some g) :
    Calls Try.prog 18 #[.pointer (some ⟨bb, 0, none⟩), u] w fun e w' => (∃ x, e = .returned x) ∧ ∃ v', BookAt w' b0 bb v' (vs ++ [u]) (fun j => if j = vs.length then l else f j) T rest ∧ Turn (fun b => b = bb ∨ v.ownBlock = some b) w w' ∧ (∀ g, v'.ownBlock = some g → v.ownBlock = some g ∨ w.heap.size ≤ g) := by
  obtain ⟨A, c, hv⟩ := Own.slice h.own
  have c0 := h.blk.cell' (j := 0) rfl
  have hone := OwB.one hu
  obtain ⟨A', c', hus⟩ := Own.slice hu
  subst hv
  subst hus
  have HH := Lib.hid h
  have lb := h.blk.lt
  clear h
  go_enter Try.func18, Try.ntmps18
  go_wp2_with (first
    | (at_builtin; refine wp_append_L rfl (.tmp 8) (.tmp 10) rfl b0 _ vs rfl HH.out.own _ hone _ rfl (by omega) h0 ?_; intro v' w' ho hg hk; obtain ⟨V, d, rfl⟩ := Own.slice ho; have hb' := HH.out.blk.grown hg (fun e => HH.out.own.ne_Tb HH.out.blk hT2 e); have c0' := hb'.cell' (j := 0) (u := .slice A vs.length c) rfl; have f0' := hb'.frozen (j := 0) (by simp))
    | fail)
  refine bodyPost_end (results_none rfl _ _ _) rfl ?_
  have hg2 := grownBy_setCell w' ⟨bb, 0, none⟩ (.slice V (vs.length + 1) d)
  have hh := HH.out
  have hbT : ∀ {x : Value} {m : List UInt8}, OwB w 0 x m → OwB (w'.setCell ⟨bb, 0, none⟩ (.slice V (vs.length + 1) d)) 0 x m := fun {x m} hx => by
    have h1 : OwB w' 0 x m := Own.grown hx hg (fun g hg' e => hx.ne_own hh.own e.symm (by rw [hg']))
    exact Own.grown h1 hg2 (fun g hg' e => OwB.ne_blk h1 hb' hT1 (by rw [hg', e]))
  refine ⟨⟨_, rfl⟩, .slice V (vs.length + 1) d, ⟨hb'.set 0 _, ?_, ?_, ?_⟩, ?_, ?_⟩
  · rw [List.length_append]
    exact Own.grown ho hg2 (fun g hg' e => ho.ne_Tb hb' hT2 (by rw [hg', e]))
  · intro j y hj
    rcases Nat.lt_or_ge j vs.length with hlt | hge
    · rw [List.getElem?_append_left hlt] at hj
      show OwB _ 0 y (if j = vs.length then l else f j)
      rw [if_neg (show ¬ j = vs.length by omega)]
      exact hbT (hh.each j y hj)
    · rw [List.getElem?_append_right hge] at hj
      have hj0 : j = vs.length := by
        have := (List.getElem?_eq_some_iff.mp hj).1
        simp at this; omega
      subst hj0
      simp at hj
      subst hj
      show OwB _ 0 _ (if vs.length = vs.length then l else f vs.length)
      rw [if_pos rfl]
      exact hbT hu
  · intro i j y y' hij hi hj g hg' e
    have split : ∀ (i : Nat) (y : Value), (vs ++ [Value.slice A' l.length c'])[i]? = some y → (i < vs.length ∧ vs[i]? = some y) ∨ (i = vs.length ∧ y = .slice A' l.length c') := fun i y hi => by
      rcases Nat.lt_or_ge i vs.length with hlt | hge
      · rw [List.getElem?_append_left hlt] at hi
        exact .inl ⟨hlt, hi⟩
      · rw [List.getElem?_append_right hge] at hi
        have h0 : i = vs.length := by
          have := (List.getElem?_eq_some_iff.mp hi).1
          simp at this; omega
        subst h0
        simp at hi
        exact .inr ⟨rfl, hi.symm⟩
    rcases split i y hi with ⟨h1, h2⟩ | ⟨h1, rfl⟩
    · rcases split j y' hj with ⟨h3, h4⟩ | ⟨h3, rfl⟩
      · exact hh.apart i j y y' hij h2 h4 g hg' e
      · exact ha i y h2 g e.symm hg'
    · rcases split j y' hj with ⟨h3, h4⟩ | ⟨h3, rfl⟩
      · exact ha j y' h4 g hg' e.symm
      · omega
  · exact (Turn.of_grown hg (fun k e => .inr e)).grown hg2 (fun b e => by cases e; exact .inl (.inl rfl))
  · intro g hg'
    rcases hk with e | e
    · exact .inl (e ▸ hg')
    · right
      have := e.symm.trans hg'
      injection this with this
      omega

theorem Take_any (w : World) (b0 bb : Nat) (v : Value) (vs : List Value) (f : Nat → List UInt8) (u : Value) (l : List UInt8) (h : BookAt w b0 bb v vs f) (h0 : b0 ≤ w.heap.size) (hn : vs.length ≤ 100000000) (hu : OwB w 0 u l) (ha : ∀ (j : Nat) (y : Value), vs[j]? = some y → ∀ g, u.ownBlock = some g → y.ownBlock ≠ some g) :
    Calls Try.prog 18 #[.pointer (some ⟨bb, 0, none⟩), u] w fun e w' => (∃ x, e = .returned x) ∧ ∃ v', BookAt w' b0 bb v' (vs ++ [u]) (fun j => if j = vs.length then l else f j) ∧ Turn (fun b => b = bb ∨ v.ownBlock = some b) w w' ∧ (∀ g, v'.ownBlock = some g → v.ownBlock = some g ∨ w.heap.size ≤ g) :=
  Take_gen (by decide) (by decide) w b0 bb v vs f u l h h0 hn hu ha
theorem OBlk.grownL {T : TypeId} (hT1 : 5 ≠ T) {w w' : World} {bb : Nat} {cs : List Value} {u : Value} {l : List UInt8} {b : Nat} (h : OBlk w bb T cs) (hu : OwB w b u l) (hg : w.grownBy w' u.ownBlock) : OBlk w' bb T cs :=
  h.grown hg (fun e => OwB.ne_blk hu h hT1 e)
set_option maxRecDepth 100000 in
set_option maxHeartbeats 8000000 in
theorem BookOwned_gen {T : TypeId} {rest : List Value} (hT1 : 5 ≠ T) (hT2 : 27 ≠ T) (v : Value) (vs : List Value) (f : Nat → List UInt8) (b0 bb : Nat) (w : World) (h : BookAt w b0 bb v vs f T rest) (hn : vs.length ≤ 8388608) (hsz : ∀ j, j < vs.length → (f j).length ≤ 1000000000) :
    Calls Try.prog 19 #[.pointer (some ⟨bb, 0, none⟩)] w fun e w' => e = .returned (.bool true) ∧ Turn (InL vs) w w' ∧ OwLs w' 0 vs (fun j => mkL j (f j).length) := by
  obtain ⟨hblk, hv0, hl, ha⟩ := h
  have hv : Own w 0 27 1 v vs.length vs := Own.low hv0 (Nat.zero_le _)
  obtain ⟨A, cv, rfl⟩ := hv.slice
  clear hv0
  go_enter Try.func19, Try.ntmps19
  go_wp2_with fail
  go_loopw [3] (fun i wr => ∃ k : Nat, i = .int .i64 (k : Int) ∧ k ≤ vs.length ∧ Own wr 0 27 1 (.slice A vs.length cv) vs.length vs ∧ OwLs wr 0 vs (markF f k) ∧ OBlk wr bb T (.slice A vs.length cv :: rest) ∧ Turn (InL vs) w wr)
    (fun i _ => vs.length - (intOf i).toNat)
  case atStart => exact ⟨0, rfl, Nat.zero_le _, hv, fun j u hj => by simpa [markF] using hl j u hj, hblk, Turn.refl _ _⟩
  case round =>
    clear hv hl hblk
    obtain ⟨k, rfl, hk, hv, hl, hblk, hT⟩ := hrel
    have c0 := hblk.cell' (j := 0) rfl
    by_cases hlt : k < vs.length
    · obtain ⟨gL, rfl⟩ : ∃ gL, A = some ⟨gL, 0, none⟩ := by
        rcases hv.form with ⟨h, h0⟩ | ⟨g, c, h, _⟩
        · omega
        · injection h with h; exact ⟨g, h⟩
      have hku : vs[k]? = some vs[k] := List.getElem?_eq_getElem hlt
      have how := hl k _ hku
      have hcell := hv.cells k _ hku
      have hlen : (markF f k k) = f k := by simp [markF]
      rw [hlen] at how
      obtain ⟨B, c, hform⟩ := how.slice
      rw [hform] at hku hcell
      have HU := Lib.hid hku
      have hm1 := hsz k hlt
      clear hlen how hform hku
      go_wp2_with fail
      obtain ⟨wq, rfl⟩ : ∃ wq, wq = wr := ⟨_, rfl⟩
      go_loopw [5] (fun i wi => ∃ q : Nat, i = .int .i64 (q : Int) ∧ q ≤ (f k).length ∧ Own wi 0 27 1 (.slice (some ⟨gL, 0, none⟩) vs.length cv) vs.length vs ∧ OwLs wi 0 vs (markQ f k q) ∧ OBlk wi bb T (.slice (some ⟨gL, 0, none⟩) vs.length cv :: rest) ∧ Turn (InL vs) w wi)
        (fun i _ => (f k).length - (intOf i).toNat)
      case atStart => exact ⟨0, rfl, Nat.zero_le _, hv, fun j u hj => by rw [markQ_0]; exact hl j u hj, hblk, hT⟩
      case round =>
        clear hv hl hblk hT hcell c0
        obtain ⟨q, rfl, hq, hv, hl, hblk, hT⟩ := hrel
        by_cases hql : q < (f k).length
        · have how := hl k _ HU.out
          have hlen : (markQ f k q k).length = (f k).length := by simp [markQ, mkL_length]; omega
          obtain ⟨g, rfl⟩ : ∃ g, B = some ⟨g, 0, none⟩ := by
            rcases how.form with ⟨_, h0⟩ | ⟨g, c, h, _⟩
            · rw [h0] at hlen; simp at hlen; omega
            · injection h with h; exact ⟨g, h⟩
          have hc2 := how.cell (j := q) (by omega)
          have hf2 := how.frozen (j := q) (by omega)
          have hgb := how.lt g rfl
          have hne := how.ne_own hv rfl
          have hnb := fun x => hblk.far (p := ⟨g, q, none⟩) (fun e => OwB.ne_blk how hblk hT1 (by rw [e]; rfl)) x
          have HNB := Lib.hid hnb
          have HIN : Hid (InL vs g) := Lib.hid ⟨k, _, HU.out, rfl⟩
          clear hnb
          generalize ((markQ f k q k)[q]'(by omega)).toNat = y at hc2
          clear how hlen
          go_wp2_with fail
          go_roundw
          case rel =>
            refine ⟨q + 1, by go_num, by omega, ?_, ?_, HNB.out _, hT.setCell _ _ (.inl HIN.out)⟩
            · exact hv.far (p := ⟨g, q, none⟩) hne _
            · rw [mrk_val]
              exact hl.set ha HU.out q (mrk k q) (markQ_set f k q hql) (fun j hj => markQ_ne f k q j hj)
          case measure => simp [intOf]; omega
        · obtain rfl : q = (f k).length := by omega
          go_wp2_with fail
          go_roundw
          case rel => exact ⟨k + 1, by go_num, by omega, hv, fun j u hj => by rw [← markQ_n]; exact hl j u hj, hblk, hT⟩
          case measure => simp [intOf]; omega
    · obtain rfl : k = vs.length := by omega
      have hl2 : ∀ (j : Nat) (u : Value), vs[j]? = some u → OwB wr 0 u (mkL j (f j).length) := fun j u hj => by
        have hjl := (List.getElem?_eq_some_iff.mp hj).1
        have := hl j u hj
        simpa [markF, hjl] using this
      clear hl
      go_wp2_with fail
      obtain ⟨w2, rfl⟩ : ∃ w2, w2 = wr := ⟨_, rfl⟩
      have hw2 := hT.size
      go_loopw [6, 7] (fun gr i wr => ∃ (k : Nat) (es : List Value), i = .int .i64 (k : Int) ∧ k ≤ vs.length ∧ es.length = 5 * k ∧ Own wr w2.heap.size 27 1 gr es.length es ∧
          (∀ (j : Nat) (e : Value), es[j]? = some e → (∃ m, EOk wr 0 (.slice none 0 0) 0 0 e m (j / 5)) ∧ ∀ (i : Nat) (u : Value), k ≤ i → vs[i]? = some u → ∀ g, e.ownBlock = some g → u.ownBlock ≠ some g) ∧
          Own wr 0 27 1 (.slice A vs.length cv) vs.length vs ∧ (∀ (j : Nat) (u : Value), vs[j]? = some u → OwB wr 0 u (mkL j (f j).length)) ∧ (∀ (j : Nat) (u : Value), vs[j]? = some u → ∀ g, u.ownBlock = some g → g < w2.heap.size) ∧
          OBlk wr bb T (.slice A vs.length cv :: rest) ∧ Turn (InL vs) w wr ∧ w2.heap.size ≤ wr.heap.size)
        (fun _ i _ => vs.length - (intOf i).toNat)
      case atStart => exact ⟨0, [], rfl, Nat.zero_le _, rfl, Own.nil _ _ _ _, fun j e h => by simp at h, hv, hl2, fun j u hj g hg => ((hl2 j u hj).lt g hg).2, hblk, hT, Nat.le_refl _⟩
      case round =>
        have hvlt := fun g h => (hv.lt g h).2
        have HV := Lib.hid hvlt
        clear hvlt hv hl2 hT c0 hblk
        obtain ⟨k, es, rfl, hk, hes, hgr, hE, hv, hl, hs, hblk, hT, hsz2⟩ := hrel
        have c0 := hblk.cell' (j := 0) rfl
        by_cases hlt : k < vs.length
        · obtain ⟨gL, rfl⟩ : ∃ gL, A = some ⟨gL, 0, none⟩ := by
            rcases hv.form with ⟨h, h0⟩ | ⟨g, c, h, _⟩
            · omega
            · injection h with h; exact ⟨g, h⟩
          have hku : vs[k]? = some vs[k] := List.getElem?_eq_getElem hlt
          have how := hl k _ hku
          have hcell := hv.cells k _ hku
          generalize vs[k] = u at *
          have hm1 := hsz k hlt
          have HU := Lib.hid hku
          have HES := Lib.hid hes
          obtain ⟨G, cG, rfl⟩ := hgr.slice
          clear hku
          rw [hes]
          clear hes
          go_wp2_with fail
          obtain ⟨wq, rfl⟩ : ∃ wq, wq = wr := ⟨_, rfl⟩
          go_loopw [6, 8, 9] (fun gr x j wi => ∃ (q : Nat) (es : List Value), j = .int .i64 (q : Int) ∧ q ≤ 20 ∧ InvQ (InL vs) w w2.heap.size 0 vs f (.slice (some ⟨gL, 0, none⟩) vs.length cv) k q gr x es wi ∧ OBlk wi bb T (.slice (some ⟨gL, 0, none⟩) vs.length cv :: rest))
            (fun _ _ j _ => 20 - (intOf j).toNat)
          case atStart =>
            refine ⟨0, es, rfl, by omega, ⟨HES.out, ?_, how, ?_, ?_, ?_, hv, fun j u _ hu => hl j u hu, hs, hT, fun g hg => .inl ⟨k, u, HU.out, hg⟩, hw2, hsz2⟩, hblk⟩
            · rw [HES.out]; rw [HES.out] at hgr; exact hgr
            · exact fun j e hj => ⟨⟨(hE j e hj).1.choose, (hE j e hj).1.choose_spec.fresh (fun g hg => (hE j e hj).2 k u (Nat.le_refl _) HU.out g hg)⟩, fun i u' hi hu' => (hE j e hj).2 i u' (Nat.le_of_lt hi) hu'⟩
            · intro u' hu'
              rw [HU.out] at hu'
              injection hu' with hu'
              subst hu'
              exact ⟨how, fun g _ _ => ⟨Nat.le_refl _, rfl⟩⟩
            · exact fun i u' hi hu' g hg hg' => ha k i u u' (fun e => hi e.symm) HU.out hu' g hg hg'.symm
          case round =>
            clear hgr hE hv hl hs hT hsz2 how hcell hblk c0
            obtain ⟨q, es, rfl, hq, hI, hblk⟩ := hrel
            by_cases hql : q < 20
            · have hlen3 := hI.len
              have hc5 : cntQ q ≤ 5 := by unfold cntQ; split <;> split <;> omega
              have hel : es.length ≤ 50000000 := by omega
              have hgr3 := hI.gr3
              have hs2 := hI.size
              have hox := hI.ox
              have HI := Lib.hid hI
              obtain ⟨n, hN⟩ : ∃ n, n = (f k).length + q := ⟨_, rfl⟩
              rw [← hN] at hox
              have HN := Lib.hid hN
              have hnb : n ≤ 2000000000 := by omega
              have hmv := mrk_val k n
              have HMV := Lib.hid hmv
              obtain ⟨X, cX, rfl⟩ := hox.slice' (n := n) (mkL_length _ _)
              clear hlen3 hN hmv hI
              have iq : (q : Int) < 20 := by omega
              go_upto_region 18 with (first
                | (at_builtin; refine wp_append_keep_B1 rfl (.tmp 64) (.tmp 71) rfl 0 _ _ rfl hox (mrk k n) _ (congrArg (Value.int .u8) HMV.out) 5 rfl (by rw [mkL_length]; omega) (Nat.zero_le _) ?_; intro x3 w3 ho3 hg3 hb3 hk3; obtain ⟨B3, c3, rfl⟩ := ho3.slice' (n := n + 1) (by rw [List.length_append, mkL_length]; rfl))
                | fail)
              have hblk3 := hblk.grownL hT1 hox hg3
              have ho1 := OwB.one ho3
              have hgrn := hgr3 _ hg3
              clear hox hgr3
              cases hkq : keptQ q
              · have hd := of_decide_eq_false hkq
                have j1 : ¬ (q : Int) < 3 := by omega
                have j2 : ((q : Int) == 8) = false := beq_eq_false_iff_ne.2 (by omega)
                have j3 : ((q : Int) == 19) = false := beq_eq_false_iff_ne.2 (by omega)
                have HK := Lib.hid hkq
                clear hd hkq
                go_wp2_with fail
                have hN := HN.out
                subst hN
                go_roundw
                case rel => exact ⟨q + 1, es, by go_num, by omega, HI.out.drop hql HK.out ho3 hg3 hb3 hk3, hblk3⟩
                case measure => simp [intOf]; omega
              · have hd := of_decide_eq_true hkq
                have HK := Lib.hid hkq
                clear hkq
                rcases hd with hd | hd | hd
                · have j1 : (q : Int) < 3 := by omega
                  clear hd
                  go_wp2_with (first
                    | (at_builtin; refine wp_append_L rfl (.tmp 83) (.tmp 85) rfl w2.heap.size _ es rfl hgrn _ ho1 27 rfl (by omega) (Nat.le_trans hs2 hg3.size) ?_; intro gr4 w4 hgr4 hg4 _)
                    | fail)
                  have hblk4 := hblk3.grown hg4 (fun e => hgrn.ne_Tb hblk3 hT2 e)
                  have hN := HN.out
                  subst hN
                  go_roundw
                  case rel => exact ⟨q + 1, _, by go_num, by omega, HI.out.step HK.out HV.out ho3 hg3 hb3 hk3 hgr4 hg4, hblk4⟩
                  case measure => simp [intOf]; omega
                · have j1 : ¬ (q : Int) < 3 := by omega
                  have j2 : ((q : Int) == 8) = true := beq_iff_eq.2 (by omega)
                  clear hd
                  go_wp2_with (first
                    | (at_builtin; refine wp_append_L rfl (.tmp 83) (.tmp 85) rfl w2.heap.size _ es rfl hgrn _ ho1 27 rfl (by omega) (Nat.le_trans hs2 hg3.size) ?_; intro gr4 w4 hgr4 hg4 _)
                    | fail)
                  have hblk4 := hblk3.grown hg4 (fun e => hgrn.ne_Tb hblk3 hT2 e)
                  have hN := HN.out
                  subst hN
                  go_roundw
                  case rel => exact ⟨q + 1, _, by go_num, by omega, HI.out.step HK.out HV.out ho3 hg3 hb3 hk3 hgr4 hg4, hblk4⟩
                  case measure => simp [intOf]; omega
                · have j1 : ¬ (q : Int) < 3 := by omega
                  have j2 : ((q : Int) == 8) = false := beq_eq_false_iff_ne.2 (by omega)
                  have j3 : ((q : Int) == 19) = true := beq_iff_eq.2 (by omega)
                  clear hd
                  go_wp2_with (first
                    | (at_builtin; refine wp_append_L rfl (.tmp 83) (.tmp 85) rfl w2.heap.size _ es rfl hgrn _ ho1 27 rfl (by omega) (Nat.le_trans hs2 hg3.size) ?_; intro gr4 w4 hgr4 hg4 _)
                    | fail)
                  have hblk4 := hblk3.grown hg4 (fun e => hgrn.ne_Tb hblk3 hT2 e)
                  have hN := HN.out
                  subst hN
                  go_roundw
                  case rel => exact ⟨q + 1, _, by go_num, by omega, HI.out.step HK.out HV.out ho3 hg3 hb3 hk3 hgr4 hg4, hblk4⟩
                  case measure => simp [intOf]; omega
            · obtain rfl : q = 20 := by omega
              have i1 : ¬ ((20 : Nat) : Int) < 20 := by omega
              have hI' := hI
              have HI := Lib.hid hI'
              have hlen3 := hI.len
              have hc20 : cntQ 20 = 5 := rfl
              rw [hc20] at hlen3
              clear hI hI'
              go_wp2_with fail
              go_roundw
              case rel =>
                have hI := HI.out
                refine ⟨k + 1, es, by go_num, by omega, by omega, hI.own, fun j e hj => ⟨⟨(hI.hE j e hj).1.choose, (hI.hE j e hj).1.choose_spec.fresh (fun g _ h => by cases h)⟩, fun i u' hi hu' => (hI.hE j e hj).2 i u' (by omega) hu'⟩, hI.hv, fun j u' hu' => ?_, hI.hs, hblk, hI.ht, hI.size⟩
                by_cases e : j = k
                · subst e; exact (hI.hk u' hu').1
                · exact hI.hl j u' e hu'
              case measure => simp [intOf]; omega
        · obtain rfl : k = vs.length := by omega
          have hE2 : ∀ (j : Nat) (e : Value), es[j]? = some e → ∃ m, OwB wr 0 e (mkL (j / 5) m) := fun j e hj => by
            obtain ⟨⟨m, h1⟩, _⟩ := hE j e hj
            exact ⟨m, h1.1⟩
          clear hE
          obtain ⟨G, cG, rfl⟩ := hgr.slice
          have hsm : es.length ≤ 50000000 := by omega
          have HE := Lib.hid hE2
          have HL := Lib.hid hl
          clear hE2 hes hl
          go_wp2_with fail
          obtain ⟨w5, rfl⟩ : ∃ w5, w5 = wr := ⟨_, rfl⟩
          go_loopw [10] (fun i wr => ∃ j : Nat, i = .int .i64 (j : Int) ∧ j ≤ vs.length ∧ wr = w5)
            (fun i _ => vs.length - (intOf i).toNat)
          case atStart => exact ⟨0, rfl, Nat.zero_le _, rfl⟩
          case round =>
            obtain ⟨j, rfl, hj, rfl⟩ := hrel
            by_cases hjl : j < vs.length
            · have hju : vs[j]? = some vs[j] := List.getElem?_eq_getElem hjl
              have how := HL.out j _ hju
              have hsj := hsz j hjl
              obtain ⟨gL, rfl⟩ : ∃ gL, A = some ⟨gL, 0, none⟩ := by
                rcases hv.form with ⟨h, h0⟩ | ⟨g, c, h, _⟩
                · omega
                · injection h with h; exact ⟨g, h⟩
              have hcell := hv.cells j _ hju
              have hmk := marked_any _ j (f j).length wr how.rd (by omega)
              generalize vs[j] = e at *
              clear hju how
              go_wp2_with fail
              refine hmk.mono ?_
              rintro e2 w6 ⟨rfl, rfl⟩
              go_wp2_with fail
              exact ⟨⟨j + 1, by go_num, by omega, trivial⟩, by simp [intOf]; omega⟩
            · obtain rfl : j = vs.length := by omega
              go_wp2_with fail
              obtain ⟨w5, rfl⟩ : ∃ w5, w5 = wr := ⟨_, rfl⟩
              go_loopw [12] (fun i wr => ∃ j : Nat, i = .int .i64 (j : Int) ∧ j ≤ es.length ∧ wr = w5)
                (fun i _ => es.length - (intOf i).toNat)
              case atStart => exact ⟨0, rfl, Nat.zero_le _, rfl⟩
              case round =>
                obtain ⟨j, rfl, hj, rfl⟩ := hrel
                by_cases hjl : j < es.length
                · have hju : es[j]? = some es[j] := List.getElem?_eq_getElem hjl
                  obtain ⟨m, how⟩ := HE.out j _ hju
                  obtain ⟨gG, rfl⟩ : ∃ gG, G = some ⟨gG, 0, none⟩ := by
                    rcases hgr.form with ⟨h, h0⟩ | ⟨g, c, h, _⟩
                    · omega
                    · injection h with h; exact ⟨g, h⟩
                  have hcell := hgr.cells j _ hju
                  have hmk := marked_any _ (j / 5) m wr how.rd (by omega)
                  rw [show ((j / 5 : Nat) : Int) = (j : Int) / 5 by omega] at hmk
                  generalize es[j] = e at *
                  clear hju how
                  go_wp2_with fail
                  refine hmk.mono ?_
                  rintro e2 w6 ⟨rfl, rfl⟩
                  go_wp2_with fail
                  exact ⟨⟨j + 1, by go_num, by omega, trivial⟩, by simp [intOf]; omega⟩
                · obtain rfl : j = es.length := by omega
                  go_wp2_with fail
                  go_ret
                  exact ⟨rfl, hT, fun j u hj => HL.out j u hj⟩
theorem BookOwned_any (v : Value) (vs : List Value) (f : Nat → List UInt8) (b0 bb : Nat) (w : World) (h : BookAt w b0 bb v vs f) (hn : vs.length ≤ 8388608) (hsz : ∀ j, j < vs.length → (f j).length ≤ 1000000000) :
    Calls Try.prog 19 #[.pointer (some ⟨bb, 0, none⟩)] w fun e w' => e = .returned (.bool true) ∧ Turn (InL vs) w w' ∧ OwLs w' 0 vs (fun j => mkL j (f j).length) :=
  BookOwned_gen (by decide) (by decide) v vs f b0 bb w h hn hsz
end Go.Proofs.Ytonbcipofakpjaa

-- Pieces of memory: a book.
namespace Go.Proofs.Ytonbcipofakpjaa
open Go.RowKit
/-! ### the book -/
def bkF (xs : List (Value × List UInt8)) (j : Nat) : List UInt8 := (xs.getD j (.slice none 0 0, [])).2
def bookE (bb : Nat) (v : Value) (xs : List (Value × List UInt8)) : Ent :=
  ⟨fun g => g = bb ∨ v.ownBlock = some g ∨ InL (xs.map Prod.fst) g, fun w => BookAt w 0 bb v (xs.map Prod.fst) (bkF xs), fun h k =>
    ⟨k.blk.of_heap (h bb (.inl rfl)), Own.heap k.own (fun g hg => h g (.inr (.inl hg))), fun j u hj => Own.heap (k.each j u hj) (fun g hg => h g (.inr (.inr ⟨j, u, hj, hg⟩))), k.apart⟩⟩
theorem Sep.book {w0 w : World} {L : List Ent} (h : Sep w0 w L) : Sep w0 (w.alloc (.cells #[.slice none 0 0] 38)) (bookE w.heap.size (.slice none 0 0) [] :: L) := by
  refine (h.alloc 38 [.slice none 0 0]).weak (fun hp => ⟨hp, Own.nil _ _ _ _, fun j u hj => by simp at hj, fun i j u u' _ hi => by simp at hi⟩) (fun g hg => ?_)
  rcases hg with rfl | hg | ⟨j, u, hj, _⟩
  · rfl
  · cases hg
  · simp at hj
theorem Take_sep {w0 w : World} {L : List Ent} {bb : Nat} {v u : Value} {xs : List (Value × List UInt8)} {l : List UInt8} (h : Sep w0 w (bookE bb v xs :: bytesE u l :: L)) (hn : xs.length ≤ 100000000) :
    Calls Try.prog 18 #[.pointer (some ⟨bb, 0, none⟩), u] w fun e w' => (∃ x, e = .returned x) ∧ ∃ v', Sep w0 w' (bookE bb v' (xs ++ [(u, l)]) :: L) := by
  have hB : BookAt w 0 bb v (xs.map Prod.fst) (bkF xs) := h.head
  have hU : OwB w 0 u l := h.tail.head
  refine (Take_any w 0 bb v _ _ u l hB (Nat.zero_le _) (by simpa using hn) hU (fun j y hj g hg hy => h.far (List.mem_cons_self ..) g (.inr (.inr ⟨j, y, hj, hy⟩)) hg)).mono ?_
  rintro e w' ⟨hx, v', hb', ht, hv'⟩
  refine ⟨hx, v', h.join.upd (ht.mono fun b hb => .inl (hb.elim .inl (fun h => .inr (.inl h)))) (E' := bookE bb v' (xs ++ [(u, l)])) ?_ (fun g hg => ?_)⟩
  · refine ⟨hb'.blk, by simpa using hb'.own, fun j y hj => ?_, by simpa using hb'.apart⟩
    rw [List.map_append] at hj
    have h1 := hb'.each j y hj
    have hlt := (List.getElem?_eq_some_iff.1 hj).1
    simp only [List.length_append, List.length_map, List.map_cons, List.map_nil, List.length_singleton] at hlt
    have e1 : bkF (xs ++ [(u, l)]) j = if j = (xs.map Prod.fst).length then l else bkF xs j := by
      unfold bkF
      rw [List.length_map]
      by_cases hj' : j = xs.length
      · subst hj'; simp [List.getD]
      · rw [if_neg hj']
        simp [List.getD, List.getElem?_append_left (show j < xs.length by omega)]
    rw [e1]; exact h1
  · have hsz := ht.size
    rcases hg with rfl | hg | ⟨j, y, hj, hy⟩
    · exact ⟨.inl (.inl (.inl rfl)), hb'.blk.lt⟩
    · refine ⟨?_, (Own.lt hb'.own g hg).2⟩
      rcases hv' g hg with h1 | h1
      · exact .inl (.inl (.inr (.inl h1)))
      · exact .inr h1
    · refine ⟨.inl ?_, (Own.lt (hb'.each j y (by simpa using hj)) g hy).2⟩
      rw [List.map_append, List.getElem?_append] at hj
      split at hj
      · exact .inl (.inr (.inr ⟨j, y, hj, hy⟩))
      · right
        rw [List.map_cons, List.map_nil, List.getElem?_singleton] at hj
        split at hj
        · injection hj with hj; rw [← hj] at hy; exact hy
        · cases hj
theorem Owned_sep {w0 w : World} {L : List Ent} {bb : Nat} {v : Value} {xs : List (Value × List UInt8)} (h : Sep w0 w (bookE bb v xs :: L)) (hn : xs.length ≤ 8388608) (hl : ∀ p ∈ xs, p.2.length ≤ 1000000000) :
    Calls Try.prog 19 #[.pointer (some ⟨bb, 0, none⟩)] w fun e w' => e = .returned (.bool true) ∧ Sep w0 w' L := by
  refine (BookOwned_any v _ _ 0 bb w h.head (by simpa using hn) (fun j hj => ?_)).mono ?_
  · rw [List.length_map] at hj
    have e : bkF xs j = xs[j].2 := by simp [bkF, List.getD, hj]
    rw [e]; exact hl _ (List.getElem_mem hj)
  · rintro e w' ⟨rfl, ht, _⟩
    exact ⟨rfl, h.kill (ht.mono fun b hb => .inr (.inr hb))⟩
end Go.Proofs.Ytonbcipofakpjaa

-- copy into bytes that the call owns, at a place.
namespace Go.Proofs.Ytonbcipofakpjaa
open Go.RowKit
theorem splice_append {α : Type} (a b : List α) (o : Nat) (r : List α) (h : o + r.length ≤ a.length) : splice (a ++ b) o r = splice a o r ++ b := by
  unfold splice
  rw [List.take_append_of_le_length (by omega), List.drop_append_of_le_length h]
  simp [List.append_assoc]
theorem splice_take_n {α : Type} (cs : List α) (o n : Nat) (r : List α) (h : o + r.length ≤ n) (hn : n ≤ cs.length) : (splice cs o r).take n = splice (cs.take n) o r := by
  have hl : (cs.take n).length = n := by simp; omega
  have e := splice_append (cs.take n) (cs.drop n) o r (by omega)
  rw [List.take_append_drop] at e
  have h2 : (splice (cs.take n) o r).length = n := by rw [length_splice _ _ _ (by omega)]; exact hl
  rw [e]
  exact List.take_left' h2
section laws
variable {w : World} {ops : Array Oper} {rest : List Oper} {o : Oper} {a : Act} {Q : Exit → Act → World → Prop}
theorem wp_copy_At (hgd : o.guard = none) (d s : Operand)
    (ho : o.op = .call { callee := .builtin .copy, args := #[d, s], argTypes := #[27, 27] })
    (base g n cap off : Nat) (dA : Option Addr) (dLen dCap : Nat) (hd' : a.eval d = .slice dA dLen dCap) (hd : 0 < dLen → dA = some ⟨g, off, none⟩)
    (l : List UInt8) (hown : OwB w base (.slice (some ⟨g, 0, none⟩) n cap) l) (hl : l.length = n) (hfit : off + dLen ≤ n)
    (vx : Value) (m : List UInt8) (hx : a.eval s = vx) (hr : RdB w vx m)
    (h : ∀ w', OwB w' base (.slice (some ⟨g, 0, none⟩) n cap) (splice l off (m.take (min m.length dLen))) → w.grownBy w' (some g) → wpList Try.prog ops Q rest (a.put o.dst (goInt (min m.length dLen : Nat))) w') : wpList Try.prog ops Q (o :: rest) a w := by
  have hown' := hown
  unfold OwB at hown'
  rw [hl] at hown'
  obtain ⟨h0, h1⟩ := hown'
  rcases h1 with ⟨h1, _⟩ | ⟨g', cap', cs, h1, hb, ho2, h2, h3, h4, h5⟩
  · cases h1
  · injection h1 with hA _ hc
    injection hA with hA
    injection hA with hA
    subst hA; subst hc
    rw [Nat.mul_one] at h4 h5
    refine wp_copy hgd d s _ _ ho 5 Try.underlying27 u8_size dA dLen dCap g off hd' cs _ ho2 hd (by omega) vx m.length (bvs m) hx hr.rd (bvs_one m) ?_
    intro w' hw' hgr
    refine h w' ?_ hgr
    have hlr : (m.take (min m.length dLen)).length ≤ dLen := by simp; omega
    have hlen2 : (splice l off (m.take (min m.length dLen))).length = n := by rw [length_splice _ _ _ (by omega)]; exact hl
    unfold OwB
    rw [hlen2]
    have hlb : ((bvs m).take (min m.length dLen)).length ≤ dLen := by rw [← bvs_take, bvs_length]; exact hlr
    refine ⟨by rw [bvs_length, hlen2]; omega, .inr ⟨g, cap, _, rfl, hb, hw', h2, h3, ?_, ?_⟩⟩
    · rw [length_splice _ _ _ (by omega)]; omega
    · rw [Nat.mul_one, splice_take_n _ _ _ _ (by omega) (by omega), h5, bvs_splice, bvs_take]
end laws
end Go.Proofs.Ytonbcipofakpjaa

-- Step laws for regions that draw: string(bytes).
namespace Go.Proofs.Ytonbcipofakpjaa
open Go.RowKit
section laws
variable {w : World} {ops : Array Oper} {o : Oper} {a : Act} {Q : Exit → Act → World → Prop}
theorem step_B_string {K : Act → World → Prop} {E : Prop} (hgd : o.guard = none) (x : Operand) (ho : o.op = .convert 27 9 x) (v : Value) (l : List UInt8) (hx : a.eval x = v) (hr : RdB w v l)
    (h : K (a.put o.dst (.string ⟨l.toArray⟩)) w) :
    if Region.wanted o (yielded ops a.tmps) = true then Oper.wp Try.prog o a w K Q else E := by
  have hw : Region.wanted o (yielded ops a.tmps) = true := by simp [Region.wanted, hgd]
  rw [if_pos hw]
  have hrun := run_B_string hr
  unfold Oper.wp
  simp [execOp, ho, hx, hrun, Result.andThen, Oper.upon]
  exact h
/-- .. of an operation that is guarded, where it is wanted. -/
theorem step_B_string_w {K : Act → World → Prop} {E : Prop} (x : Operand) (ho : o.op = .convert 27 9 x) (hw : Region.wanted o (yielded ops a.tmps) = true) (v : Value) (l : List UInt8) (hx : a.eval x = v) (hr : RdB w v l)
    (h : K (a.put o.dst (.string ⟨l.toArray⟩)) w) :
    if Region.wanted o (yielded ops a.tmps) = true then Oper.wp Try.prog o a w K Q else E := by
  rw [if_pos hw]
  have hrun := run_B_string hr
  unfold Oper.wp
  simp [execOp, ho, hx, hrun, Result.andThen, Oper.upon]
  exact h
/-- append(l, m...) of bytes in a region, where it is wanted. -/
theorem step_append_B_w {K : Act → World → Prop} {E : Prop} (s x : Operand)
    (ho : o.op = .call { callee := .builtin .append, args := #[s, x], argTypes := #[27, 27] }) (hw : Region.wanted o (yielded ops a.tmps) = true)
    (base : Nat) (v : Value) (l : List UInt8) (hs : a.eval s = v) (hown : OwB w base v l)
    (vx : Value) (m : List UInt8) (hx : a.eval x = vx) (hr : RdB w vx m) (hsm : l.length + m.length ≤ 140737488355328) (hbase : base ≤ w.heap.size)
    (h : ∀ v' w', OwB w' base v' (l ++ m) → w.grownBy w' v.ownBlock → (v'.ownBlock = v.ownBlock ∨ v'.ownBlock = some w.heap.size) → K (a.put o.dst v') w') :
    if Region.wanted o (yielded ops a.tmps) = true then Oper.wp Try.prog o a w K Q else E := by
  rw [if_pos hw]
  obtain ⟨i, hi, hz0, hz1, hz2⟩ := info_parts u8_info
  obtain ⟨v', w', hr, h2, h3, h4⟩ := run_append_Own (P := Try.prog) w base _ 27 o.type 5 i _ 1 1 Try.underlying27 hi hz0 hz1 hz2 rfl v l.length (bvs l) hown vx m.length (bvs m) (Rd.src w Try.underlying27 (by omega) hr.rd (bvs_one m)) (by omega) hsm hbase
  unfold Oper.wp execOp
  simp only [ho, resolve, invoke, builtin, Sem.run_bind, Sem.run_pure, Result.andThen_ok, List.map_toArray, List.map_cons, List.map_nil, hs, hx, hr]
  refine h v' w' ?_ h3 h4
  unfold OwB
  rw [List.length_append, bvs_append]
  exact h2
end laws
theorem step_append_B {w : World} {ops : Array Oper} {o : Oper} {a : Act} {Q : Exit → Act → World → Prop} {K : Act → World → Prop} {E : Prop} (hgd : o.guard = none) (s x : Operand)
    (ho : o.op = .call { callee := .builtin .append, args := #[s, x], argTypes := #[27, 27] })
    (base : Nat) (v : Value) (l : List UInt8) (hs : a.eval s = v) (hown : OwB w base v l)
    (vx : Value) (m : List UInt8) (hx : a.eval x = vx) (hr : RdB w vx m) (hsm : l.length + m.length ≤ 140737488355328) (hbase : base ≤ w.heap.size)
    (h : ∀ v' w', OwB w' base v' (l ++ m) → w.grownBy w' v.ownBlock → (v'.ownBlock = v.ownBlock ∨ v'.ownBlock = some w.heap.size) → K (a.put o.dst v') w') :
    if Region.wanted o (yielded ops a.tmps) = true then Oper.wp Try.prog o a w K Q else E :=
  step_append_B_w s x ho (by simp [Region.wanted, hgd]) base v l hs hown vx m hx hr hsm hbase h
end Go.Proofs.Ytonbcipofakpjaa

-- espalierref03.Lent, AsLent: walks.
namespace Go.Proofs.Ytonbcipofakpjaa
open Go.RowKit
def mk9 (j : Nat) : List UInt8 := (List.range j).map fun (i : Nat) => UInt8.ofNat (200 + i)
theorem mk9_length (j : Nat) : (mk9 j).length = j := by simp [mk9]
theorem mk9_succ (j : Nat) : mk9 (j + 1) = mk9 j ++ [UInt8.ofNat (200 + j)] := by unfold mk9; rw [List.range_succ, List.map_append]; rfl
theorem mk9_get (j i : Nat) (h : i < j) : (mk9 j)[i]? = some (UInt8.ofNat (200 + i)) := by
  unfold mk9
  rw [List.getElem?_map, List.getElem?_range h]; rfl
def lent9 (l : List UInt8) (j : Nat) : List UInt8 := l ++ (mk9 j ++ List.replicate (9 - j) 0)
theorem lent9_length (l : List UInt8) (j : Nat) (h : j ≤ 9) : (lent9 l j).length = l.length + 9 := by simp [lent9, mk9_length]; omega
theorem lent9_set (l : List UInt8) (j : Nat) (h : j < 9) : (lent9 l j).set (l.length + j) (UInt8.ofNat (200 + j)) = lent9 l (j + 1) := by
  unfold lent9
  rw [List.set_append_right _ _ (by omega), Nat.add_sub_cancel_left]
  congr 1
  rw [List.set_append_right _ _ (by rw [mk9_length]; exact Nat.le_refl _), mk9_length, Nat.sub_self, mk9_succ, List.append_assoc]
  congr 1
  rw [show 9 - j = (9 - (j + 1)) + 1 by omega, List.replicate_succ, List.set_cons_zero]
  rfl
theorem lent9_start (l : List UInt8) : splice (List.replicate (l.length + 9) 0) 0 (l.take (min l.length (l.length + 9))) = lent9 l 0 := by
  rw [Nat.min_eq_left (by omega), List.take_length]
  unfold splice lent9
  simp [mk9, List.drop_replicate]
def marks9 : List UInt8 := mk9 9
theorem lent9_end (l : List UInt8) : lent9 l 9 = l ++ marks9 := by unfold lent9 marks9; simp
theorem b200 (j : Nat) (h : j < 9) : ((UInt8.ofNat (200 + j)).toNat : Int) = 200 + (j : Int) := by
  rw [UInt8.toNat_ofNat']
  omega
set_option maxHeartbeats 1000000 in
set_option maxRecDepth 20000 in
theorem Lent_any (v : Value) (l : List UInt8) (w : World) (hv : RdB w v l) (hl : l.length ≤ 140737488355328) :
    Calls Try.prog 26 #[v] w fun e w' => ∃ g, e = .returned (.slice (some ⟨g, 0, none⟩) l.length (l.length + 9)) ∧ OwB w' w.heap.size (.slice (some ⟨g, 0, none⟩) (l.length + 9) (l.length + 9)) (l ++ marks9) ∧ Below w.heap.size w w' := by
  obtain ⟨A, c, rfl, hm⟩ := hv.form
  go_enter Try.func26, Try.ntmps26
  go_wp2_with (first
    | (at_make; refine wp_make_B rfl (.tmp 7) (.tmp 7) rfl _ (l.length + 9) rfl rfl (by go_num) (by omega) ?_; intro w1 hb1 hw1 hs1)
    | ((with_reducible refine at_copy ?_); refine wp_copy_B rfl (.tmp 9) (.tmp 10) rfl _ (l.length + 9) _ w.heap.size 0 rfl _ hb1 (fun _ => rfl) (by simp) _ l rfl (hv.below hw1 (Nat.le_refl _)) ?_; intro w2 hb2 hg2; rw [lent9_start] at hb2)
    | fail)
  have hw2 := hw1.grown hg2 hw1.size (fun k hk => Nat.le_of_eq (Option.some.inj hk))
  clear hb1 hw1 hg2
  go_loopw [4] (fun i wr => ∃ d : Nat, d ≤ 9 ∧ i = .int .i64 ((l.length + d : Nat) : Int) ∧ OBlk wr w.heap.size 5 (bvs (lent9 l d)) ∧ Below w.heap.size w wr) (fun i _ => l.length + 9 - (intOf i).toNat)
  case atStart => exact ⟨0, by omega, rfl, hb2, hw2⟩
  case round =>
    clear hb2 hw2
    obtain ⟨d, hd, rfl, hb, hw⟩ := hrel
    by_cases hlt : d < 9
    · have hml := lent9_length l d (by omega)
      have hc := hb.cell' (bvs_get' (lent9 l d) (l.length + d) (by omega))
      have hf := hb.frozen (j := l.length + d) (by rw [bvs_length]; omega)
      have hset := hb.set (l.length + d) (.int .u8 ((UInt8.ofNat (200 + d)).toNat : Int))
      rw [← bvs_set, lent9_set l d hlt, b200 d hlt] at hset
      generalize ((lent9 l d)[l.length + d]'(by omega)).toNat = y at hc
      obtain ⟨k, hk⟩ : ∃ k, k = l.length + d := ⟨_, rfl⟩
      have e1 : (200 : Int) + (k : Int) - (l.length : Int) = 200 + (d : Int) := by omega
      have e2 : IntKind.u8.wrap (200 + (d : Int)) = 200 + (d : Int) := IntWalk.u8_in _ (by omega)
      have ik : k < l.length + 9 := by omega
      rw [← hk] at hc hf hset ⊢
      have HK := Lib.hid hk
      clear hml hk
      go_wp2_with fail
      go_roundw
      case rel => exact ⟨d + 1, by omega, by rw [HK.out]; go_num, hset, hw.setCell (Nat.le_refl _) _⟩
      case measure => have := HK.out; simp [intOf]; omega
    · obtain rfl : d = 9 := by omega
      have ho := hb.owB' (base := w.heap.size) (Nat.le_refl _) (by rw [lent9_length l 9 (by omega)]; simp only [maxLen]; omega)
      rw [lent9_length l 9 (by omega), lent9_end] at ho
      clear hb
      go_wp2_with fail
      go_ret
      exact ⟨w.heap.size, rfl, ho, hw⟩
end Go.Proofs.Ytonbcipofakpjaa

-- espalierref03.AsLent: the walk.
namespace Go.Proofs.Ytonbcipofakpjaa
open Go.RowKit
def as9 (l : List UInt8) (k : Nat) : List UInt8 := List.replicate k 77 ++ (l ++ marks9).drop k
theorem as9_length (l : List UInt8) (k : Nat) (h : k ≤ l.length + 9) : (as9 l k).length = l.length + 9 := by simp [as9, marks9, mk9_length]; omega
theorem as9_set (l : List UInt8) (k : Nat) (h : k < l.length + 9) : (as9 l k).set k 77 = as9 l (k + 1) := by
  have hl : (l ++ marks9).length = l.length + 9 := by simp [marks9, mk9_length]
  unfold as9
  rw [List.set_append_right _ _ (by simp), List.length_replicate, Nat.sub_self, List.drop_eq_getElem_cons (by omega), List.set_cons_zero, List.replicate_succ', List.append_assoc]
  rfl
theorem as9_get (l : List UInt8) (d : Nat) (h : d < 9) : (as9 l (l.length + d))[l.length + d]? = some (UInt8.ofNat (200 + d)) := by
  unfold as9
  rw [List.getElem?_append_right (by simp), List.length_replicate, Nat.sub_self, List.getElem?_drop, Nat.add_zero, List.getElem?_append_right (by omega), Nat.add_sub_cancel_left]
  exact mk9_get 9 d h
theorem OwB.part' {w : World} {base g n k c : Nat} {x s : List UInt8} (h : OwB w base (.slice (some ⟨g, 0, none⟩) (n + k) c) (x ++ s)) (hx : x.length = n) : RdB w (.slice (some ⟨g, 0, none⟩) n c) x := by
  subst hx
  have := (h.take (m := x.length) (by omega)).rd
  rw [List.take_left] at this
  exact this
set_option maxHeartbeats 2000000 in
set_option maxRecDepth 20000 in
theorem AsLent_any (g n : Nat) (vb : Value) (l : List UInt8) (base : Nat) (w : World) (hn : l.length = n) (ho : OwB w base (.slice (some ⟨g, 0, none⟩) (n + 9) (n + 9)) (l ++ marks9)) (hv : RdB w vb l) (hl : n ≤ 140737488355328) :
    Calls Try.prog 28 #[.slice (some ⟨g, 0, none⟩) n (n + 9), vb] w fun e w' => e = .returned (.bool true) ∧ w.grownBy w' (some g) := by
  subst hn
  obtain ⟨A, c, rfl, hm⟩ := hv.form
  have q1 := run_B_string hv
  have q2 := run_B_string (ho.part' rfl)
  go_enter Try.func28, Try.ntmps28
  go_wp2_with fail
  clear q1 q2
  go_loopw [6, 7] (fun gd i wr => ∃ k : Nat, gd = .bool true ∧ i = .int .i64 (k : Int) ∧ k ≤ l.length + 9 ∧ OwB wr base (.slice (some ⟨g, 0, none⟩) (l.length + 9) (l.length + 9)) (as9 l k) ∧ w.grownBy wr (some g)) (fun _ i _ => l.length + 9 - (intOf i).toNat)
  case atStart => exact ⟨0, rfl, rfl, Nat.zero_le _, by simpa [as9] using ho, World.grownBy.refl w _⟩
  case round =>
    clear ho hv
    obtain ⟨k, rfl, rfl, hk, ho, hg⟩ := hrel
    by_cases hlt : k < l.length + 9
    · have hml := as9_length l k hk
      have hc := ho.cell (j := k) (by omega)
      have hf := ho.frozen (j := k) (by omega)
      have hset := ho.set k 77
      rw [as9_set l k hlt] at hset
      have hset' : OwB (wr.setCell ⟨g, k, none⟩ (.int .u8 77)) base (.slice (some ⟨g, 0, none⟩) (l.length + 9) (l.length + 9)) (as9 l (k + 1)) := hset
      have ik : (k : Int) < ((l.length + 9 : Nat) : Int) := by omega
      have ik2 : k < l.length + 9 := hlt
      by_cases hd : k < l.length
      · have id : (k : Int) < (l.length : Int) := by omega
        have id2 : ¬ (l.length : Int) ≤ (k : Int) := by omega
        generalize ((as9 l k)[k]'(by omega)).toNat = y at hc
        clear hml hset
        go_wp2_with fail
        go_roundw
        case rel => exact ⟨k + 1, rfl, by go_num, by omega, hset', grownBy_trans hg (grownBy_setCell _ _ _)⟩
        case measure => simp [intOf]; omega
      · obtain ⟨d, hd2⟩ : ∃ d, k = l.length + d := ⟨k - l.length, by omega⟩
        have hd9 : d < 9 := by omega
        have e0 : (as9 l k)[k]'(by omega) = UInt8.ofNat (200 + d) := by
          have := as9_get l d hd9
          rw [← hd2, List.getElem?_eq_getElem (by omega)] at this
          exact Option.some.inj this
        rw [e0, b200 d hd9] at hc
        have e1 : (200 : Int) + (k : Int) - (l.length : Int) = 200 + (d : Int) := by omega
        have e2 : IntKind.u8.wrap (200 + (d : Int)) = 200 + (d : Int) := IntWalk.u8_in _ (by omega)
        have id : (l.length : Int) ≤ (k : Int) := by omega
        clear hml hset e0 hd2 hd
        go_wp2_with fail
        go_roundw
        case rel => exact ⟨k + 1, rfl, by go_num, by omega, hset', grownBy_trans hg (grownBy_setCell _ _ _)⟩
        case measure => simp [intOf]; omega
    · obtain rfl : k = l.length + 9 := by omega
      go_wp2_with fail
      go_ret
      exact ⟨rfl, hg⟩
end Go.Proofs.Ytonbcipofakpjaa

-- Pieces of memory: bytes that were lent.
namespace Go.Proofs.Ytonbcipofakpjaa
open Go.RowKit
def ovF (b c : List UInt8) : List UInt8 := c.take (min c.length b.length) ++ b.drop (min c.length b.length)
theorem ovF_length (b c : List UInt8) : (ovF b c).length = b.length := by
  unfold ovF; rw [List.length_append, List.length_take, List.length_drop]; omega
theorem splice_ov (b c m : List UInt8) : splice (b ++ m) 0 (c.take (min c.length b.length)) = ovF b c ++ m := by
  unfold splice ovF
  rw [List.take_zero, List.nil_append, Nat.zero_add, List.length_take, show min (min c.length b.length) c.length = min c.length b.length by omega, List.drop_append_of_le_length (by omega), List.append_assoc]
theorem LentB_sep {w0 w : World} {L : List Ent} {v : Value} {l : List UInt8} (h : Sep w0 w L) (hv : RdB w v l) (hl : l.length ≤ 140737488355328) :
    Calls Try.prog 26 #[v] w fun e w' => ∃ g, e = .returned (.slice (some ⟨g, 0, none⟩) l.length (l.length + 9)) ∧ Sep w0 w' (bytesE (.slice (some ⟨g, 0, none⟩) (l.length + 9) (l.length + 9)) (l ++ marks9) :: L) := by
  refine (Lent_any v l w hv hl).mono ?_
  rintro e w' ⟨g, rfl, ho, hb⟩
  exact ⟨g, rfl, h.bytes hb ho (Nat.le_refl _)⟩
theorem AsLentB_sep {w0 w : World} {L : List Ent} {vb : Value} {l : List UInt8} {g n : Nat} (h : Sep w0 w (bytesE (.slice (some ⟨g, 0, none⟩) (n + 9) (n + 9)) (l ++ marks9) :: L)) (hn : l.length = n) (hv : RdB w vb l) (hl : n ≤ 140737488355328) :
    Calls Try.prog 28 #[.slice (some ⟨g, 0, none⟩) n (n + 9), vb] w fun e w' => e = .returned (.bool true) ∧ Sep w0 w' L := by
  refine (AsLent_any g n vb l 0 w hn h.head hv hl).mono ?_
  rintro e w' ⟨rfl, hg⟩
  exact ⟨rfl, h.kill (Turn.of_grown hg (fun k e => e))⟩
theorem lentC_rd0 {w : World} {b0 g m : Nat} {bl : List UInt8} (h : OwB w b0 (.slice (some ⟨g, 0, none⟩) (m + 9) (m + 9)) (bl ++ marks9)) (hl : bl.length = m) : RdB w (.slice (some ⟨g, 0, none⟩) m (m + 9)) bl := by
  have h1 := OwB.take h (m := m) (by omega)
  rw [List.take_left' hl] at h1
  exact h1.rd
theorem lentC_rd {w : World} {b0 g : Nat} {bl : List UInt8} (h : OwB w b0 (.slice (some ⟨g, 0, none⟩) (bl.length + 9) (bl.length + 9)) (bl ++ marks9)) : RdB w (.slice (some ⟨g, 0, none⟩) bl.length (bl.length + 9)) bl := lentC_rd0 h rfl
end Go.Proofs.Ytonbcipofakpjaa
