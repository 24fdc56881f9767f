/- Texts joined: plate.Write; plate.Write; Writes made safe in any order; plate.Sync; copy into bytes that the call owns, at a place.; plate.Image; espalierref03.Plate; espalierref03.Plate; espalierref03.Plate -/
import Derived.Test.YtipjngoenklioaaG1
import Derived.Test.YtipjngoenklioaaG2
import Derived.Test.YtipjngoenklioaaG3
import Derived.Deep.RegionLaw
-- plate.Write: the walk.
namespace Go.Proofs.Ytipjngoenklioaa
open Go.RowKit
theorem loose_info : (Try.prog.info? 69).map (fun i => (i.zero, i.size, i.bytes)) = some (some (.agg #[.int .i64 0, .slice none 0 0]), 2, 32) := by kernel_rfl
def PS.wrote (S : PS) (n : Nat) (l : List UInt8) : PS := { S.acted 1 with wild := S.wild ++ [(n, l)] }
def PS.write (S : PS) (n : Nat) (l : List UInt8) : PS := if S.acts == 0 then (S.wrote n l).fell S.keep S.torn S.at_ else S.wrote n l
def WriteE (S : PS) : Int := if S.acts == 0 then 3 else 0
def PutAt (w : World) (F : Nat → Prop) (r : Raw) (S' : PS) (v : Value) (e : Ending) (w' : World) : Prop := e = .returned v ∧ ∃ r' F', r'.pb = r.pb ∧ r'.sb = r.sb ∧ PlRaw w' F' r' S' ∧ Step F w F' w'
theorem PlRaw.wrote {w1 w2 w3 w4 w5 w6 : World} {F : Nat → Prop} {r : Raw} {S : PS} {n : Nat} {l : List UInt8} {vd vl : Value} (h : PlRaw w1 F r S) (hn : n < S.np) (hl : l.length = S.page) (hm : MapAt w2 r.mb (S.wild ++ [(n, l)])) (hg2 : w1.grownBy w2 (some r.mb))
    (hb3 : Below w2.heap.size w2 w3) (hd : OwB w3 w2.heap.size vd l) (hb4 : Below w3.heap.size w3 w4) (ho : Own w5 0 69 2 vl (S.wild.length + 1) (wcells S.wild r.dv ++ [.int .i64 (n : Int), vd])) (hg5 : w4.grownBy w5 r.vl.ownBlock)
    (hvl : vl.ownBlock = r.vl.ownBlock ∨ vl.ownBlock = some w4.heap.size) (hg6 : w5.grownBy w6 (some r.pb)) (hbl : OBlk w6 r.pb 66 (plCells { r with vl := vl } S)) :
    PlRaw w6 (fun k => F k ∨ vl.ownBlock = some k ∨ vd.ownBlock = some k) { r with vl := vl, dv := r.dv ++ [vd] } { S with wild := S.wild ++ [(n, l)] } ∧
      Step F w1 (fun k => F k ∨ vl.ownBlock = some k ∨ vd.ownBlock = some k) w6 := by
  have hF2 : ∀ k, F k → k ≠ r.mb → w2.heap[k]? = w1.heap[k]? := fun k hf hne => hg2.block k (h.lt k hf) (fun e => hne (Option.some.inj e))
  have s12 := hg2.size
  have s23 := hb3.size
  have s34 := hb4.size
  have s45 := hg5.size
  have s56 := hg6.size
  have b24 : Below w2.heap.size w2 w4 := hb3.trans (hb4.mono s23)
  have hblk2 := h.blk.grown hg2 (fun e => h.map.ne h.blk (Option.some.inj e).symm)
  have hsafe2 := h.safe.grown hg2 (fun e => h.map.ne h.safe (Option.some.inj e).symm)
  have hloose2 : Own w2 0 69 2 r.vl S.wild.length (wcells S.wild r.dv) := h.loose.grown hg2 (fun g hg e => h.loose.ne_map h.map (by rw [hg, e]))
  have hkeep2 := h.keep.grown hg2 (fun g hg e => h.keep.ne_map h.map (by rw [hg, e]))
  have hsafe4 := hsafe2.below b24 hsafe2.lt
  have hkeep4 := Own.below' hkeep2 b24 (Nat.le_refl _)
  have hblk4 := hblk2.below b24 hblk2.lt
  have hloose4 := Own.below' hloose2 b24 (Nat.le_refl _)
  have hm4 : MapAt w4 r.mb (S.wild ++ [(n, l)]) := hm.heap (b24.block _ hm.lt)
  have hd4 : OwB w4 w2.heap.size vd l := Own.below' hd hb4 (Nat.le_refl _)
  have hlt4 : ∀ k, F k → k < w4.heap.size := fun k hf => by have := h.lt k hf; omega
  have hsafe5 := hsafe4.grown hg5 (fun e => hloose4.ne_T hsafe4 (by decide) e)
  have hkeep5 := hkeep4.grown hg5 (fun g hg e => by
    rcases hloose4.2 with ⟨e0, _⟩ | ⟨g', cap, cs, e0, _, hg', _⟩
    · rw [e0] at e; simp [Value.ownBlock] at e
    · rw [e0] at e
      simp only [Value.ownBlock, Option.some.injEq, if_true] at e
      subst e
      exact hkeep4.ne_T hg' (by decide) (by rw [hg]))
  have hm5 := hm4.heap (hg5.block _ hm4.lt (fun e => hloose4.ne_map hm4 e))
  have hd5 : OwB w5 w2.heap.size vd l := Own.grown hd4 hg5 (fun g hg e => by
    have h1 := (Own.lt hd4 g hg).1
    have h2 := h.lt g (h.fl g e.symm)
    omega)
  have hpb : ∀ g, F g ∨ vl.ownBlock = some g ∨ vd.ownBlock = some g → g < w6.heap.size := by
    intro g hg
    rcases hg with hf | hf | hf
    · have := hlt4 g hf; omega
    · have := (Own.lt ho g hf).2; omega
    · have := (Own.lt hd4 g hf).2; omega
  have hold : ∀ (i : Nat) (hi : i < S.wild.length) (v : Value), r.dv[i]? = some v → OwB w6 0 v S.wild[i].2 ∧ ∀ g, v.ownBlock = some g → F g ∧ g ≠ r.sb := fun i hi v hv => by
    obtain ⟨h1, h2⟩ := h.data i hi v hv
    refine ⟨Own.heap h1 fun g hg => ?_, h2⟩
    obtain ⟨hf, _⟩ := h2 g hg
    have hlt := h.lt g hf
    have e2 := hg2.block g hlt (fun e => OwB.ne_map h1 h.map (by rw [hg, e]))
    have h1' : OwB w2 0 v S.wild[i].2 := Own.heap h1 (fun g' hg' => by rw [hg] at hg'; injection hg' with hg'; subst hg'; exact e2)
    have e4 := b24.block g (by omega)
    have h1'' : OwB w4 0 v S.wild[i].2 := Own.below' h1' b24 (Nat.le_refl _)
    have e5 := hg5.block g (by omega) (fun e => by
      rcases hloose4.2 with ⟨e0, _⟩ | ⟨g', cap, cs, e0, _, hg', _⟩
      · rw [e0] at e; simp [Value.ownBlock] at e
      · rw [e0] at e
        simp only [Value.ownBlock, Option.some.injEq, if_true] at e
        subst e
        exact OwB.ne_T h1'' hg' (by decide) (by rw [hg]))
    have e6 := hg6.block g (by omega) (fun e => OwB.ne_T h1'' hblk4 (by decide) (by rw [hg, e]))
    rw [e6, e5, e4, e2]
  refine ⟨{ ok := { h.ok with we := ?_ }, blk := hbl, safe := ?_, loose := ?_, dlen := ?_, data := ?_, map := ?_, keep := ?_, fp := .inl h.fp, fs := .inl h.fs, fm := .inl h.fm, fl := fun g hg => .inr (.inl hg), fk := fun g hg => .inl (h.fk g hg), lt := hpb }, ?_, ?_⟩
  · intro x hx
    rcases List.mem_append.1 hx with hx | hx
    · exact h.ok.we x hx
    · rw [List.mem_singleton] at hx; subst hx; exact ⟨hn, hl⟩
  · exact hsafe5.grown hg6 (fun e => hsafe4.ne hblk4 (by decide) (Option.some.inj e))
  · have h1 : Own w6 0 69 2 vl (S.wild.length + 1) (wcells S.wild r.dv ++ [.int .i64 (n : Int), vd]) := ho.grown hg6 (fun g hg e => by
      have hb5 : OBlk w5 r.pb 66 (plCells r S) := hblk4.grown hg5 (fun e => hloose4.ne_T hblk4 (by decide) e)
      exact ho.ne_T hb5 (by decide) (by rw [hg, e]))
    rw [show (S.wild ++ [(n, l)]).length = S.wild.length + 1 by simp, wcells_snoc _ _ _ _ h.dlen]
    exact h1
  · simp [h.dlen]
  · intro i hi v hv
    simp only [List.length_append, List.length_singleton] at hi
    rcases Nat.lt_or_ge i S.wild.length with hlt | hge
    · rw [List.getElem?_append_left (by rw [h.dlen]; exact hlt)] at hv
      obtain ⟨h1, h2⟩ := hold i hlt v hv
      simp only [List.getElem_append_left hlt]
      exact ⟨h1, fun g hg => ⟨.inl (h2 g hg).1, (h2 g hg).2⟩⟩
    · have hii : i = S.wild.length := by omega
      subst hii
      rw [List.getElem?_append_right (by rw [h.dlen]; omega)] at hv
      simp only [h.dlen, Nat.sub_self, List.getElem?_cons_zero, Option.some.injEq] at hv
      subst hv
      simp only [List.getElem_append_right (Nat.le_refl _), Nat.sub_self, List.getElem_cons_zero]
      refine ⟨(Own.grown hd5 hg6 (fun g hg e => ?_)).low (Nat.zero_le _), fun g hg => ⟨.inr (.inr hg), fun e => ?_⟩⟩
      · have h1 := (Own.lt hd4 g hg).1
        have h2 := h.blk.lt
        have := Option.some.inj e
        omega
      · have h1 := (Own.lt hd4 g hg).1
        have h2 := h.safe.lt
        omega
  · exact hm5.heap (hg6.block _ hm5.lt (fun e => hm4.ne hblk4 (Option.some.inj e)))
  · exact hkeep5.grown hg6 (fun g hg e => hkeep4.ne_T hblk4 (by decide) (by rw [hg, e]))
  · exact ((((Turn.of_grown hg2 (fun k e => by cases e; exact h.fm)).new (b24.mono s12)).grown hg5 (fun b e => .inl (h.fl b e)))).grown hg6 (fun b e => by cases e; exact .inl h.fp)
  · intro k hk
    rcases hk with hf | hf | hf
    · exact .inl hf
    · rcases hvl with e | e
      · exact .inl (h.fl k (by rw [← e]; exact hf))
      · rw [e] at hf
        have := Option.some.inj hf
        exact .inr (by omega)
    · have := (Own.lt hd4 k hf).1
      exact .inr (by omega)
end Go.Proofs.Ytipjngoenklioaa

-- plate.Write: the walk.
namespace Go.Proofs.Ytipjngoenklioaa
open Go.RowKit
/-- What the caller hands in lies in no block of the device's. -/
def OffA (F : Nat → Prop) (v : Value) : Prop := ∀ A n c, v = .slice (some A) n c → ¬ F A.block
theorem RdB.turn {w w' : World} {F : Nat → Prop} {v : Value} {l : List UInt8} (h : RdB w v l) (ht : Turn F w w') (ho : OffA F v) : RdB w' v l := by
  obtain ⟨A, c, rfl, h1, h2, h3⟩ := h
  refine ⟨A, c, rfl, h1, h2, fun j hj => ?_⟩
  obtain ⟨ad, rfl, hc⟩ := h3 j hj
  refine ⟨ad, rfl, ?_⟩
  have hlt := World.block_lt_of_cell? w _ hc
  have hb := ht.block _ hlt (by rw [block_of_add]; exact ho _ _ _ rfl)
  rw [← hc]
  unfold World.cell?
  rw [hb]
theorem RdI.turn {w w' : World} {F : Nat → Prop} {v : Value} {l : List Int} (h : RdI w v l) (ht : Turn F w w') (ho : OffA F v) : RdI w' v l := by
  obtain ⟨h0, A, c, rfl, h1, h2, h3⟩ := h
  refine ⟨h0, A, c, rfl, h1, h2, fun j u hj => ?_⟩
  obtain ⟨ad, rfl, hc⟩ := h3 j u hj
  refine ⟨ad, rfl, ?_⟩
  have hlt := World.block_lt_of_cell? w _ hc
  have hb := ht.block _ hlt (by rw [block_of_add]; exact ho _ _ _ rfl)
  rw [← hc]
  unfold World.cell?
  rw [hb]
def WriteR (S : PS) (n : Int) (l : List UInt8) : Int := if S.ref n = 0 then 31 else S.ref n
set_option maxRecDepth 20000 in
set_option maxHeartbeats 2000000 in
theorem Write_ref (w : World) (F : Nat → Prop) (r : Raw) (S : PS) (n : Int) (v : Value) (h : PlRaw w F r S) (hr : S.ref n ≠ 0) : Calls Try.prog 9 #[plPtr r, .int .i64 n, v] w fun e w' => e = .returned (.int .i64 (S.ref n)) ∧ Below w.heap.size w w' := by
  have hrf := refused_any w F r S n h
  have hb1 : (S.ref n == 0) = false := by simpa using hr
  have hb2 : (S.ref n != 0) = true := by simpa using hr
  obtain ⟨rr, hrr⟩ : ∃ rr, S.ref n = rr := ⟨_, rfl⟩
  rw [hrr] at hrf hb1 hb2
  have HRR := Lib.hid hrr
  clear hr hrr
  unfold plPtr at hrf ⊢
  go_enter Try.func9, Try.ntmps9
  go_wp2_with fail
  refine hrf.mono ?_
  rintro e w1 ⟨rfl, hb⟩
  go_wp2_with fail
  go_ret
  exact ⟨by rw [HRR.out]; rfl, hb⟩
set_option maxRecDepth 20000 in
set_option maxHeartbeats 2000000 in
theorem Write_size (w : World) (F : Nat → Prop) (r : Raw) (S : PS) (n : Int) (v : Value) (l : List UInt8) (h : PlRaw w F r S) (hr : S.ref n = 0) (hv : RdB w v l) (hl : l.length ≠ S.page) : Calls Try.prog 9 #[plPtr r, .int .i64 n, v] w fun e w' => e = .returned (.int .i64 31) ∧ Below w.heap.size w w' := by
  have hrf := refused_any w F r S n h
  rw [hr] at hrf
  clear hr
  obtain ⟨A, c, rfl, hm⟩ := hv.form
  have hb1 : ((l.length : Int) == (S.page : Int)) = false := by simp; omega
  have hb2 : ((l.length : Int) != (S.page : Int)) = true := by simp; omega
  clear hl
  unfold plPtr at hrf ⊢
  go_enter Try.func9, Try.ntmps9
  go_wp2_with fail
  refine hrf.mono ?_
  rintro e w1 ⟨rfl, hb⟩
  have c0 := (h.below hb).c0
  go_wp2_with fail
  go_ret
  exact ⟨rfl, hb⟩
theorem Rd.two (w : World) (x y : Value) (T : TypeId) : Rd (w.alloc (.cells #[x, y] T)) 2 (.slice (some ⟨w.heap.size, 0, none⟩) 1 1) 1 [x, y] :=
  ⟨by simp, _, _, rfl, Nat.le_refl _, by simp [maxLen], fun j u hj => ⟨_, rfl, by rw [add_row, (OBlk.new w T #[x, y]).cell]; simpa using hj⟩⟩
theorem two_one {w : World} {b : Nat} {v : Value} {l : List UInt8} {x : Int} (h : OwB w b v l) : ∀ u ∈ [Value.int .i64 x, v], u.oneCell' = true := by
  intro u hu
  rcases List.mem_cons.1 hu with rfl | hu
  · rfl
  · rw [List.mem_singleton] at hu
    subst hu
    rcases Own.form h with ⟨rfl, _⟩ | ⟨_, _, rfl, _⟩ <;> rfl
theorem PlRaw.keepRd {w : World} {F : Nat → Prop} {r : Raw} {S : PS} (h : PlRaw w F r S) : RdI w r.vk S.keep := by
  have := h.keep.rd
  exact this
theorem PlRaw.keepOff {w : World} {F : Nat → Prop} {r : Raw} {S : PS} (h : PlRaw w F r S) : KeepOff r.vk r.sb := by
  intro A n c e _ hb
  rcases h.keep.2 with ⟨e0, _⟩ | ⟨g, cap, cs, e0, _, hg, _⟩
  · rw [e0] at e; cases e
  · rw [e0] at e
    injection e with hA
    injection hA with hA
    subst hA
    simp only at hb
    subst hb
    exact h.safe.ne hg (by decide) rfl
theorem PS.wrote_at (S : PS) (n : Nat) (l : List UInt8) : ({ S.acted 1 with wild := (S.acted 1).wild ++ [(n, l)] } : PS) = S.wrote n l := rfl
set_option maxRecDepth 20000 in
set_option maxHeartbeats 4000000 in
theorem Write_ok (w : World) (F : Nat → Prop) (r : Raw) (S : PS) (n : Nat) (v : Value) (l : List UInt8) (h : PlRaw w F r S) (hr : S.ref n = 0) (hn : n < S.np) (hv : RdB w v l) (hvo : OffA F v) (hl : l.length = S.page) (hsz : (S.wild.length + 1) * 32 ≤ 140737488355328) :
    Calls Try.prog 9 #[plPtr r, .int .i64 (n : Int), v] w (PutAt w F r (S.write n l) (.int .i64 (WriteE S))) := by
  have hrf := refused_any w F r S n h
  rw [hr] at hrf
  clear hr
  obtain ⟨A, c, rfl, hm⟩ := hv.form
  have hb1 : ((l.length : Int) == (S.page : Int)) = true := by simp; omega
  have hb2 : ((l.length : Int) != (S.page : Int)) = false := by simp; omega
  have HL := Lib.hid hl
  have k2 := h.ok.p2
  have k3 := h.ok.n2
  have hl2 : l.length ≤ 140737488355328 := by omega
  clear hl
  unfold plPtr at hrf ⊢
  go_enter Try.func9, Try.ntmps9
  go_wp2_with fail
  refine hrf.mono ?_
  rintro e w1 ⟨rfl, hw1⟩
  have hP1 := h.below hw1
  have c0 := hP1.c0
  go_wp2_with fail
  refine (act_any _ F r S 1 (.inl rfl) hP1).mono ?_
  rintro e w2 ⟨rfl, hP2, hg2⟩
  have hT2 : Turn F w w2 := (Turn.of_below hw1).grown hg2 (fun b e => by cases e; exact .inl h.fp)
  have hsz2 : (S.acted 1).wild.length < maxLen := by show S.wild.length < _; simp only [maxLen]; omega
  obtain ⟨lv, lc, hvl⟩ := hP2.loose.slice
  have hlc : S.wild.length ≤ 9223372036854775807 := by omega
  have d2 := hP2.c2
  have d3 := hP2.c3
  have hpm : ¬ r.pb = r.mb := fun e => hP2.map.ne hP2.blk e.symm
  have HVL := Lib.hid hvl
  rw [hvl] at d2
  have d2' : w2.cell? ⟨r.pb, 2, none⟩ = some (.slice lv S.wild.length lc) := d2
  obtain ⟨D, hown, hLD⟩ := hP2.map
  have hLD' : LastD (D.put (.int .i64 (n : Int)) (.lit (.int .i64 (S.wild.length : Int)))) (S.wild ++ [(n, l)]) := hLD.put n l (by omega)
  have hv3 := hv.turn hT2 hvo
  clear hvl c0 d2
  go_upto_region 7 with (fail)
  refine wp_region_dtail 10 (by kernel_rfl) (by kernel_rfl) ?_
  simp only [List.take_succ_cons, List.take_zero, List.drop_succ_cons, List.drop_zero]
  repeat (quiet_step (fail))
  refine wpQuiet_nil ?_
  rintro _ ⟨nq, rfl⟩
  refine wpList_mapUpdate_own _ rfl (.tmp 27) (.tmp 28) (.tmp 33) _ rfl 3 3 intKeyed Try.underlying62 (plainElem Try.prog 3) r.mb _ D rfl (show (w2.drewN nq).ownsMap Try.prog 3 (plainElem Try.prog 3) r.mb _ D from hown) hsz2 _ _ _ rfl rfl (key_nat (by omega)) (.lit (.int .i64 (S.wild.length : Int))) [] (plainElem_int Try.underlying3 (wf_nat (by omega))) ?_
  intro w3 hown3 hg3
  have hm3 : MapAt w3 r.mb (S.wild ++ [(n, l)]) := ⟨_, by rw [show (S.wild ++ [(n, l)]).length = S.wild.length + 1 by simp]; exact hown3, hLD'⟩
  have hg3' : w2.grownBy w3 (some r.mb) := ⟨hg3.os, hg3.tape, hg3.output, hg3.size, hg3.block⟩
  have hblk3 := hP2.blk.grown hg3' (fun e => hP2.map.ne hP2.blk (Option.some.inj e).symm)
  have hvlE := HVL.out
  have c2 : w3.cell? ⟨r.pb, 2, none⟩ = some (.slice lv S.wild.length lc) := hblk3.cell' (congrArg some hvlE)
  have lb3 := hblk3.lt
  have hv4 := hv3.turn (Turn.of_grown (F := F) hg3' (fun k e => by cases e; exact h.fm)) hvo
  have hloose : Own w3 0 69 2 (.slice lv S.wild.length lc) S.wild.length (wcells S.wild r.dv) := by
    have := hP2.loose.grown hg3' (fun g hg e => hP2.loose.ne_map hP2.map (by rw [hg, e]))
    rw [hvlE] at this
    exact this
  clear hvlE
  obtain ⟨i0, hi, hz0, hz1, hz2⟩ := info_parts loose_info
  clear d2' d3 hpm hsz2
  go_upto_region 8 with (fail)
  go_region_law
    (first
      | (go_simp; go_at_call 36; refine (CloneB_any _ l _ hv4.drew hl2).mono ?_; rintro e w4 ⟨vd, rfl, hod, hw4⟩; obtain ⟨ld, cd, rfl⟩ := Own.slice hod; have hblk4 := hblk3.drew.below hw4 lb3; have hblk4a := hblk4.alloc (.cells #[.int .i64 (n : Int), .slice ld l.length cd] 69); have hl4 := Own.alloc (Own.below' (Own.drew hloose) hw4 (Nat.le_refl _)) (.cells #[.int .i64 (n : Int), .slice ld l.length cd] 69); have c4 : w4.cell? ⟨r.pb, 2, none⟩ = some (.slice lv S.wild.length lc) := hblk4.cell' (congrArg some HVL.out); have c4a : (w4.alloc (.cells #[.int .i64 (n : Int), .slice ld l.length cd] 69)).cell? ⟨r.pb, 2, none⟩ = some (.slice lv S.wild.length lc) := hblk4a.cell' (congrArg some HVL.out))
      | (refine step_append (by rfl) (.tmp 38) (.tmp 43) _ _ (by rfl) 0 69 i0 _ 2 32 Try.underlying63 hi hz0 hz1 hz2 rfl _ S.wild.length (wcells S.wild r.dv) (by rfl) hl4 (.slice (some ⟨w4.heap.size, 0, none⟩) 1 1) 1 [.int .i64 (n : Int), .slice ld l.length cd] (by rfl) (Rd.src _ Try.underlying63 (by omega) (Rd.two w4 _ _ _) (two_one hod)) (by omega) (by omega) (Nat.zero_le _) ?_; intro v5 w5 ho5 hg5 hk5; have hblk5 := hblk4a.grown hg5 (fun e => hl4.ne_T hblk4a (by decide) e); have c5 : w5.cell? ⟨r.pb, 2, none⟩ = some (.slice lv S.wild.length lc) := hblk5.cell' (congrArg some HVL.out); have f5 := hblk5.frozen (j := 2) (by simp [plCells]); obtain ⟨lv5, lc5, rfl⟩ := Own.slice ho5)
      | fail)
  all_goals
    have hR := hP2.wrote (n := n) (l := l) hn HL.out hm3 hg3' (((Below.refl w3.heap.size w3).drew).trans hw4) hod ((Below.refl w4.heap.size w4).alloc (Nat.le_refl _) (.cells #[.int .i64 (n : Int), .slice ld l.length cd] 69)) ho5 (by rw [HVL.out]; exact hg5) (by rw [HVL.out]; exact hk5) (grownBy_setCell w5 ⟨r.pb, 2, none⟩ (.slice lv5 (S.wild.length + 1) lc5)) (hblk5.set 2 (.slice lv5 (S.wild.length + 1) lc5))
    have hR1 : PlRaw (w5.setCell ⟨r.pb, 2, none⟩ (.slice lv5 (S.wild.length + 1) lc5)) _ _ (S.wrote n l) := hR.1
    have hR2 := hR.2
    clear hR hblk5 hg5 ho5 hk5 hblk4 hblk4a hl4 c4 c4a c5 f5 hblk3 c2 hloose hm3 hown3 hLD' hLD hown
    generalize (w5.setCell ⟨r.pb, 2, none⟩ (.slice lv5 (S.wild.length + 1) lc5)) = w6 at *
    have hS6 : Step F w _ w6 := (⟨hT2, fun k hk => .inl hk⟩ : Step F w F w2).trans hR2
    have e6 := hR1.c6
    have e7 := hR1.c7
    have e8 := hR1.c8
    cases hf : (S.acts == 0)
    · have HW := Lib.hid (show S.write n l = S.wrote n l by unfold PS.write; rw [hf]; rfl)
      have HE := Lib.hid (show WriteE S = 0 by unfold WriteE; rw [hf]; rfl)
      go_wp2_with fail
      go_ret
      rw [HW.out, HE.out]
      refine ⟨rfl, _, _, ?_, ?_, hR1, hS6⟩ <;> rfl
    · have HW := Lib.hid (show S.write n l = (S.wrote n l).fell S.keep S.torn S.at_ by unfold PS.write; rw [hf]; rfl)
      have HE := Lib.hid (show WriteE S = 3 by unfold WriteE; rw [hf]; rfl)
      have hfa := falls_any _ _ _ (S.wrote n l) _ S.keep S.torn S.at_ hR1 hR1.keepRd hR1.keepOff h.ok.t2
      unfold plPtr fallV at hfa
      have t1 : w6.cell? ⟨r.pb, 7, none⟩ = some (.int .i64 S.torn) := e7
      have t2 : w6.cell? ⟨r.pb, 8, none⟩ = some (.int .i64 S.at_) := e8
      clear e7 e8
      go_wp2_with fail
      refine hfa.mono ?_
      rintro e w7 ⟨⟨v7, rfl⟩, hP7, hT7⟩
      go_wp2_with fail
      go_ret
      rw [HW.out, HE.out]
      refine ⟨rfl, _, _, ?_, ?_, hP7, hS6.trans ⟨hT7, fun k hk => .inl hk⟩⟩ <;> rfl
end Go.Proofs.Ytipjngoenklioaa

-- Writes made safe in any order: plain laws.
namespace Go.Proofs.Ytipjngoenklioaa
open Go.RowKit Go.WideShapes
/-- Pages as they are while some of them (left) are still to be written. -/
def mix (ws : List (Nat × List UInt8)) (pg : List (List UInt8)) (left : Lit → Bool) : List (List UInt8) :=
  (List.range pg.length).map fun (n : Nat) => if left (.int .i64 (n : Int)) then pg.getD n [] else (readPg ws pg n).getD []
theorem mix_length (ws : List (Nat × List UInt8)) (pg : List (List UInt8)) (left : Lit → Bool) : (mix ws pg left).length = pg.length := by simp [mix]
theorem mix_get (ws : List (Nat × List UInt8)) (pg : List (List UInt8)) (left : Lit → Bool) {n : Nat} (hn : n < pg.length) :
    (mix ws pg left)[n]? = some (if left (.int .i64 (n : Int)) then pg.getD n [] else (readPg ws pg n).getD []) := by
  unfold mix
  rw [List.getElem?_map, List.getElem?_range hn]
  rfl
theorem readPg_some {ws : List (Nat × List UInt8)} {pg : List (List UInt8)} {n : Nat} (hn : n < pg.length) : ∃ l, readPg ws pg n = some l := by
  unfold readPg
  split
  · rename_i i hi
    obtain ⟨h, _⟩ := lastI_some hi
    rw [List.getElem?_eq_getElem h]
    exact ⟨_, rfl⟩
  · exact ⟨_, List.getElem?_eq_getElem hn⟩
theorem mix_start {D : DataW Unit} {ws : List (Nat × List UInt8)} (h : LastD D ws) (pg : List (List UInt8)) : mix ws pg (Maps.has D) = pg := by
  apply List.ext_getElem?
  intro n
  rcases Nat.lt_or_ge n pg.length with hn | hn
  · rw [mix_get ws pg _ hn, List.getElem?_eq_getElem hn]
    congr 1
    split
    · simp [List.getD, hn]
    · rename_i hh
      rw [(h.2 n).1] at hh
      have : lastI ws (n : Int) = none := by
        cases e : lastI ws (n : Int)
        · rfl
        · rw [e] at hh; exact absurd rfl hh
      unfold readPg
      rw [this]
      simp [hn]
  · rw [List.getElem?_eq_none (by rw [mix_length]; exact hn), List.getElem?_eq_none hn]
theorem mix_step {ws : List (Nat × List UInt8)} {pg : List (List UInt8)} {left : Lit → Bool} {p i : Nat} {l : List UInt8} (hi : lastI ws (p : Int) = some i) (hw : ws[i]? = some (p, l)) (hp : p < pg.length) :
    mix ws pg (fun z => left z && !z.sameKey (.int .i64 (p : Int))) = (mix ws pg left).set p l := by
  apply List.ext_getElem?
  intro n
  rcases Nat.lt_or_ge n pg.length with hn | hn
  · rw [mix_get ws pg _ hn]
    by_cases e : n = p
    · subst e
      rw [List.getElem?_set_self (by rw [mix_length]; exact hn)]
      have : ((Lit.int .i64 (n : Int)).sameKey (.int .i64 (n : Int))) = true := by simp [Lit.sameKey]
      rw [this]
      unfold readPg
      simp [hi, hw]
    · rw [List.getElem?_set_ne (by omega), mix_get ws pg _ hn]
      have : ((Lit.int .i64 (n : Int)).sameKey (.int .i64 (p : Int))) = false := by simp [Lit.sameKey]; omega
      rw [this]
      simp
  · rw [List.getElem?_eq_none (by rw [mix_length]; exact hn), List.getElem?_eq_none (by simp [mix_length]; exact hn)]
theorem mix_end {ws : List (Nat × List UInt8)} {pg : List (List UInt8)} {left : Lit → Bool} (h : ∀ z, left z = false) : mix ws pg left = syncPg ws pg := by
  apply List.ext_getElem?
  intro n
  rcases Nat.lt_or_ge n pg.length with hn | hn
  · rw [mix_get ws pg _ hn, syncPg_get pg n hn ws, h]
    obtain ⟨l, hl⟩ := readPg_some (ws := ws) hn
    rw [hl]; rfl
  · rw [List.getElem?_eq_none (by rw [mix_length]; exact hn), List.getElem?_eq_none (by rw [syncPg_length]; exact hn)]
theorem mix_each {ws : List (Nat × List UInt8)} {pg : List (List UInt8)} {left : Lit → Bool} {P : Nat} (h : ∀ l ∈ pg, l.length = P) (hw : ∀ x ∈ ws, x.2.length = P) : ∀ l ∈ mix ws pg left, l.length = P := by
  intro l hl
  obtain ⟨n, hn, rfl⟩ := List.mem_map.1 hl
  have hn := List.mem_range.1 hn
  split
  · simp only [List.getD, List.getElem?_eq_getElem hn, Option.getD_some]
    exact h _ (List.getElem_mem hn)
  · obtain ⟨l, hl⟩ := readPg_some (ws := ws) hn
    rw [hl, Option.getD_some]
    unfold readPg at hl
    split at hl
    · rename_i i hi
      obtain ⟨hlt, _⟩ := lastI_some hi
      rw [List.getElem?_eq_getElem hlt] at hl
      injection hl with hl
      rw [← hl]
      exact hw _ (List.getElem_mem hlt)
    · exact h _ (List.mem_of_getElem? hl)
/-- What the range step brings: the last write to a page. -/
theorem LastD.key {D : DataW Unit} {ws : List (Nat × List UInt8)} (h : LastD D ws) {x c : Int} (hat : ∀ zd, D.atKey (.int .i64 x) zd = .lit (.int .i64 c)) : ∃ (i : Nat) (hi : i < ws.length), c = (i : Int) ∧ x = (ws[i].1 : Int) ∧ lastI ws x = some i := by
  have hh := Maps.has_true_of_atKey (h := hat)
  rw [(h.2 x).1] at hh
  obtain ⟨i, hi⟩ := Option.isSome_iff_exists.1 hh
  obtain ⟨h1, h2⟩ := lastI_some hi
  have h3 := (h.2 x).2 i hi (.lit (.int .i64 0))
  rw [hat] at h3
  injection h3 with h3
  injection h3 with _ h3
  exact ⟨i, h1, h3, h2.symm, hi⟩
end Go.Proofs.Ytipjngoenklioaa

-- plate.Sync: the walk.
namespace Go.Proofs.Ytipjngoenklioaa
open Go.RowKit Go.WideShapes
def PS.synced (S : PS) : PS := { S.acted 2 with pg := syncPg S.wild S.pg, wild := [] }
def PS.sync (S : PS) : PS := if S.down then S else if S.acts == 0 then (S.acted 2).fell S.keep S.torn S.at_ else S.synced
def SyncE (S : PS) : Int := if S.down then 3 else if S.acts == 0 then 3 else 0
def PS.mixed (S : PS) (left : Lit → Bool) : PS := { S with pg := mix S.wild S.pg left }
theorem PlRaw.entryM {w : World} {F : Nat → Prop} {r : Raw} {S : PS} {left : Lit → Bool} (h : PlRaw w F r (S.mixed left)) {i : Nat} (hi : i < S.wild.length) : ∃ lb c db cd p l, w.cell? ⟨r.pb, 2, none⟩ = some (.slice (some ⟨lb, 0, none⟩) S.wild.length c) ∧
    w.cell? ⟨lb, i * 2 + 1, none⟩ = some (.slice (some ⟨db, 0, none⟩) S.page cd) ∧ OwB w 0 (.slice (some ⟨db, 0, none⟩) S.page cd) l ∧ S.wild[i]? = some (p, l) ∧ p < S.np ∧ l.length = S.page := by
  obtain ⟨lb, c, db, cd, p, l, _, _, hw, hv, _, _, h1, h2, h4, h3⟩ := h.entry hi
  exact ⟨lb, c, db, cd, p, l, by rw [h.c2, hv]; rfl, h1, h2, hw, h4, h3⟩
theorem mixed_step {S : PS} (hok : S.ok) {left : Lit → Bool} {p i : Nat} {l : List UInt8} (hi : lastI S.wild (p : Int) = some i) (hw : S.wild[i]? = some (p, l)) (hpn : p < S.np) (hpl : l.length = S.page) :
    ({ S.mixed left with pg := putPg (S.mixed left).pg p l } : PS) = S.mixed (fun z => left z && !z.sameKey (.int .i64 (p : Int))) := by
  have hp : p < S.pg.length := by rw [hok.pl]; exact hpn
  unfold PS.mixed
  rw [mix_step hi hw hp]
  show ({ S with pg := putPg (mix S.wild S.pg left) p l } : PS) = _
  rw [putPg_full (P := S.page) (mix_each hok.pe fun x hx => (hok.we x hx).2) hpl]
set_option maxRecDepth 100000 in
set_option maxHeartbeats 4000000 in
theorem Sync_any (w : World) (F : Nat → Prop) (r : Raw) (S : PS) (h : PlRaw w F r S) : Calls Try.prog 11 #[plPtr r] w (PutAt w F r S.sync (.int .i64 (SyncE S))) := by
  have c4 := h.c4
  cases hd : S.down
  · rw [hd] at c4
    cases hf : (S.acts == 0)
    · have HW := Lib.hid (show S.sync = S.synced by unfold PS.sync; rw [hd, hf]; rfl)
      have HE := Lib.hid (show SyncE S = 0 by unfold SyncE; rw [hd, hf]; rfl)
      unfold plPtr
      go_enter Try.func11, Try.ntmps11
      go_wp2_with fail
      refine (act_any w F r S 2 (.inr rfl) h).mono ?_
      rintro e w1 ⟨rfl, hP1, hg1⟩
      rw [hf]
      have HF := Lib.hid hf
      clear hf hd c4
      have hT1 : Turn F w w1 := Turn.of_grown hg1 (fun b e => by cases e; exact h.fp)
      have d3 := hP1.c3
      obtain ⟨D, hown, hLD⟩ := hP1.map
      have HLD := Lib.hid hLD
      clear hLD
      go_wp2_with (first
        | (at_range; refine wpList_range_own _ rfl (.tmp 20) 62 rfl 3 3 intKeyed Try.underlying62 (plainElem Try.prog 3) r.mb _ D rfl hown ?_; intro w2 hrg2 hg2 hs2)
        | fail)
      go_frame
      have hT2 : Turn F w w2 := hT1.new ⟨hg2.os, hg2.tape, hg2.output, hg2.size, fun k hk => by
        have := hg1.size
        exact hg2.block k (by omega) (by simp)⟩
      have hP2 : PlRaw w2 F r ((S.acted 2).mixed (Maps.has D)) := by
        have e : (S.acted 2).mixed (Maps.has D) = S.acted 2 := by
          unfold PS.mixed
          rw [mix_start HLD.out]
        rw [e]
        exact hP1.heap hg2.size (fun k hk => hg2.block k (hP1.lt k hk) (by simp))
      have hrb : ∀ k, F k → k ≠ w1.heap.size := fun k hk e => by have := hP1.lt k hk; omega
      have HRB := Lib.hid hrb
      clear hrb hown
      go_loopw [3, 4] (fun _ _ wr => ∃ (left : Lit → Bool) (cnt : Nat), wr.ranges Try.prog 3 (plainElem Try.prog 3) r.mb w1.heap.size (S.acted 2).wild.length D left cnt ∧ PlRaw wr F r ((S.acted 2).mixed left) ∧ Turn F w wr)
        (fun _ _ wr => wr.rangeLeft r.mb w1.heap.size)
      case atStart => exact ⟨_, _, hrg2, hP2, hT2⟩
      case round =>
        clear hrg2 hP2 hT2
        obtain ⟨left, cnt, hrg, hP, hT⟩ := hrel
        go_wp2_with (first
          | (at_next; refine wpList_next_ranges_ii _ rfl _ rfl 3 3 .i64 .i64 intKeyed Try.underlying3 Try.underlying3 r.mb w1.heap.size (S.acted 2).wild.length D _ _ rfl hrg ?_ ?_)
          | fail)
        · intro _ hl0
          go_wp2_with fail
          refine (settle_any _ F r _ hP).mono ?_
          rintro e w3 ⟨⟨v3, rfl⟩, hP3, hT3⟩
          go_wp2_with fail
          go_ret
          rw [HW.out, HE.out]
          have e : ({ (S.acted 2).mixed left with wild := [] } : PS) = S.synced := by
            unfold PS.mixed PS.synced
            rw [mix_end hl0]
            rfl
          rw [e] at hP3
          exact ⟨rfl, r.settled, F, rfl, rfl, hP3, hT.trans hT3 (fun k hk => .inl hk), fun k hk => .inl hk⟩
        · intro x c w3 cnt3 hwx hwc hlx hat hrg3 hlt hg3 hs3 hen
          obtain ⟨i, hi, rfl, hx, hla⟩ := HLD.out.key hat
          have hP3 : PlRaw w3 F r ((S.acted 2).mixed left) := hP.turn (Turn.of_grown (F := fun k => k = w1.heap.size) hg3 (fun k e => (Option.some.inj e).symm)) (fun k hf e => HRB.out k hf e)
          obtain ⟨lb, lc, db, cd, p, l, d2, dd, hrd, hw, hpn, hpl⟩ := hP3.entryM hi
          have HW2 := Lib.hid hw
          rw [List.getElem?_eq_getElem hi] at hw
          have hw' := Option.some.inj hw
          rw [hw'] at hx
          have hx' : x = (p : Int) := hx
          subst hx'
          have ij : (i : Int) < ((S.acted 2).wild.length : Int) := by omega
          have HLA := Lib.hid hla
          have hwl : (S.acted 2).wild.length ≤ 9223372036854775807 := hP3.wlen
          have hp2 : S.page ≤ 65536 := h.ok.p2
          have hT3 := hT.grown hg3 (fun b e => by cases e; exact .inr hg1.size)
          have hpq : ∀ m, Calls Try.prog 38 #[.pointer (some ⟨r.pb, 0, none⟩), .int .i64 (p : Int)] (w3.drewN m) fun e w' => e = .returned (.slice (some ⟨r.sb, p * S.page, none⟩) S.page (S.sz - p * S.page)) ∧ ∃ m', w' = w3.drewN m' := fun m => Calls.quiet_of (place_any _ F r ((S.acted 2).mixed left) p hpn (hP3.heap (Nat.le_refl _) fun _ _ => rfl))
          have hfit : p * S.page + S.page ≤ ((S.acted 2).mixed left).pg.flatten.length := by
            rw [hP3.flen]
            have e1 : S.sz = S.page * S.np := h.ok.sn
            show _ ≤ S.sz
            rw [e1, Nat.mul_comm S.page, ← Nat.succ_mul]
            exact Nat.mul_le_mul_right _ hpn
          clear hx hla hw hw'
          go_wp2_with fail
          refine wp_region_dtail 11 (by kernel_rfl) (by kernel_rfl) ?_
          simp only [List.take_succ_cons, List.take_zero, List.drop_succ_cons, List.drop_zero]
          repeat (quiet_step ((go_at_call 38; exact hpq _)))
          refine wpQuiet_nil ?_
          rintro _ ⟨nq, rfl⟩
          go_wp2_with (first
            | ((with_reducible refine at_copy ?_); refine wp_copy_B rfl (.tmp 29) (.tmp 37) rfl _ S.page (S.sz - p * S.page) r.sb (p * S.page) rfl ((S.acted 2).mixed left).pg.flatten (hP3.safe.drewN nq) (fun _ => rfl) hfit _ l rfl (OwB.rd hrd) ?_; intro w5 hb5 hg5)
            | fail)
          have hrg4 : (w3.drewN nq).ranges Try.prog 3 (plainElem Try.prog 3) r.mb w1.heap.size (S.acted 2).wild.length D (fun z => left z && !z.sameKey (.int .i64 (p : Int))) cnt3 := hrg3
          have hrg5 := hrg4.kept hg5 (fun e => hP3.map.ne hP3.safe (Option.some.inj e)) (fun e => HRB.out _ hP3.fs (Option.some.inj e).symm)
          go_frame
          go_roundw
          case rel =>
            have hP4 : PlRaw (w3.drewN nq) F r ((S.acted 2).mixed left) := hP3.heap (Nat.le_refl _) fun _ _ => rfl
            have hP5 := hP4.copied (m := l) hpn (Nat.le_of_eq hpl) hg5 hb5
            have e := mixed_step (left := left) hP1.ok HLA.out HW2.out hpn hpl
            rw [e] at hP5
            exact ⟨_, cnt3, hrg5, hP5, (hT3.drewN nq).grown hg5 (fun b e => by cases e; exact .inl h.fs)⟩
          case measure => rw [hrg5.left_eq, hrg.left_eq]; omega
    · have HW := Lib.hid (show S.sync = (S.acted 2).fell S.keep S.torn S.at_ by unfold PS.sync; rw [hd, hf]; rfl)
      have HE := Lib.hid (show SyncE S = 3 by unfold SyncE; rw [hd, hf]; rfl)
      unfold plPtr
      go_enter Try.func11, Try.ntmps11
      go_wp2_with fail
      refine (act_any w F r S 2 (.inr rfl) h).mono ?_
      rintro e w1 ⟨rfl, hP1, hg1⟩
      rw [hf]
      have HF := Lib.hid hf
      clear hf hd c4
      have hT1 : Turn F w w1 := Turn.of_grown hg1 (fun b e => by cases e; exact h.fp)
      have t0 := hP1.c6
      have t1 : w1.cell? ⟨r.pb, 7, none⟩ = some (.int .i64 S.torn) := hP1.c7
      have t2 : w1.cell? ⟨r.pb, 8, none⟩ = some (.int .i64 S.at_) := hP1.c8
      have hfa := falls_any _ _ _ (S.acted 2) _ S.keep S.torn S.at_ hP1 hP1.keepRd hP1.keepOff h.ok.t2
      unfold plPtr fallV at hfa
      go_wp2_with fail
      refine hfa.mono ?_
      rintro e w7 ⟨⟨v7, rfl⟩, hP7, hT7⟩
      go_wp2_with fail
      go_ret
      rw [HW.out, HE.out]
      exact ⟨rfl, r.settled, F, rfl, rfl, hP7, hT1.trans hT7 (fun k hk => .inl hk), fun k hk => .inl hk⟩
  · rw [hd] at c4
    have HW := Lib.hid (show S.sync = S by unfold PS.sync; rw [hd]; rfl)
    have HE := Lib.hid (show SyncE S = 3 by unfold SyncE; rw [hd]; rfl)
    unfold plPtr
    go_enter Try.func11, Try.ntmps11
    go_wp2_with fail
    go_ret
    rw [HW.out, HE.out]
    exact ⟨rfl, r, F, rfl, rfl, h, Step.refl _ _⟩
end Go.Proofs.Ytipjngoenklioaa

-- copy into bytes that the call owns, at a place.
namespace Go.Proofs.Ytipjngoenklioaa
open Go.RowKit
theorem splice_append {α : Type} (a b : List α) (o : Nat) (r : List α) (h : o + r.length ≤ a.length) : splice (a ++ b) o r = splice a o r ++ b := by
  unfold splice
  rw [List.take_append_of_le_length (by omega), List.drop_append_of_le_length h]
  simp [List.append_assoc]
theorem splice_take_n {α : Type} (cs : List α) (o n : Nat) (r : List α) (h : o + r.length ≤ n) (hn : n ≤ cs.length) : (splice cs o r).take n = splice (cs.take n) o r := by
  have hl : (cs.take n).length = n := by simp; omega
  have e := splice_append (cs.take n) (cs.drop n) o r (by omega)
  rw [List.take_append_drop] at e
  have h2 : (splice (cs.take n) o r).length = n := by rw [length_splice _ _ _ (by omega)]; exact hl
  rw [e]
  exact List.take_left' h2
section laws
variable {w : World} {ops : Array Oper} {rest : List Oper} {o : Oper} {a : Act} {Q : Exit → Act → World → Prop}
theorem wp_copy_At (hgd : o.guard = none) (d s : Operand)
    (ho : o.op = .call { callee := .builtin .copy, args := #[d, s], argTypes := #[28, 28] })
    (base g n cap off : Nat) (dA : Option Addr) (dLen dCap : Nat) (hd' : a.eval d = .slice dA dLen dCap) (hd : 0 < dLen → dA = some ⟨g, off, none⟩)
    (l : List UInt8) (hown : OwB w base (.slice (some ⟨g, 0, none⟩) n cap) l) (hl : l.length = n) (hfit : off + dLen ≤ n)
    (vx : Value) (m : List UInt8) (hx : a.eval s = vx) (hr : RdB w vx m)
    (h : ∀ w', OwB w' base (.slice (some ⟨g, 0, none⟩) n cap) (splice l off (m.take (min m.length dLen))) → w.grownBy w' (some g) → wpList Try.prog ops Q rest (a.put o.dst (goInt (min m.length dLen : Nat))) w') : wpList Try.prog ops Q (o :: rest) a w := by
  have hown' := hown
  unfold OwB at hown'
  rw [hl] at hown'
  obtain ⟨h0, h1⟩ := hown'
  rcases h1 with ⟨h1, _⟩ | ⟨g', cap', cs, h1, hb, ho2, h2, h3, h4, h5⟩
  · cases h1
  · injection h1 with hA _ hc
    injection hA with hA
    injection hA with hA
    subst hA; subst hc
    rw [Nat.mul_one] at h4 h5
    refine wp_copy hgd d s _ _ ho 5 Try.underlying28 u8_size dA dLen dCap g off hd' cs _ ho2 hd (by omega) vx m.length (bvs m) hx hr.rd (bvs_one m) ?_
    intro w' hw' hgr
    refine h w' ?_ hgr
    have hlr : (m.take (min m.length dLen)).length ≤ dLen := by simp; omega
    have hlen2 : (splice l off (m.take (min m.length dLen))).length = n := by rw [length_splice _ _ _ (by omega)]; exact hl
    unfold OwB
    rw [hlen2]
    have hlb : ((bvs m).take (min m.length dLen)).length ≤ dLen := by rw [← bvs_take, bvs_length]; exact hlr
    refine ⟨by rw [bvs_length, hlen2]; omega, .inr ⟨g, cap, _, rfl, hb, hw', h2, h3, ?_, ?_⟩⟩
    · rw [length_splice _ _ _ (by omega)]; omega
    · rw [Nat.mul_one, splice_take_n _ _ _ _ (by omega) (by omega), h5, bvs_splice, bvs_take]
end laws
end Go.Proofs.Ytipjngoenklioaa

-- plate.Image: the walk.
namespace Go.Proofs.Ytipjngoenklioaa
open Go.RowKit Go.WideShapes
def ImgAt (w : World) (l : List UInt8) (e : Ending) (w' : World) : Prop := ∃ v, e = .returned v ∧ OwB w' w.heap.size v l ∧ Below w.heap.size w w'
theorem run_tail (w : World) (g n c lo : Nat) (X : Int) (hX : X = (lo : Int)) (h1 : lo < n) (h2 : n ≤ c) (h3 : 0 < c) (h4 : c ≤ 9223372036854775807) :
    (Instr.slice 28 (.slice (some ⟨g, 0, none⟩) n c) (some (.int .i64 X)) none none).run Try.prog w = .ok (.slice (some ⟨g, lo, none⟩) (n - lo) (c - lo)) w := by
  subst hX
  have := run_slice_l (P := Try.prog) w 28 (some ⟨g, 0, none⟩) n c u8_elem .i64 lo (by omega) (by omega)
  rw [this, u8_sizeOf]
  simp [Result.andThen, sliced, show ¬ c = lo by omega, add_row]
set_option maxRecDepth 100000 in
set_option maxHeartbeats 4000000 in
theorem Image_any (w : World) (F : Nat → Prop) (r : Raw) (S : PS) (h : PlRaw w F r S) : Calls Try.prog 16 #[plPtr r] w (ImgAt w (syncPg S.wild S.pg).flatten) := by
  have c1 := h.c1
  have hn := h.ok.pn
  have hp1 := h.ok.p1
  have hp2 := h.ok.p2
  have hn1 := h.ok.n1
  have hn2 := h.ok.n2
  have hl : S.pg.flatten.length ≤ 140737488355328 := by rw [h.flen]; omega
  have hr := h.safeRd
  have hsz0 : 0 < S.sz := by rw [h.ok.sn]; exact Nat.mul_pos (by omega) (by omega)
  have HF := Lib.hid h.flen
  unfold plPtr
  go_enter Try.func16, Try.ntmps16
  go_wp2_with fail
  refine (CloneB_any _ _ _ hr hl).mono ?_
  rintro e w1 ⟨v, rfl, ho1, hb1⟩
  obtain ⟨g, cg, rfl⟩ := ho1.some' HF.out hsz0
  have hP1 := h.below hb1
  have d3 := hP1.c3
  obtain ⟨D, hown, hLD⟩ := hP1.map
  have HLD := Lib.hid hLD
  clear hLD c1 hr
  go_wp2_with (first
    | (at_range; refine wpList_range_own _ rfl (.tmp 14) 62 rfl 3 3 intKeyed Try.underlying62 (plainElem Try.prog 3) r.mb _ D rfl hown ?_; intro w2 hrg2 hg2 hs2)
    | fail)
  go_frame
  have hb2 : Below w.heap.size w w2 := hb1.grown hg2 hb1.size (fun k e => by cases e)
  have ho2 : OwB w2 w.heap.size (.slice (some ⟨g, 0, none⟩) S.sz cg) (mix S.wild S.pg (Maps.has D)).flatten := by
    rw [mix_start HLD.out]
    exact Own.grown ho1 hg2 (fun g _ e => by cases e)
  have hgg : w.heap.size ≤ g ∧ g < w1.heap.size := Own.lt ho1 g rfl
  have HMG := Lib.hid (show r.mb ≠ g by have := h.map.lt; omega)
  clear hown ho1
  go_loopw [4, 5] (fun _ _ wr => ∃ (left : Lit → Bool) (cnt : Nat), wr.ranges Try.prog 3 (plainElem Try.prog 3) r.mb w1.heap.size S.wild.length D left cnt ∧ OwB wr w.heap.size (.slice (some ⟨g, 0, none⟩) S.sz cg) (mix S.wild S.pg left).flatten ∧ Below w.heap.size w wr)
    (fun _ _ wr => wr.rangeLeft r.mb w1.heap.size)
  case atStart => exact ⟨_, _, hrg2, ho2, hb2⟩
  case round =>
    clear hrg2 ho2 hb2
    obtain ⟨left, cnt, hrg, ho, hb⟩ := hrel
    go_wp2_with (first
      | (at_next; refine wpList_next_ranges_ii _ rfl _ rfl 3 3 .i64 .i64 intKeyed Try.underlying3 Try.underlying3 r.mb w1.heap.size S.wild.length D _ _ rfl hrg ?_ ?_)
      | fail)
    · intro _ hl0
      go_wp2_with fail
      go_ret
      rw [mix_end hl0] at ho
      exact ⟨_, rfl, ho, hb⟩
    · intro x c w3 cnt3 hwx hwc hlx hat hrg3 hlt hg3 hs3 hen
      obtain ⟨i, hi, rfl, hx, hla⟩ := HLD.out.key hat
      have hb3 : Below w.heap.size w w3 := hb.grown hg3 hb.size (fun k e => by cases e; exact hb1.size)
      have hP3 := h.below hb3
      obtain ⟨lb, lc, db, cd, p, l, _, _, hw, hv, _, _, dd, hrd, hpn, hpl⟩ := hP3.entry hi
      have d2 := hP3.c2
      rw [hv] at d2
      have d0 := hP3.c0
      have HW2 := Lib.hid hw
      rw [List.getElem?_eq_getElem hi] at hw
      have hw' := Option.some.inj hw
      rw [hw'] at hx
      have hx' : x = (p : Int) := hx
      subst hx'
      have ij : (i : Int) < (S.wild.length : Int) := by omega
      have HLA := Lib.hid hla
      have hwl : S.wild.length ≤ 9223372036854775807 := hP3.wlen
      obtain ⟨lo, hlo⟩ : ∃ lo, lo = p * S.page := ⟨_, rfl⟩
      have e1 : (p : Int) * (S.page : Int) = (lo : Int) := by rw [hlo]; push_cast; rfl
      have hle : lo + S.page ≤ S.sz := by
        have e2 : S.sz = S.page * S.np := h.ok.sn
        rw [e2, hlo, Nat.mul_comm S.page, ← Nat.succ_mul]
        exact Nat.mul_le_mul_right _ hpn
      have b1 : (lo : Int) ≤ 67108864 := by omega
      have hcg : S.sz ≤ cg ∧ cg ≤ 9223372036854775807 := by
        obtain ⟨_, h2, h3⟩ := ho.rd.cap
        have hl' : (mix S.wild S.pg left).flatten.length = S.sz := (ho.rd.cap.1).symm
        omega
      have q4 := fun w => run_tail w g S.sz cg lo (lo : Int) rfl (by omega) hcg.1 (by omega) hcg.2
      have HML := Lib.hid (show (mix S.wild S.pg left).flatten.length = S.sz from (ho.rd.cap.1).symm)
      have HLO := Lib.hid hlo
      have HPL := Lib.hid hpl
      clear hx hla hw hw' hlo hpl
      go_wp2_with fail
      have wlo : IntKind.i64.wrap (lo : Int) = (lo : Int) := IntWalk.i64_in _ (by omega)
      refine wp_region_dtail 16 (by kernel_rfl) (by kernel_rfl) ?_
      simp only [List.take_succ_cons, List.take_zero, List.drop_succ_cons, List.drop_zero]
      repeat (quiet_step (fail))
      refine wpQuiet_nil ?_
      rintro _ ⟨nq, rfl⟩
      clear wlo
      have ho2 : OwB w3 w.heap.size (.slice (some ⟨g, 0, none⟩) S.sz cg) (mix S.wild S.pg left).flatten := by
        refine Own.grown ho hg3 fun g' hg' e => ?_
        have h1 : g = g' := Option.some.inj hg'
        have h2 : g' = w1.heap.size := Option.some.inj e
        omega
      have ho3 : OwB (w3.drewN nq) w.heap.size (.slice (some ⟨g, 0, none⟩) S.sz cg) (mix S.wild S.pg left).flatten := ho2
      go_wp2_with (first
        | ((with_reducible refine at_copy ?_); refine wp_copy_At rfl (.tmp 28) (.tmp 36) rfl w.heap.size g S.sz cg lo (some ⟨g, lo, none⟩) (S.sz - lo) (cg - lo) rfl (fun _ => rfl) _ ho3 HML.out (by omega) _ l rfl (OwB.rd hrd) ?_; intro w5 hb5 hg5)
        | fail)
      have hrg4 : (w3.drewN nq).ranges Try.prog 3 (plainElem Try.prog 3) r.mb w1.heap.size S.wild.length D (fun z => left z && !z.sameKey (.int .i64 (p : Int))) cnt3 := hrg3
      have hrg5 := hrg4.kept hg5 (fun e => HMG.out (Option.some.inj e)) (fun e => by have := Option.some.inj e; omega)
      go_frame
      go_roundw
      case rel =>
        have e := mixed_step (left := left) h.ok HLA.out HW2.out hpn HPL.out
        have e' := congrArg (fun S : PS => S.pg) e
        simp only [PS.mixed] at e'
        have hmp : p < (mix S.wild S.pg left).length := by rw [mix_length, h.ok.pl]; exact hpn
        have hme : ∀ x ∈ mix S.wild S.pg left, x.length = S.page := mix_each h.ok.pe fun x hx => (h.ok.we x hx).2
        have hpl := HPL.out
        rw [Nat.min_eq_left (by omega), List.take_length, HLO.out, flat_splice _ p l hme hmp (Nat.le_of_eq hpl), e'] at hb5
        exact ⟨_, cnt3, hrg5, hb5, (below_drewN hb3 nq).grown hg5 hb3.size (fun k e => by cases e; exact hgg.1)⟩
      case measure => rw [hrg5.left_eq, hrg.left_eq]; omega
end Go.Proofs.Ytipjngoenklioaa

-- espalierref03.Plate: the state, and where it lies; IsPage, device, Pages.
namespace Go.Proofs.Ytipjngoenklioaa
open Go.RowKit
structure RRaw where
  pb : Nat
  lv : Value
  pv : List Value
  wl : Value
  dv : List Value
  vk : Value
  armed : Bool
  ra : Int
def rfCells (r : RRaw) (S : PS) : List Value :=
  [.int .i64 (S.page : Int), r.lv, r.wl, .bool S.down, .bool r.armed, .int .i64 r.ra, r.vk, .int .i64 S.torn, .int .i64 S.at_, .int .i64 S.cr, .int .i64 S.cw, .int .i64 S.cs]
def ApartV (vs : List Value) : Prop := ∀ (i j : Nat) (u u' : Value), i ≠ j → vs[i]? = some u → vs[j]? = some u' → ∀ g, u.ownBlock = some g → some g ≠ u'.ownBlock
structure RfAt (w : World) (F : Nat → Prop) (r : RRaw) (S : PS) : Prop where
  ok : S.ok
  blk : OBlk w r.pb 76 (rfCells r S)
  own : Own w 0 28 1 r.lv S.pg.length r.pv
  pl : r.pv.length = S.pg.length
  page : ∀ (i : Nat) (h : i < S.pg.length) (v : Value), r.pv[i]? = some v → OwB w 0 v S.pg[i] ∧ ∀ g, v.ownBlock = some g → F g
  apart : ApartV r.pv
  loose : Own w 0 85 2 r.wl S.wild.length (wcells S.wild r.dv)
  dlen : r.dv.length = S.wild.length
  data : ∀ (i : Nat) (h : i < S.wild.length) (v : Value), r.dv[i]? = some v → OwB w 0 v S.wild[i].2 ∧ ∀ g, v.ownBlock = some g → F g ∧ ∀ (j : Nat) (u : Value), r.pv[j]? = some u → some g ≠ u.ownBlock
  keep : Own w 0 3 1 r.vk S.keep.length (S.keep.map (Value.int .i64))
  armed : r.armed = decide (0 ≤ S.acts)
  acts : 0 ≤ S.acts → r.ra = S.acts
  ra : -9223372036854775808 ≤ r.ra ∧ r.ra ≤ 9223372036854775807
  fp : F r.pb
  fl : ∀ g, r.lv.ownBlock = some g → F g
  fw : ∀ g, r.wl.ownBlock = some g → F g
  fk : ∀ g, r.vk.ownBlock = some g → F g
  lt : ∀ k, F k → k < w.heap.size
def rfPtr (r : RRaw) : Value := .pointer (some ⟨r.pb, 0, none⟩)
section
variable {w w' : World} {F G : Nat → Prop} {r : RRaw} {S : PS}
theorem RfAt.heap (h : RfAt w F r S) (hs : w.heap.size ≤ w'.heap.size) (hk : ∀ k, F k → w'.heap[k]? = w.heap[k]?) : RfAt w' F r S :=
  { h with
    blk := h.blk.of_heap (hk _ h.fp)
    own := h.own.heap fun g hg => hk g (h.fl g hg)
    page := fun i hi v hv => ⟨Own.heap (h.page i hi v hv).1 fun g hg => hk g ((h.page i hi v hv).2 g hg), (h.page i hi v hv).2⟩
    loose := h.loose.heap fun g hg => hk g (h.fw g hg)
    data := fun i hi v hv => ⟨Own.heap (h.data i hi v hv).1 fun g hg => hk g ((h.data i hi v hv).2 g hg).1, (h.data i hi v hv).2⟩
    keep := h.keep.heap fun g hg => hk g (h.fk g hg)
    lt := fun k hf => Nat.lt_of_lt_of_le (h.lt k hf) hs }
theorem RfAt.turn (h : RfAt w F r S) (ht : Turn G w w') (hd : ∀ k, F k → ¬ G k) : RfAt w' F r S := h.heap ht.size fun k hf => ht.block k (h.lt k hf) (hd k hf)
theorem RfAt.below (h : RfAt w F r S) (hb : Below w.heap.size w w') : RfAt w' F r S := h.heap hb.size fun k hf => hb.block k (h.lt k hf)
theorem RfAt.drew (h : RfAt w F r S) : RfAt w.drew F r S := h.heap (Nat.le_refl _) fun _ _ => rfl
theorem RfAt.c0 (h : RfAt w F r S) : w.cell? ⟨r.pb, 0, none⟩ = some (.int .i64 (S.page : Int)) := h.blk.cell' rfl
theorem RfAt.c1 (h : RfAt w F r S) : w.cell? ⟨r.pb, 1, none⟩ = some r.lv := h.blk.cell' rfl
theorem RfAt.c2 (h : RfAt w F r S) : w.cell? ⟨r.pb, 2, none⟩ = some r.wl := h.blk.cell' rfl
theorem RfAt.c3 (h : RfAt w F r S) : w.cell? ⟨r.pb, 3, none⟩ = some (.bool S.down) := h.blk.cell' rfl
theorem RfAt.c4 (h : RfAt w F r S) : w.cell? ⟨r.pb, 4, none⟩ = some (.bool r.armed) := h.blk.cell' rfl
theorem RfAt.c5 (h : RfAt w F r S) : w.cell? ⟨r.pb, 5, none⟩ = some (.int .i64 r.ra) := h.blk.cell' rfl
theorem RfAt.c6 (h : RfAt w F r S) : w.cell? ⟨r.pb, 6, none⟩ = some r.vk := h.blk.cell' rfl
theorem RfAt.c7 (h : RfAt w F r S) : w.cell? ⟨r.pb, 7, none⟩ = some (.int .i64 S.torn) := h.blk.cell' rfl
theorem RfAt.c8 (h : RfAt w F r S) : w.cell? ⟨r.pb, 8, none⟩ = some (.int .i64 S.at_) := h.blk.cell' rfl
theorem RfAt.c9 (h : RfAt w F r S) : w.cell? ⟨r.pb, 9, none⟩ = some (.int .i64 S.cr) := h.blk.cell' rfl
theorem RfAt.c10 (h : RfAt w F r S) : w.cell? ⟨r.pb, 10, none⟩ = some (.int .i64 S.cw) := h.blk.cell' rfl
theorem RfAt.c11 (h : RfAt w F r S) : w.cell? ⟨r.pb, 11, none⟩ = some (.int .i64 S.cs) := h.blk.cell' rfl
theorem RfAt.fz (h : RfAt w F r S) {j : Nat} (hj : j < 12) : w.frozen? ⟨r.pb, j, none⟩ = false := h.blk.frozen (by simpa [rfCells] using hj)
end
set_option maxRecDepth 20000 in
theorem RPages_any (w : World) (F : Nat → Prop) (r : RRaw) (S : PS) (h : RfAt w F r S) : Calls Try.prog 25 #[rfPtr r] w fun e w' => e = .returned (.int .i64 (S.np : Int)) ∧ w = w' := by
  have c1 := h.c1
  obtain ⟨A, c, hv⟩ := h.own.slice
  rw [hv, h.ok.pl] at c1
  clear hv
  unfold rfPtr
  go_enter Try.func25, Try.ntmps25
  go_wp2_with fail
  go_ret
  exact ⟨rfl, rfl⟩
set_option maxRecDepth 20000 in
theorem RPage_any (w : World) (F : Nat → Prop) (r : RRaw) (S : PS) (h : RfAt w F r S) : Calls Try.prog 29 #[rfPtr r] w fun e w' => e = .returned (.int .i64 (S.page : Int)) ∧ w = w' := by
  have c0 := h.c0
  unfold rfPtr
  go_enter Try.func29, Try.ntmps29
  go_wp2_with fail
  go_ret
  exact ⟨rfl, rfl⟩
def pw (j : Nat) : Int := 512 * 2 ^ j
theorem isPow_pw (p : Int) : isPow p ↔ ∃ j, j < 8 ∧ p = pw j := by
  unfold isPow pw
  constructor
  · rintro (h | h | h | h | h | h | h | h)
    · exact ⟨0, by omega, h⟩
    · exact ⟨1, by omega, h⟩
    · exact ⟨2, by omega, h⟩
    · exact ⟨3, by omega, h⟩
    · exact ⟨4, by omega, h⟩
    · exact ⟨5, by omega, h⟩
    · exact ⟨6, by omega, h⟩
    · exact ⟨7, by omega, h⟩
  · rintro ⟨j, hj, rfl⟩
    rcases (by omega : j = 0 ∨ j = 1 ∨ j = 2 ∨ j = 3 ∨ j = 4 ∨ j = 5 ∨ j = 6 ∨ j = 7) with rfl | rfl | rfl | rfl | rfl | rfl | rfl | rfl <;> simp
set_option maxRecDepth 20000 in
set_option maxHeartbeats 2000000 in
theorem IsPage_any (p : Int) (w : World) : Calls Try.prog 42 #[.int .i64 p] w fun e w' => e = .returned (.bool (isPowB p)) ∧ w = w' := by
  go_enter Try.func42, Try.ntmps42
  go_wp2_with fail
  go_loopw [3] (fun i wr => ∃ j : Nat, j ≤ 8 ∧ i = .int .i64 (pw j) ∧ Hid (∀ k, k < j → p ≠ pw k) ∧ w = wr) (fun i _ => (131072 - intOf i).toNat)
  case atStart => exact ⟨0, by omega, rfl, Lib.hid (by omega), rfl⟩
  case round =>
    obtain ⟨j, hj, rfl, HN, rfl⟩ := hrel
    rcases (by omega : j = 8 ∨ j < 8) with rfl | hlt
    · have HV := Lib.hid (show isPowB p = false from decide_eq_false fun h => by
        obtain ⟨k, hk, e⟩ := (isPow_pw p).1 h
        exact HN.out k hk e)
      have e8 : pw 8 = 131072 := by decide
      rw [e8]
      go_wp2_with fail
      go_ret
      rw [HV.out]
      exact ⟨rfl, rfl⟩
    · have hb : 512 ≤ pw j ∧ pw j ≤ 65536 ∧ pw (j + 1) = 2 * pw j := by
        rcases (by omega : j = 0 ∨ j = 1 ∨ j = 2 ∨ j = 3 ∨ j = 4 ∨ j = 5 ∨ j = 6 ∨ j = 7) with rfl | rfl | rfl | rfl | rfl | rfl | rfl | rfl <;> decide
      obtain ⟨h1, h2, h3⟩ := hb
      by_cases hp : p = pw j
      · have HV := Lib.hid (show isPowB p = true from decide_eq_true ((isPow_pw p).2 ⟨j, hlt, hp⟩))
        have hb : (pw j == p) = true := by simp [hp]
        clear hp h3
        generalize pw j = x at *
        go_wp2_with fail
        go_ret
        rw [HV.out]
        exact ⟨rfl, rfl⟩
      · have HN2 := Lib.hid (show ∀ k, k < j + 1 → p ≠ pw k from fun k hk => by
          rcases (by omega : k < j ∨ k = j) with h | rfl
          · exact HN.out k h
          · exact hp)
        have hb : (pw j == p) = false := by
          rw [Bool.eq_false_iff]
          simp only [ne_eq, beq_iff_eq]
          exact fun e => hp e.symm
        have H3 := Lib.hid h3
        clear hp h3
        generalize hx : pw j = x at *
        clear hx
        go_wp2_with fail
        go_roundw
        case rel => exact ⟨j + 1, by omega, by rw [H3.out], HN2, trivial⟩
        case measure => simp [intOf]; omega
end Go.Proofs.Ytipjngoenklioaa

-- espalierref03.Plate: Up, Start, Loose, Counts, Safe: walks.
namespace Go.Proofs.Ytipjngoenklioaa
open Go.RowKit
set_option maxRecDepth 20000 in
theorem RUp_any (w : World) (F : Nat → Prop) (r : RRaw) (S : PS) (h : RfAt w F r S) : Calls Try.prog 28 #[rfPtr r] w fun e w' => e = .returned (.bool (!S.down)) ∧ w = w' := by
  have c3 := h.c3
  unfold rfPtr
  go_enter Try.func28, Try.ntmps28
  go_wp2_with fail
  go_ret
  exact ⟨rfl, rfl⟩
set_option maxRecDepth 20000 in
theorem RLoose_any (w : World) (F : Nat → Prop) (r : RRaw) (S : PS) (h : RfAt w F r S) : Calls Try.prog 53 #[rfPtr r] w fun e w' => e = .returned (.int .i64 (S.wild.length : Int)) ∧ w = w' := by
  have c2 := h.c2
  obtain ⟨A, c, hv⟩ := h.loose.slice
  rw [hv] at c2
  clear hv
  unfold rfPtr
  go_enter Try.func53, Try.ntmps53
  go_wp2_with fail
  go_ret
  exact ⟨rfl, rfl⟩
set_option maxRecDepth 20000 in
theorem RCounts_any (w : World) (F : Nat → Prop) (r : RRaw) (S : PS) (h : RfAt w F r S) : Calls Try.prog 54 #[rfPtr r] w fun e w' => e = .returned (.agg #[.int .i64 S.cr, .int .i64 S.cw, .int .i64 S.cs]) ∧ Below w.heap.size w w' := by
  have c9 := h.c9
  have c10 := h.c10
  have c11 := h.c11
  have lb := h.blk.lt
  have hA : Below w.heap.size w (w.alloc (.cells #[.int .i64 0, .int .i64 0, .int .i64 0] 74)) := (Below.refl _ _).alloc (Nat.le_refl _) _
  unfold rfPtr
  go_enter Try.func54, Try.ntmps54
  go_wp2_with fail
  refine bodyPost_ret (v := .agg #[.int .i64 S.cr, .int .i64 S.cw, .int .i64 S.cs]) ?_ rfl ?_
  · simp [results, Try.results54, go_sem]
  · exact ⟨rfl, (Below.refl _ _).alloc (Nat.le_refl _) _⟩
/-- The reference's own block is written. -/
theorem RfAt.pb_write {w w' : World} {F : Nat → Prop} {r : RRaw} {S S' : PS} (h : RfAt w F r S) (hg : w.grownBy w' (some r.pb)) (hb : OBlk w' r.pb 76 (rfCells r S')) (hok : S'.ok) (e1 : S'.pg = S.pg) (e2 : S'.wild = S.wild) (e3 : S'.keep = S.keep) (e4 : S'.acts = S.acts) : RfAt w' F r S' :=
  { ok := hok, blk := hb
    own := by rw [e1]; exact h.own.grown hg (fun g hg' e => h.own.ne_T h.blk (by decide) (by rw [hg', e]))
    pl := by rw [e1]; exact h.pl
    page := by
      rw [e1]
      exact fun i hi v hv => ⟨Own.grown (h.page i hi v hv).1 hg (fun g hg' e => OwB.ne_T (h.page i hi v hv).1 h.blk (by decide) (by rw [hg', e])), (h.page i hi v hv).2⟩
    apart := h.apart
    loose := by rw [e2]; exact h.loose.grown hg (fun g hg' e => h.loose.ne_T h.blk (by decide) (by rw [hg', e]))
    dlen := by rw [e2]; exact h.dlen
    data := by
      rw [e2]
      exact fun i hi v hv => ⟨Own.grown (h.data i hi v hv).1 hg (fun g hg' e => OwB.ne_T (h.data i hi v hv).1 h.blk (by decide) (by rw [hg', e])), (h.data i hi v hv).2⟩
    keep := by rw [e3]; exact h.keep.grown hg (fun g hg' e => h.keep.ne_T h.blk (by decide) (by rw [hg', e]))
    armed := by rw [e4]; exact h.armed
    acts := by rw [e4]; exact h.acts
    ra := h.ra
    fp := h.fp, fl := h.fl, fw := h.fw, fk := h.fk, lt := fun k hk => Nat.lt_of_lt_of_le (h.lt k hk) hg.size }
set_option maxRecDepth 20000 in
theorem RStart_any (w : World) (F : Nat → Prop) (r : RRaw) (S : PS) (h : RfAt w F r S) : Calls Try.prog 48 #[rfPtr r] w fun e w' => (∃ v, e = .returned v) ∧ RfAt w' F r { S with down := false } ∧ w.grownBy w' (some r.pb) := by
  have c3 := h.c3
  have f3 := h.fz (j := 3) (by omega)
  unfold rfPtr
  go_enter Try.func48, Try.ntmps48
  go_wp2_with fail
  refine bodyPost_end (results_none rfl _ _ _) rfl ?_
  have hb := h.blk.set 3 (.bool false)
  exact ⟨⟨_, rfl⟩, h.pb_write (grownBy_setCell w ⟨r.pb, 3, none⟩ (.bool false)) hb { h.ok with } rfl rfl rfl rfl, grownBy_setCell w ⟨r.pb, 3, none⟩ (.bool false)⟩
end Go.Proofs.Ytipjngoenklioaa

-- espalierref03.Plate: Safe, Reading: walks.
namespace Go.Proofs.Ytipjngoenklioaa
open Go.RowKit
theorem RfAt.pageRd {w : World} {F : Nat → Prop} {r : RRaw} {S : PS} (h : RfAt w F r S) {i : Nat} (hi : i < S.pg.length) :
    ∃ A c ad B d, r.lv = .slice A S.pg.length c ∧ A = some ad ∧ w.cell? (ad.add i) = some (.slice B S.pg[i].length d) ∧ RdB w (.slice B S.pg[i].length d) S.pg[i] := by
  obtain ⟨_, A, c, hv, _, _, h3⟩ := h.own.rd
  have hip : i < r.pv.length := by rw [h.pl]; exact hi
  obtain ⟨ad, hA, hc⟩ := h3 i _ (List.getElem?_eq_getElem hip)
  obtain ⟨ho, _⟩ := h.page i hi _ (List.getElem?_eq_getElem hip)
  obtain ⟨B, d, hs⟩ := Own.slice ho
  refine ⟨A, c, ad, B, d, hv, hA, by rw [hc, hs], ?_⟩
  have := OwB.rd ho
  rw [hs] at this
  exact this
set_option maxRecDepth 20000 in
set_option maxHeartbeats 2000000 in
theorem RSafe_any (w : World) (F : Nat → Prop) (r : RRaw) (S : PS) (h : RfAt w F r S) : Calls Try.prog 50 #[rfPtr r] w fun e w' => ∃ v, e = .returned v ∧ OwB w' w.heap.size v S.pg.flatten ∧ Below w.heap.size w w' := by
  obtain ⟨A, c, hv⟩ := h.own.slice
  have c1 := h.c1
  rw [hv] at c1
  have hpl := h.ok.pl
  have hpn := h.ok.pn
  have hpg : S.pg.length ≤ 65536 := by rw [hpl]; exact h.ok.n2
  have hfl : S.pg.flatten.length = S.sz := by rw [flat_len h.ok.pe, h.ok.pl, h.ok.sn]
  have HV := Lib.hid hv
  have HFL := Lib.hid hfl
  have hlb := h.blk.lt
  clear hv hfl
  unfold rfPtr
  go_enter Try.func50, Try.ntmps50
  go_wp2_with fail
  go_loopw [3, 4] (fun out i wr => ∃ k : Nat, k ≤ S.pg.length ∧ i = .int .i64 (k : Int) ∧ OwB wr w.heap.size out (S.pg.take k).flatten ∧ Below w.heap.size w wr) (fun _ i _ => S.pg.length - (intOf i).toNat)
  case atStart => exact ⟨0, Nat.zero_le _, rfl, OwB.nil _ _, Below.refl _ _⟩
  case round =>
    obtain ⟨k, hk, rfl, ho, hB⟩ := hrel
    have hc1 : wr.cell? ⟨r.pb, 1, none⟩ = some (.slice A S.pg.length c) := (hB.cell hlb).trans c1
    obtain ⟨oA, oc, hos⟩ := Own.slice ho
    subst hos
    by_cases hlt : k < S.pg.length
    · have ik : (k : Int) < (S.pg.length : Int) := by omega
      obtain ⟨A2, c2, ad, B, d, hv2, hA2, hcell, hrd⟩ := (h.below hB).pageRd hlt
      have hAA := HV.out.symm.trans hv2
      injection hAA with hAA _ _
      subst hAA
      subst hA2
      have hfs : (S.pg.take (k + 1)).flatten = (S.pg.take k).flatten ++ S.pg[k] := by
        rw [List.take_succ_eq_append_getElem hlt, List.flatten_append]; simp only [List.flatten_cons, List.flatten_nil, List.append_nil]
      have hsz : ((S.pg.take k).flatten ++ S.pg[k]).length ≤ 67108864 := by
        rw [← hfs]
        have : S.pg.flatten = (S.pg.take (k + 1)).flatten ++ (S.pg.drop (k + 1)).flatten := by rw [← List.flatten_append, List.take_append_drop]
        have h2 := HFL.out
        rw [this, List.length_append] at h2
        omega
      rw [List.length_append] at hsz
      have HFS := Lib.hid hfs
      clear hfs hv2
      generalize S.pg[k] = pgk at *
      generalize (S.pg.take k).flatten = acc at *
      go_wp2_with (first
        | (at_builtin; refine wp_append_B rfl (.tmp 14) (.tmp 21) rfl w.heap.size _ acc rfl ho _ pgk rfl hrd (by omega) hB.size ?_; intro v' w' ho' hg' hk'; obtain ⟨nA, nc, hns⟩ := Own.slice ho'; subst hns)
        | fail)
      exact ⟨⟨k + 1, by omega, by go_num, by rw [HFS.out]; have h2 := ho'; rw [List.length_append] at h2; exact h2, hB.grown hg' hB.size (fun j hj => (Own.lt ho j hj).1)⟩, by simp only [intOf, IntKind.wrap_i64]; omega⟩
    · obtain rfl : k = S.pg.length := by omega
      rw [List.take_length] at ho
      rw [List.take_length]
      go_wp2_with fail
      go_ret
      exact ⟨_, rfl, ho, hB⟩
set_option maxRecDepth 20000 in
set_option maxHeartbeats 2000000 in
theorem fails_any (w : World) (F : Nat → Prop) (r : RRaw) (S : PS) (h : RfAt w F r S) : Calls Try.prog 59 #[rfPtr r] w fun e w' => e = .returned (.bool (S.acts == 0)) ∧ (∃ ra, OBlk w' r.pb 76 (rfCells { r with ra := ra } S) ∧ (0 < S.acts → ra = S.acts - 1) ∧ (¬ 0 < S.acts → ra = r.ra)) ∧ w.grownBy w' (some r.pb) := by
  have c4 := h.c4
  have c5 := h.c5
  have f5 := h.fz (j := 5) (by omega)
  have a1 := h.ok.a1
  have a2 := h.ok.a2
  have har := h.armed
  have hra := h.acts
  by_cases h0 : 0 ≤ S.acts
  · rw [har, decide_eq_true h0] at c4
    rw [hra h0] at c5
    by_cases h1 : S.acts = 0
    · have HB := Lib.hid h.blk
      have HR := Lib.hid (hra h0)
      have HE : Hid ((S.acts == 0) = true) := Lib.hid (by rw [h1]; rfl)
      rw [h1] at c5
      clear har hra h1
      unfold rfPtr
      go_enter Try.func59, Try.ntmps59
      go_wp2_with fail
      go_ret
      rw [HE.out]
      exact ⟨rfl, ⟨r.ra, HB.out, fun hp => by have := eq_of_beq HE.out; omega, fun _ => rfl⟩, World.grownBy.refl _ _⟩
    · have hb : (S.acts == 0) = false := beq_eq_false_iff_ne.2 h1
      have hbk := h.blk.set 5 (.int .i64 (S.acts - 1))
      have HB := Lib.hid hbk
      have hw : IntKind.i64.wrap (S.acts - 1) = S.acts - 1 := by rw [IntKind.wrap_i64]; omega
      clear har hra hbk
      unfold rfPtr
      go_enter Try.func59, Try.ntmps59
      go_wp2_with fail
      go_ret
      exact ⟨rfl, ⟨S.acts - 1, HB.out, fun _ => rfl, fun hn => by omega⟩, grownBy_setCell w ⟨r.pb, 5, none⟩ (.int .i64 (S.acts - 1))⟩
  · rw [har, decide_eq_false h0] at c4
    have HB := Lib.hid h.blk
    have HE : Hid ((S.acts == 0) = false) := Lib.hid (beq_eq_false_iff_ne.2 (by omega))
    clear har hra
    unfold rfPtr
    go_enter Try.func59, Try.ntmps59
    go_wp2_with fail
    go_ret
    rw [HE.out]
    exact ⟨rfl, ⟨r.ra, HB.out, fun hp => by omega, fun _ => rfl⟩, World.grownBy.refl _ _⟩
end Go.Proofs.Ytipjngoenklioaa
