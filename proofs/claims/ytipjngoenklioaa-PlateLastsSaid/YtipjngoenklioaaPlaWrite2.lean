/- plate.Write: the walk. -/
import Derived.Test.YtipjngoenklioaaPlaWrite
import Derived.Deep.RegionLaw
namespace Go.Proofs.Ytipjngoenklioaa
open Go.RowKit
/-- What the caller hands in lies in no block of the device's. -/
def OffA (F : Nat → Prop) (v : Value) : Prop := ∀ A n c, v = .slice (some A) n c → ¬ F A.block
theorem RdB.turn {w w' : World} {F : Nat → Prop} {v : Value} {l : List UInt8} (h : RdB w v l) (ht : Turn F w w') (ho : OffA F v) : RdB w' v l := by
  obtain ⟨A, c, rfl, h1, h2, h3⟩ := h
  refine ⟨A, c, rfl, h1, h2, fun j hj => ?_⟩
  obtain ⟨ad, rfl, hc⟩ := h3 j hj
  refine ⟨ad, rfl, ?_⟩
  have hlt := World.block_lt_of_cell? w _ hc
  have hb := ht.block _ hlt (by rw [block_of_add]; exact ho _ _ _ rfl)
  rw [← hc]
  unfold World.cell?
  rw [hb]
theorem RdI.turn {w w' : World} {F : Nat → Prop} {v : Value} {l : List Int} (h : RdI w v l) (ht : Turn F w w') (ho : OffA F v) : RdI w' v l := by
  obtain ⟨h0, A, c, rfl, h1, h2, h3⟩ := h
  refine ⟨h0, A, c, rfl, h1, h2, fun j u hj => ?_⟩
  obtain ⟨ad, rfl, hc⟩ := h3 j u hj
  refine ⟨ad, rfl, ?_⟩
  have hlt := World.block_lt_of_cell? w _ hc
  have hb := ht.block _ hlt (by rw [block_of_add]; exact ho _ _ _ rfl)
  rw [← hc]
  unfold World.cell?
  rw [hb]
def WriteR (S : PS) (n : Int) (l : List UInt8) : Int := if S.ref n = 0 then 31 else S.ref n
set_option maxRecDepth 20000 in
set_option maxHeartbeats 2000000 in
theorem Write_ref (w : World) (F : Nat → Prop) (r : Raw) (S : PS) (n : Int) (v : Value) (h : PlRaw w F r S) (hr : S.ref n ≠ 0) : Calls Try.prog 9 #[plPtr r, .int .i64 n, v] w fun e w' => e = .returned (.int .i64 (S.ref n)) ∧ Below w.heap.size w w' := by
  have hrf := refused_any w F r S n h
  have hb1 : (S.ref n == 0) = false := by simpa using hr
  have hb2 : (S.ref n != 0) = true := by simpa using hr
  obtain ⟨rr, hrr⟩ : ∃ rr, S.ref n = rr := ⟨_, rfl⟩
  rw [hrr] at hrf hb1 hb2
  have HRR := Lib.hid hrr
  clear hr hrr
  unfold plPtr at hrf ⊢
  go_enter Try.func9, Try.ntmps9
  go_wp2_with fail
  refine hrf.mono ?_
  rintro e w1 ⟨rfl, hb⟩
  go_wp2_with fail
  go_ret
  exact ⟨by rw [HRR.out]; rfl, hb⟩
set_option maxRecDepth 20000 in
set_option maxHeartbeats 2000000 in
theorem Write_size (w : World) (F : Nat → Prop) (r : Raw) (S : PS) (n : Int) (v : Value) (l : List UInt8) (h : PlRaw w F r S) (hr : S.ref n = 0) (hv : RdB w v l) (hl : l.length ≠ S.page) : Calls Try.prog 9 #[plPtr r, .int .i64 n, v] w fun e w' => e = .returned (.int .i64 31) ∧ Below w.heap.size w w' := by
  have hrf := refused_any w F r S n h
  rw [hr] at hrf
  clear hr
  obtain ⟨A, c, rfl, hm⟩ := hv.form
  have hb1 : ((l.length : Int) == (S.page : Int)) = false := by simp; omega
  have hb2 : ((l.length : Int) != (S.page : Int)) = true := by simp; omega
  clear hl
  unfold plPtr at hrf ⊢
  go_enter Try.func9, Try.ntmps9
  go_wp2_with fail
  refine hrf.mono ?_
  rintro e w1 ⟨rfl, hb⟩
  have c0 := (h.below hb).c0
  go_wp2_with fail
  go_ret
  exact ⟨rfl, hb⟩
theorem Rd.two (w : World) (x y : Value) (T : TypeId) : Rd (w.alloc (.cells #[x, y] T)) 2 (.slice (some ⟨w.heap.size, 0, none⟩) 1 1) 1 [x, y] :=
  ⟨by simp, _, _, rfl, Nat.le_refl _, by simp [maxLen], fun j u hj => ⟨_, rfl, by rw [add_row, (OBlk.new w T #[x, y]).cell]; simpa using hj⟩⟩
theorem two_one {w : World} {b : Nat} {v : Value} {l : List UInt8} {x : Int} (h : OwB w b v l) : ∀ u ∈ [Value.int .i64 x, v], u.oneCell' = true := by
  intro u hu
  rcases List.mem_cons.1 hu with rfl | hu
  · rfl
  · rw [List.mem_singleton] at hu
    subst hu
    rcases Own.form h with ⟨rfl, _⟩ | ⟨_, _, rfl, _⟩ <;> rfl
theorem PlRaw.keepRd {w : World} {F : Nat → Prop} {r : Raw} {S : PS} (h : PlRaw w F r S) : RdI w r.vk S.keep := by
  have := h.keep.rd
  exact this
theorem PlRaw.keepOff {w : World} {F : Nat → Prop} {r : Raw} {S : PS} (h : PlRaw w F r S) : KeepOff r.vk r.sb := by
  intro A n c e _ hb
  rcases h.keep.2 with ⟨e0, _⟩ | ⟨g, cap, cs, e0, _, hg, _⟩
  · rw [e0] at e; cases e
  · rw [e0] at e
    injection e with hA
    injection hA with hA
    subst hA
    simp only at hb
    subst hb
    exact h.safe.ne hg (by decide) rfl
theorem PS.wrote_at (S : PS) (n : Nat) (l : List UInt8) : ({ S.acted 1 with wild := (S.acted 1).wild ++ [(n, l)] } : PS) = S.wrote n l := rfl
set_option maxRecDepth 20000 in
set_option maxHeartbeats 4000000 in
theorem Write_ok (w : World) (F : Nat → Prop) (r : Raw) (S : PS) (n : Nat) (v : Value) (l : List UInt8) (h : PlRaw w F r S) (hr : S.ref n = 0) (hn : n < S.np) (hv : RdB w v l) (hvo : OffA F v) (hl : l.length = S.page) (hsz : (S.wild.length + 1) * 32 ≤ 140737488355328) :
    Calls Try.prog 9 #[plPtr r, .int .i64 (n : Int), v] w (PutAt w F r (S.write n l) (.int .i64 (WriteE S))) := by
  have hrf := refused_any w F r S n h
  rw [hr] at hrf
  clear hr
  obtain ⟨A, c, rfl, hm⟩ := hv.form
  have hb1 : ((l.length : Int) == (S.page : Int)) = true := by simp; omega
  have hb2 : ((l.length : Int) != (S.page : Int)) = false := by simp; omega
  have HL := Lib.hid hl
  have k2 := h.ok.p2
  have k3 := h.ok.n2
  have hl2 : l.length ≤ 140737488355328 := by omega
  clear hl
  unfold plPtr at hrf ⊢
  go_enter Try.func9, Try.ntmps9
  go_wp2_with fail
  refine hrf.mono ?_
  rintro e w1 ⟨rfl, hw1⟩
  have hP1 := h.below hw1
  have c0 := hP1.c0
  go_wp2_with fail
  refine (act_any _ F r S 1 (.inl rfl) hP1).mono ?_
  rintro e w2 ⟨rfl, hP2, hg2⟩
  have hT2 : Turn F w w2 := (Turn.of_below hw1).grown hg2 (fun b e => by cases e; exact .inl h.fp)
  have hsz2 : (S.acted 1).wild.length < maxLen := by show S.wild.length < _; simp only [maxLen]; omega
  obtain ⟨lv, lc, hvl⟩ := hP2.loose.slice
  have hlc : S.wild.length ≤ 9223372036854775807 := by omega
  have d2 := hP2.c2
  have d3 := hP2.c3
  have hpm : ¬ r.pb = r.mb := fun e => hP2.map.ne hP2.blk e.symm
  have HVL := Lib.hid hvl
  rw [hvl] at d2
  have d2' : w2.cell? ⟨r.pb, 2, none⟩ = some (.slice lv S.wild.length lc) := d2
  obtain ⟨D, hown, hLD⟩ := hP2.map
  have hLD' : LastD (D.put (.int .i64 (n : Int)) (.lit (.int .i64 (S.wild.length : Int)))) (S.wild ++ [(n, l)]) := hLD.put n l (by omega)
  have hv3 := hv.turn hT2 hvo
  clear hvl c0 d2
  go_upto_region 7 with (fail)
  refine wp_region_dtail 10 (by kernel_rfl) (by kernel_rfl) ?_
  simp only [List.take_succ_cons, List.take_zero, List.drop_succ_cons, List.drop_zero]
  repeat (quiet_step (fail))
  refine wpQuiet_nil ?_
  rintro _ ⟨nq, rfl⟩
  refine wpList_mapUpdate_own _ rfl (.tmp 27) (.tmp 28) (.tmp 33) _ rfl 3 3 intKeyed Try.underlying62 (plainElem Try.prog 3) r.mb _ D rfl (show (w2.drewN nq).ownsMap Try.prog 3 (plainElem Try.prog 3) r.mb _ D from hown) hsz2 _ _ _ rfl rfl (key_nat (by omega)) (.lit (.int .i64 (S.wild.length : Int))) [] (plainElem_int Try.underlying3 (wf_nat (by omega))) ?_
  intro w3 hown3 hg3
  have hm3 : MapAt w3 r.mb (S.wild ++ [(n, l)]) := ⟨_, by rw [show (S.wild ++ [(n, l)]).length = S.wild.length + 1 by simp]; exact hown3, hLD'⟩
  have hg3' : w2.grownBy w3 (some r.mb) := ⟨hg3.os, hg3.tape, hg3.output, hg3.size, hg3.block⟩
  have hblk3 := hP2.blk.grown hg3' (fun e => hP2.map.ne hP2.blk (Option.some.inj e).symm)
  have hvlE := HVL.out
  have c2 : w3.cell? ⟨r.pb, 2, none⟩ = some (.slice lv S.wild.length lc) := hblk3.cell' (congrArg some hvlE)
  have lb3 := hblk3.lt
  have hv4 := hv3.turn (Turn.of_grown (F := F) hg3' (fun k e => by cases e; exact h.fm)) hvo
  have hloose : Own w3 0 69 2 (.slice lv S.wild.length lc) S.wild.length (wcells S.wild r.dv) := by
    have := hP2.loose.grown hg3' (fun g hg e => hP2.loose.ne_map hP2.map (by rw [hg, e]))
    rw [hvlE] at this
    exact this
  clear hvlE
  obtain ⟨i0, hi, hz0, hz1, hz2⟩ := info_parts loose_info
  clear d2' d3 hpm hsz2
  go_upto_region 8 with (fail)
  go_region_law
    (first
      | (go_simp; go_at_call 36; refine (CloneB_any _ l _ hv4.drew hl2).mono ?_; rintro e w4 ⟨vd, rfl, hod, hw4⟩; obtain ⟨ld, cd, rfl⟩ := Own.slice hod; have hblk4 := hblk3.drew.below hw4 lb3; have hblk4a := hblk4.alloc (.cells #[.int .i64 (n : Int), .slice ld l.length cd] 69); have hl4 := Own.alloc (Own.below' (Own.drew hloose) hw4 (Nat.le_refl _)) (.cells #[.int .i64 (n : Int), .slice ld l.length cd] 69); have c4 : w4.cell? ⟨r.pb, 2, none⟩ = some (.slice lv S.wild.length lc) := hblk4.cell' (congrArg some HVL.out); have c4a : (w4.alloc (.cells #[.int .i64 (n : Int), .slice ld l.length cd] 69)).cell? ⟨r.pb, 2, none⟩ = some (.slice lv S.wild.length lc) := hblk4a.cell' (congrArg some HVL.out))
      | (refine step_append (by rfl) (.tmp 38) (.tmp 43) _ _ (by rfl) 0 69 i0 _ 2 32 Try.underlying63 hi hz0 hz1 hz2 rfl _ S.wild.length (wcells S.wild r.dv) (by rfl) hl4 (.slice (some ⟨w4.heap.size, 0, none⟩) 1 1) 1 [.int .i64 (n : Int), .slice ld l.length cd] (by rfl) (Rd.src _ Try.underlying63 (by omega) (Rd.two w4 _ _ _) (two_one hod)) (by omega) (by omega) (Nat.zero_le _) ?_; intro v5 w5 ho5 hg5 hk5; have hblk5 := hblk4a.grown hg5 (fun e => hl4.ne_T hblk4a (by decide) e); have c5 : w5.cell? ⟨r.pb, 2, none⟩ = some (.slice lv S.wild.length lc) := hblk5.cell' (congrArg some HVL.out); have f5 := hblk5.frozen (j := 2) (by simp [plCells]); obtain ⟨lv5, lc5, rfl⟩ := Own.slice ho5)
      | fail)
  all_goals
    have hR := hP2.wrote (n := n) (l := l) hn HL.out hm3 hg3' (((Below.refl w3.heap.size w3).drew).trans hw4) hod ((Below.refl w4.heap.size w4).alloc (Nat.le_refl _) (.cells #[.int .i64 (n : Int), .slice ld l.length cd] 69)) ho5 (by rw [HVL.out]; exact hg5) (by rw [HVL.out]; exact hk5) (grownBy_setCell w5 ⟨r.pb, 2, none⟩ (.slice lv5 (S.wild.length + 1) lc5)) (hblk5.set 2 (.slice lv5 (S.wild.length + 1) lc5))
    have hR1 : PlRaw (w5.setCell ⟨r.pb, 2, none⟩ (.slice lv5 (S.wild.length + 1) lc5)) _ _ (S.wrote n l) := hR.1
    have hR2 := hR.2
    clear hR hblk5 hg5 ho5 hk5 hblk4 hblk4a hl4 c4 c4a c5 f5 hblk3 c2 hloose hm3 hown3 hLD' hLD hown
    generalize (w5.setCell ⟨r.pb, 2, none⟩ (.slice lv5 (S.wild.length + 1) lc5)) = w6 at *
    have hS6 : Step F w _ w6 := (⟨hT2, fun k hk => .inl hk⟩ : Step F w F w2).trans hR2
    have e6 := hR1.c6
    have e7 := hR1.c7
    have e8 := hR1.c8
    cases hf : (S.acts == 0)
    · have HW := Lib.hid (show S.write n l = S.wrote n l by unfold PS.write; rw [hf]; rfl)
      have HE := Lib.hid (show WriteE S = 0 by unfold WriteE; rw [hf]; rfl)
      go_wp2_with fail
      go_ret
      rw [HW.out, HE.out]
      refine ⟨rfl, _, _, ?_, ?_, hR1, hS6⟩ <;> rfl
    · have HW := Lib.hid (show S.write n l = (S.wrote n l).fell S.keep S.torn S.at_ by unfold PS.write; rw [hf]; rfl)
      have HE := Lib.hid (show WriteE S = 3 by unfold WriteE; rw [hf]; rfl)
      have hfa := falls_any _ _ _ (S.wrote n l) _ S.keep S.torn S.at_ hR1 hR1.keepRd hR1.keepOff h.ok.t2
      unfold plPtr fallV at hfa
      have t1 : w6.cell? ⟨r.pb, 7, none⟩ = some (.int .i64 S.torn) := e7
      have t2 : w6.cell? ⟨r.pb, 8, none⟩ = some (.int .i64 S.at_) := e8
      clear e7 e8
      go_wp2_with fail
      refine hfa.mono ?_
      rintro e w7 ⟨⟨v7, rfl⟩, hP7, hT7⟩
      go_wp2_with fail
      go_ret
      rw [HW.out, HE.out]
      refine ⟨rfl, _, _, ?_, ?_, hP7, hS6.trans ⟨hT7, fun k hk => .inl hk⟩⟩ <;> rfl
end Go.Proofs.Ytipjngoenklioaa
