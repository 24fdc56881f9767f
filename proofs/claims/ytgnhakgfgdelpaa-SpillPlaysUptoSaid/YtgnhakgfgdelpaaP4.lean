/- Texts joined: api.Bench; api.Bench; api.Bench; api.Bench; ink.half; ink.Sum; copy into bytes that the call owns, at a place.; spill.isPage, Pages, Encode -/
import Derived.Test.YtgnhakgfgdelpaaP1
import Derived.Test.YtgnhakgfgdelpaaP2
import Derived.Test.YtgnhakgfgdelpaaP3
import Derived.Deep.CutRange
import Derived.Deep.DeepCutAuto
import Derived.Deep.RegionHeld3
import Derived.BigQuiet
import Derived.Outline
import Derived.Deep.RegionLaw
-- api.Bench: Size, Reads, Spare, Read, Write, Free, Lay.
namespace Go.Proofs.Ytgnhakgfgdelpaa
open Go.RowKit Go.Maps
section
variable {w0 w : World} {gb gm : Nat} {pv : Int → Option Value} {S : BS} {L : List Ent}
theorem benchE_some {n : Int} {l : List UInt8} (hE : (benchE gb gm pv S).p w) (hl : S.held n = some l) : ∃ v, pv n = some v ∧ OwB w 0 v l := by
  obtain ⟨h1, h2, h3, h4, h5, h6⟩ := hE
  cases e : pv n with
  | none => rw [(h5 n).2 e] at hl; cases hl
  | some v =>
    obtain ⟨l', k1, k2⟩ := (h6 n v e).2.2
    rw [hl] at k1
    obtain rfl := Option.some.inj k1
    exact ⟨v, rfl, k2⟩
theorem benchE_isSome {n : Int} (hE : (benchE gb gm pv S).p w) : (pv n).isSome = (S.held n).isSome := by
  have := hE.2.2.2.2.1 n
  cases h1 : pv n <;> cases h2 : S.held n <;> simp_all
/-- A page is put: what was written into the struct stays. -/
theorem benchE_put {w' : World} {n : Int} {u : Value} {l : List UInt8} (hS : Sep w0 w (bytesE u l :: benchE gb gm pv S :: L)) (hn : 2 ≤ n ∧ n < S.pages) (hl : l.length ≤ 200000) (hM : MapAt w' gm (putM pv n (some u)) (if (pv n).isSome then cntB S else cntB S + 1)) (ht : w.mapTurned w' gm) :
    Sep w0 w' (benchE gb gm (putM pv n (some u)) (S.put n (some l)) :: L) := by
  have hE : (benchE gb gm pv S).p w := hS.tail.head
  have his := benchE_isSome (n := n) hE
  obtain ⟨h1, h2, h3, h4, h5, h6⟩ := hE
  have hu : OwB w 0 u l := hS.head
  have hgm : gm < w.heap.size := h2.lt
  have T := Turn.of_map ht
  have hlt := hS.lt
  have hfar : ∀ g, u.ownBlock = some g → ¬ (benchE gb gm pv S).F g := fun g hg => hS.far (List.mem_cons_self ..) g hg
  have hu1 : u.ownBlock ≠ some gb := fun e => hfar gb e (.inl rfl)
  have hu2 : u.ownBlock ≠ some gm := fun e => hfar gm e (.inr (.inl rfl))
  have hk : ∀ g, g < w.heap.size → g ≠ gm → w'.heap[g]? = w.heap[g]? := fun g hg hne => T.block g hg hne
  have hc := cntB_put (S := S) (n := n) (some l) (by omega) hn.2
  have hcc : (if (pv n).isSome then cntB S else cntB S + 1) = cntB (S.put n (some l)) := by
    rw [his]
    cases hq : (S.held n).isSome <;> rw [hq] at hc <;> simp at hc ⊢ <;> omega
  rw [hcc] at hM
  refine Sep.upd (E := (bytesE u l).star (benchE gb gm pv S)) hS.join (T.mono (fun g hg => by subst hg; exact .inr (.inr (.inl rfl)))) ⟨?_, hM, h3.put (fun _ => hn) (fun l' e => by obtain rfl := Option.some.inj e; exact hl), h4, fun m => ?_, fun m v hv => ?_⟩ (fun g hg => ?_)
  · exact h1.of_heap (hk gb h1.lt h4)
  · unfold BS.put putM
    by_cases e : m = n
    · simp [e]
    · simp only [if_neg e]; exact h5 m
  · unfold putM at hv
    unfold BS.put
    by_cases e : m = n
    · simp only [if_pos e, Option.some.injEq] at hv ⊢
      subst hv
      exact ⟨hu1, hu2, l, rfl, Own.heap hu (fun g hg => hk g (hlt g hg) (fun e => hu2 (by rw [hg, e])))⟩
    · simp only [if_neg e] at hv ⊢
      obtain ⟨k1, k2, l', k3, k4⟩ := h6 m v hv
      exact ⟨k1, k2, l', k3, Own.heap k4 (fun g hg => hk g (Own.lt k4 g hg).2 (fun e => k2 (by rw [hg, e])))⟩
  · have hsz := T.size
    rcases hg with rfl | rfl | ⟨m, v, hv, hg⟩
    · exact ⟨.inl (.inr (.inl rfl)), by have := h1.lt; omega⟩
    · exact ⟨.inl (.inr (.inr (.inl rfl))), by omega⟩
    · unfold putM at hv
      by_cases e : m = n
      · simp only [if_pos e, Option.some.injEq] at hv
        subst hv
        exact ⟨.inl (.inl hg), by have := hlt g hg; omega⟩
      · simp only [if_neg e] at hv
        exact ⟨.inl (.inr (.inr (.inr ⟨m, v, hv, hg⟩))), by obtain ⟨_, _, l', _, k4⟩ := h6 m v hv; have := (Own.lt k4 g hg).2; omega⟩
theorem benchE_del {w' : World} {n : Int} (hS : Sep w0 w (benchE gb gm pv S :: L)) (hn : 2 ≤ n ∧ n < S.pages) (hM : MapAt w' gm (putM pv n none) (if (pv n).isSome then cntB S - 1 else cntB S)) (ht : w.mapTurned w' gm) :
    Sep w0 w' (benchE gb gm (putM pv n none) (S.put n none) :: L) := by
  have hE : (benchE gb gm pv S).p w := hS.head
  have his := benchE_isSome (n := n) hE
  obtain ⟨h1, h2, h3, h4, h5, h6⟩ := hE
  have hgm : gm < w.heap.size := h2.lt
  have T := Turn.of_map ht
  have hk : ∀ g, g < w.heap.size → g ≠ gm → w'.heap[g]? = w.heap[g]? := fun g hg hne => T.block g hg hne
  have hc := cntB_put (S := S) (n := n) none (by omega) hn.2
  have hcc : (if (pv n).isSome then cntB S - 1 else cntB S) = cntB (S.put n none) := by
    rw [his]
    cases hq : (S.held n).isSome <;> rw [hq] at hc <;> simp at hc ⊢ <;> omega
  rw [hcc] at hM
  refine Sep.upd hS (T.mono (fun g hg => by subst hg; exact .inr (.inl rfl))) ⟨?_, hM, h3.put (fun h => by cases h) (fun l' e => by cases e), h4, fun m => ?_, fun m v hv => ?_⟩ (fun g hg => ?_)
  · exact h1.of_heap (hk gb h1.lt h4)
  · unfold BS.put putM
    by_cases e : m = n
    · simp [e]
    · simp only [if_neg e]; exact h5 m
  · unfold putM at hv
    unfold BS.put
    by_cases e : m = n
    · simp [if_pos e] at hv
    · simp only [if_neg e] at hv ⊢
      obtain ⟨k1, k2, l', k3, k4⟩ := h6 m v hv
      exact ⟨k1, k2, l', k3, Own.heap k4 (fun g hg => hk g (Own.lt k4 g hg).2 (fun e => k2 (by rw [hg, e])))⟩
  · have hsz := T.size
    rcases hg with rfl | rfl | ⟨m, v, hv, hg⟩
    · exact ⟨.inl (.inl rfl), by have := h1.lt; omega⟩
    · exact ⟨.inl (.inr (.inl rfl)), by omega⟩
    · unfold putM at hv
      by_cases e : m = n
      · simp [if_pos e] at hv
      · simp only [if_neg e] at hv
        exact ⟨.inl (.inr (.inr ⟨m, v, hv, hg⟩)), by obtain ⟨_, _, l', _, k4⟩ := h6 m v hv; have := (Own.lt k4 g hg).2; omega⟩
/-- The count of reads is raised. -/
theorem benchE_read (hS : Sep w0 w (benchE gb gm pv S :: L)) : Sep w0 (w.setCell ⟨gb, 4, none⟩ (.int .i64 (wrap64 (S.reads + 1)))) (benchE gb gm pv S.read :: L) := by
  obtain ⟨h1, h2, h3, h4, h5, h6⟩ := (hS.head : (benchE gb gm pv S).p w)
  have hg := grownBy_setCell w ⟨gb, 4, none⟩ (.int .i64 (wrap64 (S.reads + 1)))
  have T : Turn (fun g => g = gb) w (w.setCell ⟨gb, 4, none⟩ (.int .i64 (wrap64 (S.reads + 1)))) := Turn.of_grown hg (fun k e => (Option.some.inj e).symm)
  refine Sep.upd hS (T.mono (fun g hg => by subst hg; exact .inl rfl)) ⟨?_, h2.heap (T.block gm h2.lt (fun e => h4 e.symm)), h3.read, h4, h5, fun m v hv => ?_⟩ (fun g hg => ?_)
  · exact h1.set 4 _
  · obtain ⟨k1, k2, l', k3, k4⟩ := h6 m v hv
    exact ⟨k1, k2, l', k3, Own.heap k4 (fun g hg => T.block g (Own.lt k4 g hg).2 (fun e => k1 (by rw [hg, e])))⟩
  · have := hS.lt g hg
    have hsz := T.size
    exact ⟨.inl hg, by omega⟩
/-- The struct's cells. -/
theorem benchE_cells (hE : (benchE gb gm pv S).p w) : w.cell? ⟨gb, 0, none⟩ = some (.int .i64 S.eng) ∧ w.cell? ⟨gb, 1, none⟩ = some (.int .i64 S.page) ∧ w.cell? ⟨gb, 2, none⟩ = some (.int .i64 S.pages) ∧ w.cell? ⟨gb, 3, none⟩ = some (.map (some gm)) ∧ w.cell? ⟨gb, 4, none⟩ = some (.int .i64 S.reads) ∧ w.frozen? ⟨gb, 4, none⟩ = false :=
  ⟨hE.1.cell' rfl, hE.1.cell' rfl, hE.1.cell' rfl, hE.1.cell' rfl, hE.1.cell' rfl, hE.1.frozen (by simp)⟩
end
set_option maxRecDepth 20000 in
theorem BSize_any {w : World} {gb gm : Nat} {pv : Int → Option Value} {S : BS} (hE : (benchE gb gm pv S).p w) :
    Calls Try.prog 65 #[.pointer (some ⟨gb, 0, none⟩)] w fun e w' => e = .returned (.int .i64 S.page) ∧ w' = w := by
  obtain ⟨c0, c1, c2, c3, c4, f4⟩ := benchE_cells hE
  go_enter Try.func65, Try.ntmps65
  go_wp2_with fail
  go_ret
  exact ⟨rfl, rfl⟩
set_option maxRecDepth 20000 in
theorem BReads_any {w : World} {gb gm : Nat} {pv : Int → Option Value} {S : BS} (hE : (benchE gb gm pv S).p w) :
    Calls Try.prog 57 #[.pointer (some ⟨gb, 0, none⟩)] w fun e w' => e = .returned (.int .i64 S.reads) ∧ w' = w := by
  obtain ⟨c0, c1, c2, c3, c4, f4⟩ := benchE_cells hE
  go_enter Try.func57, Try.ntmps57
  go_wp2_with fail
  go_ret
  exact ⟨rfl, rfl⟩
def spareF (S : BS) (n : Int) : Bool := decide (n ≤ (S.pages : Int) - 2 - (cntB S : Int))
set_option maxRecDepth 20000 in
set_option maxHeartbeats 1000000 in
theorem BSpare_any {w : World} {gb gm : Nat} {pv : Int → Option Value} {S : BS} (hE : (benchE gb gm pv S).p w) (n : Int) (hn : i64w n) :
    Calls Try.prog 69 #[.pointer (some ⟨gb, 0, none⟩), .int .i64 n] w fun e w' => e = .returned (.bool (spareF S n)) ∧ ∃ nq, w' = w.drewN nq := by
  obtain ⟨c0, c1, c2, c3, c4, f4⟩ := benchE_cells hE
  have hlen : ∀ ty nq, (Builtin.len_ #[74] ty #[.map (some gm)]).run Try.prog (w.drewN nq) = .ok (.int .i64 (cntB S)) (w.drewN nq) := fun ty nq => run_len (MapAt.heap (w' := w.drewN nq) hE.2.1 rfl) ty
  have hc := cntB_le S
  have h3 := hE.2.2.1
  have b1 := h3.hi
  have b2 := h3.lo
  have e1 : IntKind.i64.wrap ((S.pages : Int) - 2) = (S.pages : Int) - 2 := by rw [IntKind.wrap_i64]; omega
  have e2 : IntKind.i64.wrap ((S.pages : Int) - 2 - (cntB S : Int)) = (S.pages : Int) - 2 - (cntB S : Int) := by rw [IntKind.wrap_i64]; omega
  go_enter Try.func69, Try.ntmps69
  go_upto_region 1 with (fail)
  go_quiet (fail)
  go_wp2_with fail
  go_ret
  exact ⟨rfl, _, rfl⟩
end Go.Proofs.Ytgnhakgfgdelpaa

-- api.Bench: Read, Write, Free, Lay.
namespace Go.Proofs.Ytgnhakgfgdelpaa
open Go.RowKit Go.Maps
section
variable {w0 w : World} {gb gm : Nat} {pv : Int → Option Value} {S : BS} {L : List Ent}
set_option maxRecDepth 20000 in
set_option maxHeartbeats 2000000 in
theorem BRead_none (hE : (benchE gb gm pv S).p w) (n : Int) (hn : i64w n) (hh : S.held n = none) :
    Calls Try.prog 31 #[.pointer (some ⟨gb, 0, none⟩), .int .i64 n] w fun e w' => e = .returned (.tuple #[nilV, .int .i64 30]) ∧ w' = w := by
  obtain ⟨c0, c1, c2, c3, c4, f4⟩ := benchE_cells hE
  have hM := hE.2.1
  have hp : pv n = none := (hE.2.2.2.2.1 n).1 hh
  go_enter Try.func31, Try.ntmps31
  go_wp2_with (first | (at_lookup; refine wp_look rfl _ _ rfl hM rfl n hn rfl none hp ?_) | fail)
  go_ret2
  exact ⟨rfl, rfl⟩
set_option maxRecDepth 20000 in
set_option maxHeartbeats 2000000 in
theorem BRead_some (hS : Sep w0 w (benchE gb gm pv S :: L)) (n : Int) (hn : i64w n) (l : List UInt8) (hh : S.held n = some l) :
    Calls Try.prog 31 #[.pointer (some ⟨gb, 0, none⟩), .int .i64 n] w fun e w' => ∃ u, e = .returned (.tuple #[u, .int .i64 0]) ∧ Sep w0 w' (bytesE u l :: benchE gb gm pv S.read :: L) := by
  have hE : (benchE gb gm pv S).p w := hS.head
  obtain ⟨c0, c1, c2, c3, c4, f4⟩ := benchE_cells hE
  have hM := hE.2.1
  obtain ⟨v, hp, hv⟩ := benchE_some hE hh
  obtain ⟨A, c, rfl, hm⟩ := hv.rd.form
  have hS1 := benchE_read hS
  have hll : l.length ≤ 200000 := hE.2.2.1.len n l hh
  have hv1 : OwB (w.setCell ⟨gb, 4, none⟩ (.int .i64 (wrap64 (S.reads + 1)))) 0 (.slice A l.length c) l := by
    obtain ⟨v', hp', hv'⟩ := benchE_some (S := S.read) (n := n) hS1.head hh
    rw [hp] at hp'
    obtain rfl := Option.some.inj hp'
    exact hv'
  go_enter Try.func31, Try.ntmps31
  go_upto_region 5 with (first | (at_lookup; refine wp_look rfl _ _ rfl hM rfl n hn rfl (some _) hp ?_) | fail)
  generalize w.setCell ⟨gb, 4, none⟩ (.int .i64 (wrap64 (S.reads + 1))) = w1 at *
  go_wp2_with (first
    | (at_make; refine wp_make_0 rfl _ _ rfl l.length rfl rfl (by omega) ?_; intro w2 ho2 hw2 hs2)
    | (refine wp_append_B rfl _ _ rfl w1.heap.size _ _ rfl ho2 _ _ rfl (hv1.rd.below hw2 (Nat.le_refl _)) (by simp; omega) hw2.size ?_; intro u w3 ho3 hg3 hb3)
    | fail)
  go_ret2
  rw [List.nil_append] at ho3
  exact ⟨_, rfl, hS1.bytes (hw2.grown hg3 hw2.size (fun k hk => by have := (Own.lt ho2 k hk).1; exact this)) ho3 (Nat.le_refl _)⟩
def writeZ (S : BS) (n : Int) (d : List UInt8) : Int := if S.held n = none then 30 else if d.length ≠ S.page then 31 else 0
def writeS (S : BS) (n : Int) (d : List UInt8) : BS := if writeZ S n d = 0 then S.put n (some d) else S
set_option maxRecDepth 20000 in
set_option maxHeartbeats 4000000 in
theorem BWrite_any (hS : Sep w0 w (benchE gb gm pv S :: L)) (n : Int) (hn : i64w n) (x : Value) (d : List UInt8) (hx : RdB w x d) :
    Calls Try.prog 71 #[.pointer (some ⟨gb, 0, none⟩), .int .i64 n, x] w fun e w' => e = .returned (.int .i64 (writeZ S n d)) ∧ ∃ pv', Sep w0 w' (benchE gb gm pv' (writeS S n d) :: L) := by
  have hE : (benchE gb gm pv S).p w := hS.head
  obtain ⟨A, c, rfl, hm⟩ := hx.form
  obtain ⟨c0, c1, c2, c3, c4, f4⟩ := benchE_cells hE
  have hM := hE.2.1
  cases hh : S.held n with
  | none =>
    have HZ : Hid (writeZ S n d = 30) := by show _ = _; unfold writeZ; rw [if_pos hh]
    have HS : Hid (writeS S n d = S) := by show _ = _; unfold writeS; rw [HZ.out, if_neg (by decide)]
    have hp : pv n = none := (hE.2.2.2.2.1 n).1 hh
    go_enter Try.func71, Try.ntmps71
    go_wp2_with (first | (at_lookup; refine wp_look rfl _ _ rfl hM rfl n hn rfl none hp ?_) | fail)
    go_ret
    rw [HZ.out, HS.out]
    exact ⟨rfl, _, hS⟩
  | some l =>
    obtain ⟨v, hp, hv⟩ := benchE_some hE hh
    obtain ⟨A', c', rfl, hm'⟩ := hv.rd.form
    by_cases hd : d.length = S.page
    · have HZ : Hid (writeZ S n d = 0) := by show _ = _; unfold writeZ; rw [hh, if_neg (by simp), if_neg (by simpa using hd)]
      have HS : Hid (writeS S n d = S.put n (some d)) := by show _ = _; unfold writeS; rw [HZ.out, if_pos rfl]
      have hpg := isPowB_range hE.2.2.1.page
      have hdl : d.length ≤ 65536 := by omega
      have e1 : ((d.length : Int) != (S.page : Int)) = false := by rw [hd]; simp
      have hdm := hE.2.2.1.dom n (by rw [hh]; rfl)
      have hcl := cntB_le S
      have hph := hE.2.2.1.hi
      have hgs := hE.1.lt
      have HD := Lib.hid hd
      clear hd
      have hmk := fun w => run_make_0 w d.length (by omega)
      go_enter Try.func71, Try.ntmps71
      go_upto_region 6 with (first | (at_lookup; refine wp_look rfl _ _ rfl hM rfl n hn rfl (some _) hp ?_) | fail)
      have ho2 := made_0 w.drew d.length w.drew.heap.size (Nat.le_refl _) (by omega)
      have hw2 : Below w.drew.heap.size w.drew _ := (Below.refl _ _).alloc (Nat.le_refl _) (.cells (bvs (List.replicate d.length 0)).toArray 5)
      go_region_held3 (fun w' => w'.cell? ⟨gb, 3, none⟩ = some (.map (some gm)))
        (first | exact c3 | exact (hw2.cell (p := ⟨gb, 3, none⟩) hgs).trans c3 | exact (hw3.cell (p := ⟨gb, 3, none⟩) hgs).trans c3 | exact (World.cell?_of_block ((Turn.of_map ht4).block gb (Nat.lt_of_lt_of_le hgs hw3.size) hE.2.2.2.1)).trans ((hw3.cell (p := ⟨gb, 3, none⟩) hgs).trans c3))
        (first
          | (refine step_append_B (by rfl) _ _ (by rfl) w.drew.heap.size _ _ (by rfl) ho2 _ _ (by rfl) (hx.drew.below hw2 (Nat.le_refl _)) (by simp; omega) hw2.size ?_; intro u w3 ho3 hg3 hb3; rw [List.nil_append] at ho3; have hw3 := hw2.grown hg3 hw2.size (fun k hk => (Own.lt ho2 k hk).1))
          | (refine upon_store (MapAt.heap hM (hw3.block gm hM.lt)) (by simp only [maxLen]; omega) n hn _ rfl ?_; intro w4 hM4 ht4)
          | fail)
      go_wp2_with fail
      go_ret
      rw [HZ.out, HS.out]
      exact ⟨rfl, _, benchE_put (hS.drew.bytes hw3 ho3 (Nat.le_refl _)) hdm (by omega) hM4 ht4⟩
    · have HZ : Hid (writeZ S n d = 31) := by show _ = _; unfold writeZ; rw [hh, if_neg (by simp), if_pos hd]
      have HS : Hid (writeS S n d = S) := by show _ = _; unfold writeS; rw [HZ.out, if_neg (by decide)]
      have e1 : ((d.length : Int) != (S.page : Int)) = true := by simp only [bne, beq_eq_false_iff_ne.2 (show (d.length : Int) ≠ (S.page : Int) by omega)]; rfl
      go_enter Try.func71, Try.ntmps71
      go_wp2_with (first | (at_lookup; refine wp_look rfl _ _ rfl hM rfl n hn rfl (some _) hp ?_) | fail)
      go_ret
      rw [HZ.out, HS.out]
      exact ⟨rfl, _, hS⟩
end
end Go.Proofs.Ytgnhakgfgdelpaa

-- api.Bench: Free, Lay, Alloc.
namespace Go.Proofs.Ytgnhakgfgdelpaa
open Go.RowKit Go.Maps
section
variable {w0 w : World} {gb gm : Nat} {pv : Int → Option Value} {S : BS} {L : List Ent}
def freeZ (S : BS) (n : Int) : Int := if S.held n = none then 30 else 0
def freeS (S : BS) (n : Int) : BS := if S.held n = none then S else S.put n none
set_option maxRecDepth 20000 in
set_option maxHeartbeats 4000000 in
theorem BFree_any (hS : Sep w0 w (benchE gb gm pv S :: L)) (n : Int) (hn : i64w n) :
    Calls Try.prog 66 #[.pointer (some ⟨gb, 0, none⟩), .int .i64 n] w fun e w' => e = .returned (.int .i64 (freeZ S n)) ∧ ∃ pv', Sep w0 w' (benchE gb gm pv' (freeS S n) :: L) := by
  have hE : (benchE gb gm pv S).p w := hS.head
  obtain ⟨c0, c1, c2, c3, c4, f4⟩ := benchE_cells hE
  have hM := hE.2.1
  cases hh : S.held n with
  | none =>
    have HZ : Hid (freeZ S n = 30) := by show _ = _; unfold freeZ; rw [if_pos hh]
    have HS : Hid (freeS S n = S) := by show _ = _; unfold freeS; rw [if_pos hh]
    have hp : pv n = none := (hE.2.2.2.2.1 n).1 hh
    go_enter Try.func66, Try.ntmps66
    go_wp2_with (first | (at_lookup; refine wp_look rfl _ _ rfl hM rfl n hn rfl none hp ?_) | fail)
    go_ret
    rw [HZ.out, HS.out]
    exact ⟨rfl, _, hS⟩
  | some l =>
    obtain ⟨v, hp, hv⟩ := benchE_some hE hh
    obtain ⟨A', c', rfl, hm'⟩ := hv.rd.form
    have HZ : Hid (freeZ S n = 0) := by show _ = _; unfold freeZ; rw [hh, if_neg (by simp)]
    have HS : Hid (freeS S n = S.put n none) := by show _ = _; unfold freeS; rw [hh, if_neg (by simp)]
    have hdm := hE.2.2.1.dom n (by rw [hh]; rfl)
    go_enter Try.func66, Try.ntmps66
    go_wp2_with (first | (at_lookup; refine wp_look rfl _ _ rfl hM rfl n hn rfl (some _) hp ?_) | (at_delete; refine wp_del rfl _ _ rfl hM rfl n hn rfl ?_; intro w1 hM1 ht1) | fail)
    go_ret
    rw [HZ.out, HS.out]
    exact ⟨rfl, _, benchE_del hS hdm hM1 ht1⟩
def layZ (S : BS) (n : Int) : Int := if n < 2 ∨ (S.pages : Int) ≤ n then 30 else 0
def layS (S : BS) (n : Int) (d : List UInt8) : BS := if n < 2 ∨ (S.pages : Int) ≤ n then S else S.put n (some d)
set_option maxRecDepth 20000 in
set_option maxHeartbeats 4000000 in
theorem BLay_any (hS : Sep w0 w (benchE gb gm pv S :: L)) (n : Int) (hn : i64w n) (x : Value) (d : List UInt8) (hx : RdB w x d) (hdl : d.length ≤ 200000) :
    Calls Try.prog 55 #[.pointer (some ⟨gb, 0, none⟩), .int .i64 n, x] w fun e w' => e = .returned (.int .i64 (layZ S n)) ∧ ∃ pv', Sep w0 w' (benchE gb gm pv' (layS S n d) :: L) := by
  have hE : (benchE gb gm pv S).p w := hS.head
  obtain ⟨A, c, rfl, hm⟩ := hx.form
  obtain ⟨c0, c1, c2, c3, c4, f4⟩ := benchE_cells hE
  have hM := hE.2.1
  by_cases h1 : n < 2 ∨ (S.pages : Int) ≤ n
  · have HZ : Hid (layZ S n = 30) := by show _ = _; unfold layZ; rw [if_pos h1]
    have HS : Hid (layS S n d = S) := by show _ = _; unfold layS; rw [if_pos h1]
    by_cases h2 : n < 2
    · clear h1
      go_enter Try.func55, Try.ntmps55
      go_wp2_with fail
      go_ret
      rw [HZ.out, HS.out]
      exact ⟨rfl, _, hS⟩
    · have h3 : (S.pages : Int) ≤ n := by omega
      clear h1
      go_enter Try.func55, Try.ntmps55
      go_wp2_with fail
      go_ret
      rw [HZ.out, HS.out]
      exact ⟨rfl, _, hS⟩
  · have HZ : Hid (layZ S n = 0) := by show _ = _; unfold layZ; rw [if_neg h1]
    have HS : Hid (layS S n d = S.put n (some d)) := by show _ = _; unfold layS; rw [if_neg h1]
    have hdm : 2 ≤ n ∧ n < S.pages := by omega
    have h2 : ¬ n < 2 := by omega
    have h3 : ¬ (S.pages : Int) ≤ n := by omega
    have hcl := cntB_le S
    have hph := hE.2.2.1.hi
    have hgs := hE.1.lt
    have hmk := fun w => run_make_0 w d.length (by omega)
    clear h1
    go_enter Try.func55, Try.ntmps55
    go_upto_region 3 with (fail)
    have ho2 := made_0 w.drew d.length w.drew.heap.size (Nat.le_refl _) (by omega)
    have hw2 : Below w.drew.heap.size w.drew _ := (Below.refl _ _).alloc (Nat.le_refl _) (.cells (bvs (List.replicate d.length 0)).toArray 5)
    go_region_held3 (fun w' => w'.cell? ⟨gb, 3, none⟩ = some (.map (some gm)))
      (first | exact c3 | exact (hw2.cell (p := ⟨gb, 3, none⟩) hgs).trans c3 | exact (hw3.cell (p := ⟨gb, 3, none⟩) hgs).trans c3 | exact (World.cell?_of_block ((Turn.of_map ht4).block gb (Nat.lt_of_lt_of_le hgs hw3.size) hE.2.2.2.1)).trans ((hw3.cell (p := ⟨gb, 3, none⟩) hgs).trans c3))
      (first
        | (refine step_append_B (by rfl) _ _ (by rfl) w.drew.heap.size _ _ (by rfl) ho2 _ _ (by rfl) (hx.drew.below hw2 (Nat.le_refl _)) (by simp; omega) hw2.size ?_; intro u w3 ho3 hg3 hb3; rw [List.nil_append] at ho3; have hw3 := hw2.grown hg3 hw2.size (fun k hk => (Own.lt ho2 k hk).1))
        | (refine upon_store (MapAt.heap hM (hw3.block gm hM.lt)) (by simp only [maxLen]; omega) n hn _ rfl ?_; intro w4 hM4 ht4)
        | fail)
    go_wp2_with fail
    go_ret
    rw [HZ.out, HS.out]
    exact ⟨rfl, _, benchE_put (hS.drew.bytes hw3 ho3 (Nat.le_refl _)) hdm hdl hM4 ht4⟩
end
/-! ### the least page that is not there -/
def freeAt (S : BS) (n : Nat) : Bool := decide (2 ≤ n) && (S.held n).isNone
def allocF (S : BS) : Option Nat := (List.range S.pages).find? (freeAt S)
def allocZ (S : BS) : Int × Int := match allocF S with | some n => ((n : Int), 0) | none => (0, 5)
def allocS (S : BS) : BS := match allocF S with | some n => S.put n (some (List.replicate S.page 0)) | none => S
theorem find_range (p : Nat → Bool) (n : Nat) (hp : p n = true) (hq : ∀ m, m < n → p m = false) : ∀ N, n < N → (List.range N).find? p = some n := by
  intro N hN
  obtain ⟨d, rfl⟩ : ∃ d, N = n + 1 + d := ⟨N - n - 1, by omega⟩
  rw [List.range_add, List.find?_append, List.range_succ, List.find?_append]
  have : (List.range n).find? p = none := by
    rw [List.find?_eq_none]
    intro x hx
    rw [hq x (List.mem_range.1 hx)]; simp
  rw [this]
  simp [hp]
theorem allocF_some {S : BS} {n : Nat} (h1 : 2 ≤ n) (h2 : n < S.pages) (h3 : S.held n = none) (h4 : ∀ m : Nat, 2 ≤ m → m < n → S.held m ≠ none) : allocF S = some n := by
  unfold allocF
  refine find_range _ n (by simp [freeAt, h1, h3]) (fun m hm => ?_) _ h2
  by_cases e : 2 ≤ m
  · have := h4 m e hm
    simp [freeAt]; intro _; exact Option.isSome_iff_ne_none.2 this
  · simp [freeAt, e]
theorem allocF_none {S : BS} (h4 : ∀ m : Nat, 2 ≤ m → m < S.pages → S.held m ≠ none) : allocF S = none := by
  unfold allocF
  rw [List.find?_eq_none]
  intro m hm
  have hm := List.mem_range.1 hm
  simp [freeAt]
  intro e; exact h4 m e hm
section
variable {w0 w : World} {gb gm : Nat} {pv : Int → Option Value} {S : BS} {L : List Ent}
set_option maxRecDepth 20000 in
set_option maxHeartbeats 4000000 in
theorem BAlloc_any (hS : Sep w0 w (benchE gb gm pv S :: L)) :
    Calls Try.prog 70 #[.pointer (some ⟨gb, 0, none⟩)] w fun e w' => e = .returned (.tuple #[.int .i64 (allocZ S).1, .int .i64 (allocZ S).2]) ∧ ∃ pv', Sep w0 w' (benchE gb gm pv' (allocS S) :: L) := by
  have hE : (benchE gb gm pv S).p w := hS.head
  obtain ⟨c0, c1, c2, c3, c4, f4⟩ := benchE_cells hE
  have hM := hE.2.1
  have hph := hE.2.2.1.hi
  have hpl := hE.2.2.1.lo
  have hgs := hE.1.lt
  have hpg := isPowB_range hE.2.2.1.page
  have hmk := fun w => run_make_n w S.page (by omega)
  go_enter Try.func70, Try.ntmps70
  go_upto_region 2 with (fail)
  go_loopw [4] (fun i wr => ∃ k : Nat, 2 ≤ k ∧ k ≤ S.pages ∧ i = .int .i64 (k : Int) ∧ w = wr ∧ Hid (∀ m : Nat, 2 ≤ m → m < k → S.held m ≠ none)) (fun i _ => S.pages - (intOf i).toNat)
  case atStart => exact ⟨2, by omega, hpl, rfl, rfl, Lib.hid (fun m h1 h2 => absurd h2 (by omega))⟩
  case round =>
    obtain ⟨k, hk1, hk2, rfl, rfl, HB⟩ := hrel
    by_cases hlt : k < S.pages
    · have i1 : (k : Int) < (S.pages : Int) := by omega
      have hkn : i64w (k : Int) := by unfold i64w; omega
      cases hh : S.held (k : Int) with
      | none =>
        have HA : Hid (allocF S = some k) := Lib.hid (allocF_some hk1 hlt hh HB.out)
        have HZ : Hid (allocZ S = ((k : Int), 0)) := by show _ = _; unfold allocZ; rw [HA.out]
        have HS : Hid (allocS S = S.put (k : Int) (some (List.replicate S.page 0))) := by show _ = _; unfold allocS; rw [HA.out]
        have hp : pv (k : Int) = none := (hE.2.2.2.2.1 (k : Int)).1 hh
        have hdm : 2 ≤ (k : Int) ∧ (k : Int) < S.pages := by omega
        have hcl := cntB_le S
        go_upto_region 6 with (first | (at_lookup; refine wp_look rfl _ _ rfl hM rfl (k : Int) hkn rfl none hp ?_) | fail)
        have ho2 := made_n w.drew S.page w.drew.heap.size (Nat.le_refl _) (by omega)
        have hw2 : Below w.drew.heap.size w.drew _ := (Below.refl _ _).alloc (Nat.le_refl _) (.cells (bvs (List.replicate S.page 0)).toArray 5)
        go_region_held3 (fun w' => w'.cell? ⟨gb, 3, none⟩ = some (.map (some gm)) ∧ w'.cell? ⟨gb, 1, none⟩ = some (.int .i64 S.page))
          (first | exact ⟨c3, c1⟩ | exact ⟨(hw2.cell (p := ⟨gb, 3, none⟩) hgs).trans c3, (hw2.cell (p := ⟨gb, 1, none⟩) hgs).trans c1⟩ | exact ⟨(World.cell?_of_block ((Turn.of_map ht4).block gb (Nat.lt_of_lt_of_le hgs hw2.size) hE.2.2.2.1)).trans ((hw2.cell (p := ⟨gb, 3, none⟩) hgs).trans c3), (World.cell?_of_block ((Turn.of_map ht4).block gb (Nat.lt_of_lt_of_le hgs hw2.size) hE.2.2.2.1)).trans ((hw2.cell (p := ⟨gb, 1, none⟩) hgs).trans c1)⟩)
          (first
            | (refine upon_store (MapAt.heap hM (hw2.block gm hM.lt)) (by simp only [maxLen]; omega) (k : Int) hkn _ rfl ?_; intro w4 hM4 ht4)
            | fail)
        go_wp2_with fail
        go_ret2
        rw [HZ.out, HS.out]
        exact ⟨rfl, _, benchE_put (hS.drew.bytes hw2 ho2 (Nat.le_refl _)) hdm (by simp; omega) hM4 ht4⟩
      | some l =>
        obtain ⟨v, hp, hv⟩ := benchE_some hE hh
        obtain ⟨A', c', rfl, hm'⟩ := hv.rd.form
        go_wp2_with (first | (at_lookup; refine wp_look rfl _ _ rfl hM rfl (k : Int) hkn rfl (some _) hp ?_) | fail)
        go_roundw
        case rel => exact ⟨k + 1, by omega, by omega, by go_num, by trivial, Lib.hid (fun m h1 h2 => by rcases (by omega : m < k ∨ m = k) with h3 | rfl; exact HB.out m h1 h3; rw [hh]; simp)⟩
        case measure => simp [intOf]; omega
    · obtain rfl : k = S.pages := by omega
      have HA : Hid (allocF S = none) := Lib.hid (allocF_none HB.out)
      have HZ : Hid (allocZ S = (0, 5)) := by show _ = _; unfold allocZ; rw [HA.out]
      have HS : Hid (allocS S = S) := by show _ = _; unfold allocS; rw [HA.out]
      have i1 : ¬ (S.pages : Int) < (S.pages : Int) := by omega
      go_wp2_with fail
      go_ret2
      rw [HZ.out, HS.out]
      exact ⟨rfl, _, hS⟩
end
end Go.Proofs.Ytgnhakgfgdelpaa

-- api.Bench: Taken, NewBench.
namespace Go.Proofs.Ytgnhakgfgdelpaa
open Go.RowKit Go.Maps
def takenTo (S : BS) (k : Nat) : List Int := ((List.range k).filter fun (n : Nat) => decide (2 ≤ n) && (S.held n).isSome).map Int.ofNat
def takenF (S : BS) : List Int := takenTo S S.pages
theorem takenTo_len (S : BS) (k : Nat) : (takenTo S k).length ≤ k := by
  unfold takenTo
  rw [List.length_map]
  exact Nat.le_trans (List.length_filter_le _ _) (by rw [List.length_range]; exact Nat.le_refl _)
theorem takenTo_some {S : BS} {k : Nat} {l : List UInt8} (h : 2 ≤ k) (hh : S.held (k : Int) = some l) : takenTo S (k + 1) = takenTo S k ++ [(k : Int)] := by
  unfold takenTo
  rw [List.range_succ, List.filter_append, List.map_append]
  congr 1
  simp [h, hh]
theorem takenTo_none {S : BS} {k : Nat} (hh : S.held (k : Int) = none) : takenTo S (k + 1) = takenTo S k := by
  unfold takenTo
  rw [List.range_succ, List.filter_append, List.map_append]
  simp [hh]
theorem takenTo_two (S : BS) : takenTo S 2 = [] := by
  unfold takenTo
  have e : List.range 2 = [0, 1] := rfl
  rw [e]; simp
section
variable {w0 w : World} {gb gm : Nat} {pv : Int → Option Value} {S : BS} {L : List Ent}
set_option maxRecDepth 20000 in
set_option maxHeartbeats 4000000 in
theorem BTaken_any (hS : Sep w0 w (benchE gb gm pv S :: L)) :
    Calls Try.prog 23 #[.pointer (some ⟨gb, 0, none⟩)] w fun e w' => ∃ u, e = .returned u ∧ Sep w0 w' (intsE u (takenF S) :: benchE gb gm pv S :: L) := by
  have hE : (benchE gb gm pv S).p w := hS.head
  obtain ⟨c0, c1, c2, c3, c4, f4⟩ := benchE_cells hE
  have hph := hE.2.2.1.hi
  have hpl := hE.2.2.1.lo
  have hgs := hE.1.lt
  go_enter Try.func23, Try.ntmps23
  go_upto_region 3 with (fail)
  go_loopw [4, 3] (fun i v wr => ∃ k : Nat, 2 ≤ k ∧ k ≤ S.pages ∧ i = .int .i64 (k : Int) ∧ OwI wr w.heap.size v (takenTo S k) ∧ Below w.heap.size w wr) (fun i _ _ => S.pages - (intOf i).toNat)
  case atStart => exact ⟨2, by omega, hpl, rfl, by rw [takenTo_two]; exact Own.nil _ _ _ _, Below.refl _ _⟩
  case round =>
    obtain ⟨k, hk1, hk2, rfl, hO, hB⟩ := hrel
    have hEr : (benchE gb gm pv S).p wr := (benchE gb gm pv S).loc (fun g hg => hB.block g (hS.lt g hg)) hE
    obtain ⟨c0, c1, c2, c3, c4, f4⟩ := benchE_cells hEr
    have hM := hEr.2.1
    by_cases hlt : k < S.pages
    · have i1 : (k : Int) < (S.pages : Int) := by omega
      have hkn : i64w (k : Int) := by unfold i64w; omega
      cases hh : S.held (k : Int) with
      | none =>
        have hp : pv (k : Int) = none := (hE.2.2.2.2.1 (k : Int)).1 hh
        have HT := Lib.hid (takenTo_none hh)
        go_wp2_with (first | (at_lookup; refine wp_look rfl _ _ rfl hM rfl (k : Int) hkn rfl none hp ?_) | fail)
        go_roundw
        case rel => exact ⟨k + 1, by omega, by omega, by go_num, by rw [HT.out]; exact hO, hB⟩
        case measure => simp [intOf]; omega
      | some l =>
        obtain ⟨v, hp, hv⟩ := benchE_some hEr hh
        obtain ⟨A', c', rfl, hm'⟩ := hv.rd.form
        have HT := Lib.hid (takenTo_some hk1 hh)
        have hlen := takenTo_len S k
        go_wp2_with (first
          | (at_lookup; refine wp_look rfl _ _ rfl hM rfl (k : Int) hkn rfl (some _) hp ?_)
          | (at_builtin; refine wp_append_I1 rfl (.tmp 25) (.tmp 27) rfl w.heap.size _ _ rfl hO (k : Int) _ rfl (by omega) hB.size ?_; intro u w2 hO2 hg2 hb2)
          | fail)
        go_roundw
        case rel => exact ⟨k + 1, by omega, by omega, by go_num, by rw [HT.out]; exact hO2, hB.grown hg2 hB.size (fun j hj => (Own.lt hO j hj).1)⟩
        case measure => simp [intOf]; omega
    · obtain rfl : k = S.pages := by omega
      have i1 : ¬ (S.pages : Int) < (S.pages : Int) := by omega
      go_wp2_with fail
      go_ret
      exact ⟨_, rfl, hS.ints hB hO (Nat.le_refl _)⟩
end
def newB (page pages : Int) : Bool := isPowB page && (decide (2 ≤ pages) && decide (pages ≤ 65536))
def emptyB (eng page pages : Int) : BS := ⟨eng, page.toNat, pages.toNat, 0, fun _ => none⟩
set_option maxRecDepth 20000 in
set_option maxHeartbeats 4000000 in
theorem NewB_bad (eng page pages : Int) (he : eng = 1 ∨ eng = 2) (hb : newB page pages = false) (w : World) :
    Calls Try.prog 21 #[.int .i64 eng, .int .i64 page, .int .i64 pages] w fun e w' => e = .returned (.pointer none) ∧ w' = w := by
  have hb' : isPowB page = false ∨ pages < 2 ∨ 65536 < pages := by
    unfold newB at hb
    cases h1 : isPowB page with
    | false => exact .inl rfl
    | true =>
      rw [h1] at hb
      simp at hb
      omega
  clear hb
  go_enter Try.func21, Try.ntmps21
  go_upto_region 1 with (fail)
  go_cut [35] (fun s wx => s = .bool true ∧ w = wx)
  case first =>
    by_cases h1 : page < 512
    · rcases he with rfl | rfl
      · go_wp2_with fail
        go_meet
        exact ⟨rfl, rfl⟩
      · go_wp2_with fail
        go_meet
        exact ⟨rfl, rfl⟩
    by_cases h2 : 65536 < page
    · rcases he with rfl | rfl
      · go_wp2_with fail
        go_meet
        exact ⟨rfl, rfl⟩
      · go_wp2_with fail
        go_meet
        exact ⟨rfl, rfl⟩
    have ht := pow_test page (by omega) (by omega)
    have hww : IntKind.i64.wrap (page - 1) = page - 1 := by rw [IntKind.wrap_i64]; omega
    cases hpw : isPowB page with
    | false =>
      rw [hpw] at ht
      clear hb' hpw
      rcases he with rfl | rfl
      · go_wp2_with fail
        go_meet
        exact ⟨rfl, rfl⟩
      · go_wp2_with fail
        go_meet
        exact ⟨rfl, rfl⟩
    | true =>
      rw [hpw] at hb' ht
      by_cases h3 : pages < 2
      · clear hb' hpw
        rcases he with rfl | rfl
        · go_wp2_with fail
          go_meet
          exact ⟨rfl, rfl⟩
        · go_wp2_with fail
          go_meet
          exact ⟨rfl, rfl⟩
      · have h4 : 65536 < pages := by
          rcases hb' with h | h | h
          · cases h
          · omega
          · exact h
        clear hb' hpw
        rcases he with rfl | rfl
        · go_wp2_with fail
          go_meet
          exact ⟨rfl, rfl⟩
        · go_wp2_with fail
          go_meet
          exact ⟨rfl, rfl⟩
  case rest =>
    obtain ⟨rfl, rfl⟩ := hcut
    clear hb' he
    go_wp2_with fail
    go_ret
    exact ⟨rfl, rfl⟩
theorem newB_sep {w0 w : World} {L : List Ent} (eng : Int) (p n : Nat) (hp : isPowB (p : Int) = true) (h1 : 2 ≤ n) (h2 : n ≤ 65536) (hS : Sep w0 w L) :
    Sep w0 ((w.alloc (.map #[] 0)).alloc (.cells #[.int .i64 eng, .int .i64 (p : Int), .int .i64 (n : Int), .map (some w.heap.size), .int .i64 0] 76)) (benchE (w.heap.size + 1) w.heap.size (fun _ => none) (emptyB eng p n) :: L) := by
  have hB : Below w.heap.size w ((w.alloc (.map #[] 0)).alloc (.cells #[.int .i64 eng, .int .i64 (p : Int), .int .i64 (n : Int), .map (some w.heap.size), .int .i64 0] 76)) := ((Below.refl _ _).alloc (Nat.le_refl _) _).alloc (by simp) _
  have hM := MapAt.made w
  refine hS.new hB ⟨?_, ?_, ?_, by omega, fun _ => ⟨fun _ => rfl, fun _ => rfl⟩, fun _ _ h => by cases h⟩ (fun g hg => ?_)
  · have := OBlk.new' (w.alloc (.map #[] 0)) 76 [.int .i64 eng, .int .i64 (p : Int), .int .i64 (n : Int), .map (some w.heap.size), .int .i64 0]
    rw [World.size_alloc] at this
    exact this
  · have e : cntB (emptyB eng p n) = 0 := by
      unfold cntB emptyB
      simp
    rw [e]
    exact hM.heap (Below.heap_alloc _ _ _ (by simp))
  · exact ⟨hp, h1, h2, fun _ h => by simp [emptyB] at h, fun _ _ h => by simp [emptyB] at h⟩
  · rcases hg with rfl | rfl | ⟨m, v, hv, _⟩
    · constructor <;> simp <;> omega
    · constructor <;> simp <;> omega
    · cases hv
set_option maxRecDepth 20000 in
set_option maxHeartbeats 4000000 in
theorem NewB_ok (eng page pages : Int) (he : eng = 1 ∨ eng = 2) (hb : newB page pages = true) (w0 w : World) (L : List Ent) (hS : Sep w0 w L) :
    Calls Try.prog 21 #[.int .i64 eng, .int .i64 page, .int .i64 pages] w fun e w' => ∃ gb gm, e = .returned (.pointer (some ⟨gb, 0, none⟩)) ∧ Sep w0 w' (benchE gb gm (fun _ => none) (emptyB eng page pages) :: L) := by
  have hb' : isPowB page = true ∧ 2 ≤ pages ∧ pages ≤ 65536 := by
    unfold newB at hb
    cases h1 : isPowB page with
    | false => rw [h1] at hb; cases hb
    | true =>
      rw [h1] at hb
      simp at hb
      exact ⟨rfl, hb⟩
  clear hb
  obtain ⟨hpw, hl, hh⟩ := hb'
  obtain ⟨hp1, hp2⟩ := isPowB_range hpw
  have hmm := @run_makeMap Try.prog
  go_enter Try.func21, Try.ntmps21
  go_upto_region 1 with (fail)
  go_cut [35] (fun s wx => s = .bool false ∧ w = wx)
  case first =>
    have ht := pow_test page (by omega) (by omega)
    rw [hpw] at ht
    have h1 : ¬ page < 512 := by omega
    have h2 : ¬ 65536 < page := by omega
    have h3 : ¬ pages < 2 := by omega
    have h4 : ¬ 65536 < pages := by omega
    have hww : IntKind.i64.wrap (page - 1) = page - 1 := by rw [IntKind.wrap_i64]; omega
    rcases he with rfl | rfl
    · go_wp2_with fail
      go_meet
      exact ⟨rfl, rfl⟩
    · go_wp2_with fail
      go_meet
      exact ⟨rfl, rfl⟩
  case rest =>
    obtain ⟨rfl, rfl⟩ := hcut
    clear he
    go_wp2_with fail
    go_ret
    obtain ⟨p, rfl⟩ : ∃ p : Nat, page = (p : Int) := ⟨page.toNat, by omega⟩
    obtain ⟨n, rfl⟩ : ∃ n : Nat, pages = (n : Int) := ⟨pages.toNat, by omega⟩
    exact ⟨_, _, rfl, newB_sep eng p n hpw (by omega) (by omega) hS⟩
end Go.Proofs.Ytgnhakgfgdelpaa

-- ink.half: the walk.
namespace Go.Proofs.Ytgnhakgfgdelpaa
open Go.RowKit


/-! ### half, Sum -/
theorem halfTab_at (k : Nat) (h : k < 16) : [Value.int IntKind.u32 0, Value.int IntKind.u32 274646895, Value.int IntKind.u32 549293790,
              Value.int IntKind.u32 820201905, Value.int IntKind.u32 1098587580, Value.int IntKind.u32 1361435347,
              Value.int IntKind.u32 1640403810, Value.int IntKind.u32 1905808397, Value.int IntKind.u32 2197175160,
              Value.int IntKind.u32 2460548119, Value.int IntKind.u32 2722870694, Value.int IntKind.u32 2987750089,
              Value.int IntKind.u32 3280807620, Value.int IntKind.u32 3553878443, Value.int IntKind.u32 3811616794,
              Value.int IntKind.u32 4084100981][k]? = some (.int .u32 (halfTab.getD k 0 : Nat)) := by
  match k, h with
  | 0, _ | 1, _ | 2, _ | 3, _ | 4, _ | 5, _ | 6, _ | 7, _ | 8, _ | 9, _ | 10, _ | 11, _ | 12, _ | 13, _ | 14, _ | 15, _ => rfl
  | k + 16, h => omega
set_option maxHeartbeats 400000 in
theorem half_any (r : Nat) (h : r < 4294967296) (w : World) :
    Calls Try.prog 59 #[.int .u32 r] w fun e w' => e = .returned (.int .u32 (halfF r : Nat)) ∧ Below w.heap.size w w' := by
  have hb : bits .and .u32 (r : Int) 15 = ((r % 16 : Nat) : Int) := by rw [← nat_mask4]; exact u32_and_nat r 15 h (by omega)
  have h1 : (0 : Int) ≤ ((r % 16 : Nat) : Int) := by omega
  have h2 : ((r % 16 : Nat) : Int) < 16 := by omega
  have ht := halfTab_at (r % 16) (by omega)
  rw [show halfTab.getD (r % 16) 0 = halfF r from rfl] at ht
  go_enter Try.func59, Try.ntmps59
  go_wp2
  go_ret
  exact ⟨rfl, (Below.refl _ _).alloc (Nat.le_refl _) _⟩
end Go.Proofs.Ytgnhakgfgdelpaa

-- ink.Sum: the walk.
namespace Go.Proofs.Ytgnhakgfgdelpaa
open Go.RowKit
def halfC (r : Nat) : Nat := halfF r ^^^ r / 16
theorem halfC_lt (r : Nat) (h : r < 4294967296) : halfC r < 4294967296 := Nat.xor_lt_two_pow (n := 32) (halfF_lt r) (by omega)
theorem crcByte_half (r : Nat) (x : UInt8) : crcByte r x = halfC (halfC (r ^^^ x.toNat)) := crcByte_eq r x
theorem xor_half (r : Nat) (h : r < 4294967296) : bits .xor .u32 (halfF r : Nat) ((r : Int) / 16) = (halfC r : Nat) := by
  exact u32_xor_nat (halfF r) (r / 16) (halfF_lt r) (by omega)
theorem not_u32 (r : Nat) (h : r < 4294967296) : bits .xor .u32 IntKind.u32.max (r : Int) = ((r ^^^ 4294967295 : Nat) : Int) := by
  rw [Nat.xor_comm]; exact u32_xor_nat 4294967295 r (by omega) h
set_option maxHeartbeats 400000 in
theorem Sum_any (v : Value) (ls : List (List UInt8)) (w : World) (hv : RdL w v ls) :
    Calls Try.prog 38 #[v] w fun e w' => e = .returned (.int .u32 (sumF ls.flatten : Nat)) ∧ Below w.heap.size w w' := by
  obtain ⟨A, c, rfl, hm⟩ := hv.form
  go_enter Try.func38, Try.ntmps38
  go_wp2
  go_loopw [3, 10] (fun r i wr => ∃ (k : Nat), i = .int .i64 (k : Int) ∧ k ≤ ls.length ∧ r = .int .u32 (crcF 4294967295 (ls.take k).flatten : Nat) ∧ Below w.heap.size w wr)
    (fun _ i _ => ls.length - (intOf i).toNat)
  case atStart => exact ⟨0, rfl, Nat.zero_le _, rfl, Below.refl _ _⟩
  case round =>
    obtain ⟨k, rfl, hk, rfl, hw⟩ := hrel
    by_cases hlt : k < ls.length
    · obtain ⟨ad, A2, c2, rfl, hcell, hru0⟩ := (hv.below hw (Nat.le_refl _)).at_ hlt
      have hm2 := hru0.le
      have hfl := flat_snoc ls k hlt
      have HF := Lib.hid hfl
      generalize ls[k] = l at *
      clear hfl
      go_wp2
      obtain ⟨wo, rfl⟩ : ∃ wo : World, wo = wr := ⟨_, rfl⟩
      go_loopw [3, 16] (fun r i wi => ∃ (j : Nat), i = .int .i64 (j : Int) ∧ j ≤ l.length ∧ r = .int .u32 (crcF (crcF 4294967295 (ls.take k).flatten) (l.take j) : Nat) ∧ Below wo.heap.size wo wi)
        (fun _ i _ => l.length - (intOf i).toNat)
      case atStart => exact ⟨0, rfl, Nat.zero_le _, rfl, Below.refl _ _⟩
      case round =>
        obtain ⟨j, rfl, hj, rfl, hwi⟩ := hrel
        have hr0 : crcF (crcF 4294967295 (ls.take k).flatten) (l.take j) < 4294967296 := crcF_lt _ _ (crcF_lt _ _ (by omega))
        by_cases hjl : j < l.length
        · obtain ⟨ad2, hA2, hcell2⟩ := (hru0.below hwi (Nat.le_refl _)).at_ hjl
          subst hA2
          have hsn : crcF (crcF 4294967295 (ls.take k).flatten) (l.take (j + 1)) = halfC (halfC (crcF (crcF 4294967295 (ls.take k).flatten) (l.take j) ^^^ l[j].toNat)) := by
            rw [List.take_succ_eq_append_getElem hjl, crcF_snoc, crcByte_half]
          have HS := Lib.hid hsn
          clear hsn
          have hx := u32_xor_nat _ l[j].toNat hr0 (by have := l[j].toNat_lt; omega)
          have hx1 : crcF (crcF 4294967295 (ls.take k).flatten) (l.take j) ^^^ l[j].toNat < 4294967296 := Nat.xor_lt_two_pow (n := 32) hr0 (by have := l[j].toNat_lt; omega)
          have hxb : l[j].toNat < 256 := l[j].toNat_lt
          generalize crcF (crcF 4294967295 (ls.take k).flatten) (l.take j) = r at *
          generalize l[j].toNat = x at *
          generalize r ^^^ x = y at *
          have hy1 := xor_half y hx1
          have hy2 := xor_half (halfC y) (halfC_lt y hx1)
          go_wp2_with fail
          refine (half_any y hx1 _).mono ?_
          rintro e w1 ⟨rfl, hb1⟩
          go_wp2_with fail
          refine (half_any (halfC y) (halfC_lt y hx1) _).mono ?_
          rintro e w2 ⟨rfl, hb2⟩
          go_wp2
          go_roundw
          case rel => exact ⟨j + 1, by go_num, by omega, by rw [HS.out], hwi.trans (((hb1.mono hwi.size)).trans (hb2.mono (Nat.le_trans hwi.size hb1.size)))⟩
          case measure => simp [intOf]; omega
        · obtain rfl : j = l.length := by omega
          rw [List.take_length] at *
          have hz : crcF (crcF 4294967295 (ls.take k).flatten) l = crcF 4294967295 (ls.take (k + 1)).flatten := by rw [HF.out, crcF_append]
          rw [hz]
          clear hz
          go_wp2
          go_roundw
          case rel => exact ⟨k + 1, by go_num, by omega, rfl, hw.trans (hwi.mono hw.size)⟩
          case measure => simp [intOf]; omega
    · obtain rfl : k = ls.length := by omega
      rw [List.take_length]
      have hr0 : crcF 4294967295 ls.flatten < 4294967296 := crcF_lt _ _ (by omega)
      have hn := not_u32 _ hr0
      rw [show crcF 4294967295 ls.flatten ^^^ 4294967295 = sumF ls.flatten from rfl] at hn
      go_wp2
      go_ret
      exact ⟨rfl, hw⟩
end Go.Proofs.Ytgnhakgfgdelpaa

-- copy into bytes that the call owns, at a place.
namespace Go.Proofs.Ytgnhakgfgdelpaa
open Go.RowKit
theorem splice_append {α : Type} (a b : List α) (o : Nat) (r : List α) (h : o + r.length ≤ a.length) : splice (a ++ b) o r = splice a o r ++ b := by
  unfold splice
  rw [List.take_append_of_le_length (by omega), List.drop_append_of_le_length h]
  simp [List.append_assoc]
theorem splice_take_n {α : Type} (cs : List α) (o n : Nat) (r : List α) (h : o + r.length ≤ n) (hn : n ≤ cs.length) : (splice cs o r).take n = splice (cs.take n) o r := by
  have hl : (cs.take n).length = n := by simp; omega
  have e := splice_append (cs.take n) (cs.drop n) o r (by omega)
  rw [List.take_append_drop] at e
  have h2 : (splice (cs.take n) o r).length = n := by rw [length_splice _ _ _ (by omega)]; exact hl
  rw [e]
  exact List.take_left' h2
section laws
variable {w : World} {ops : Array Oper} {rest : List Oper} {o : Oper} {a : Act} {Q : Exit → Act → World → Prop}
theorem wp_copy_At (hgd : o.guard = none) (d s : Operand)
    (ho : o.op = .call { callee := .builtin .copy, args := #[d, s], argTypes := #[25, 25] })
    (base g n cap off : Nat) (dA : Option Addr) (dLen dCap : Nat) (hd' : a.eval d = .slice dA dLen dCap) (hd : 0 < dLen → dA = some ⟨g, off, none⟩)
    (l : List UInt8) (hown : OwB w base (.slice (some ⟨g, 0, none⟩) n cap) l) (hl : l.length = n) (hfit : off + dLen ≤ n)
    (vx : Value) (m : List UInt8) (hx : a.eval s = vx) (hr : RdB w vx m)
    (h : ∀ w', OwB w' base (.slice (some ⟨g, 0, none⟩) n cap) (splice l off (m.take (min m.length dLen))) → w.grownBy w' (some g) → wpList Try.prog ops Q rest (a.put o.dst (goInt (min m.length dLen : Nat))) w') : wpList Try.prog ops Q (o :: rest) a w := by
  have hown' := hown
  unfold OwB at hown'
  rw [hl] at hown'
  obtain ⟨h0, h1⟩ := hown'
  rcases h1 with ⟨h1, _⟩ | ⟨g', cap', cs, h1, hb, ho2, h2, h3, h4, h5⟩
  · cases h1
  · injection h1 with hA _ hc
    injection hA with hA
    injection hA with hA
    subst hA; subst hc
    rw [Nat.mul_one] at h4 h5
    refine wp_copy hgd d s _ _ ho 5 Try.underlying25 u8_size dA dLen dCap g off hd' cs _ ho2 hd (by omega) vx m.length (bvs m) hx hr.rd (bvs_one m) ?_
    intro w' hw' hgr
    refine h w' ?_ hgr
    have hlr : (m.take (min m.length dLen)).length ≤ dLen := by simp; omega
    have hlen2 : (splice l off (m.take (min m.length dLen))).length = n := by rw [length_splice _ _ _ (by omega)]; exact hl
    unfold OwB
    rw [hlen2]
    have hlb : ((bvs m).take (min m.length dLen)).length ≤ dLen := by rw [← bvs_take, bvs_length]; exact hlr
    refine ⟨by rw [bvs_length, hlen2]; omega, .inr ⟨g, cap, _, rfl, hb, hw', h2, h3, ?_, ?_⟩⟩
    · rw [length_splice _ _ _ (by omega)]; omega
    · rw [Nat.mul_one, splice_take_n _ _ _ _ (by omega) (by omega), h5, bvs_splice, bvs_take]
end laws
end Go.Proofs.Ytgnhakgfgdelpaa

-- spill.isPage, Pages, Encode: walks.
namespace Go.Proofs.Ytgnhakgfgdelpaa
open Go.RowKit
set_option maxRecDepth 20000 in
set_option maxHeartbeats 1000000 in
theorem SisPage_any (p : Int) (hp : -9223372036854775808 ≤ p ∧ p ≤ 9223372036854775807) (w : World) : Calls Try.prog 33 #[.int .i64 p] w fun e w' => e = .returned (.bool (isPowB p)) ∧ w = w' := by
  by_cases h1 : p < 512
  · have HV := Lib.hid (isPowB_out (.inl h1))
    go_enter Try.func33, Try.ntmps33
    go_wp2_with fail
    go_ret
    rw [HV.out]
    exact ⟨rfl, rfl⟩
  by_cases h2 : 65536 < p
  · have HV := Lib.hid (isPowB_out (.inr h2))
    go_enter Try.func33, Try.ntmps33
    go_wp2_with fail
    go_ret
    rw [HV.out]
    exact ⟨rfl, rfl⟩
  have hq := pow_eq p (by omega) (by omega)
  go_enter Try.func33, Try.ntmps33
  go_wp2_with fail
  go_ret
  exact ⟨rfl, rfl⟩
theorem Equal_any (u v : Value) (a b : List UInt8) (w : World) (hu : RdB w u a) (hv : RdB w v b) :
    Calls Try.prog 43 #[u, v] w fun e w' => e = .returned (.bool (a == b)) ∧ w = w' := by
  have q1 := run_B_string hu
  have q2 := run_B_string hv
  obtain ⟨A, c, rfl, _⟩ := hu.form
  obtain ⟨B, d, rfl, _⟩ := hv.form
  go_enter Try.func43, Try.ntmps43
  go_wp2_with fail
  go_ret
  exact ⟨rfl, rfl⟩
theorem splice_mid (pre mid post new : List UInt8) (o : Nat) (ho : pre.length = o) (h : mid.length = new.length) : splice (pre ++ (mid ++ post)) o new = pre ++ (new ++ post) := by
  unfold splice
  rw [List.take_left' ho, List.drop_append, ho, List.drop_of_length_le (by omega), List.nil_append, show o + new.length - o = new.length by omega, ← h, List.drop_left' rfl]
theorem RdB.slice0 {w : World} {g n c : Nat} {L : List UInt8} (h : OBlk w g 5 (bvs L)) (hn : n ≤ L.length) (hc : L.length = c) (hm : c ≤ 140737488355328) : RdB w (.slice (some ⟨g, 0, none⟩) n c) (L.take n) := by
  have := (h.owB (base := 0) (Nat.zero_le _) (by simp only [maxLen]; omega) (n := n) hn).rd
  rw [hc] at this
  exact this
def s0F (P : Nat) : List UInt8 := (List.replicate P (0 : UInt8)).set 0 4
def s1F (next : Int) (P : Nat) : List UInt8 := 4 :: 0 :: 0 :: 0 :: (fixedF next.toNat 4 ++ List.replicate (P - 8) 0)
def s2F (next : Int) (n P : Nat) : List UInt8 := 4 :: 0 :: 0 :: 0 :: (fixedF next.toNat 4 ++ (fixedF n 4 ++ List.replicate (P - 12) 0))
def s3F (next : Int) (d : List UInt8) (P : Nat) : List UInt8 := preS next d P ++ List.replicate 4 0
theorem s01 {next : Int} {P : Nat} (h : 512 ≤ P) : splice (s0F P) 4 (fixedF next.toNat 4) = s1F next P := by
  obtain ⟨Q, rfl⟩ : ∃ Q, P = Q + 8 := ⟨P - 8, by omega⟩
  have e : s0F (Q + 8) = [4, 0, 0, 0] ++ (List.replicate 4 0 ++ List.replicate Q 0) := by
    unfold s0F; rw [List.replicate_append_replicate, show 4 + Q = Q + 4 by omega]; rfl
  rw [e, splice_mid _ _ _ _ 4 rfl (by rw [fixedF_length]; rfl)]
  unfold s1F
  rw [show Q + 8 - 8 = Q by omega]; rfl
theorem s12 {next : Int} {n P : Nat} (h : 512 ≤ P) : splice (s1F next P) 8 (fixedF n 4) = s2F next n P := by
  have e : s1F next P = (4 :: 0 :: 0 :: 0 :: fixedF next.toNat 4) ++ (List.replicate 4 0 ++ List.replicate (P - 12) 0) := by
    unfold s1F; rw [List.replicate_append_replicate, show 4 + (P - 12) = P - 8 by omega]; rfl
  rw [e, splice_mid _ _ _ _ 8 (by simp [fixedF_length]) (by rw [fixedF_length]; rfl)]
  unfold s2F; simp
theorem s23 {next : Int} {d : List UInt8} {P : Nat} (h : d.length + 16 ≤ P) : splice (s2F next d.length P) 12 d = s3F next d P := by
  have e : s2F next d.length P = (4 :: 0 :: 0 :: 0 :: (fixedF next.toNat 4 ++ fixedF d.length 4)) ++ (List.replicate d.length 0 ++ List.replicate (P - 12 - d.length) 0) := by
    unfold s2F; rw [List.replicate_append_replicate, show d.length + (P - 12 - d.length) = P - 12 by omega]; simp
  rw [e, splice_mid _ _ _ _ 12 (by simp [fixedF_length]) (by rw [List.length_replicate])]
  unfold s3F preS
  simp only [List.cons_append, List.append_assoc, List.replicate_append_replicate]
  rw [show P - 16 - d.length + 4 = P - 12 - d.length by omega]
theorem s3_end {next : Int} {d : List UInt8} {P : Nat} (h : d.length + 16 ≤ P) : (s3F next d P).take (P - 4) = preS next d P ∧ splice (s3F next d P) (P - 4) (fixedF (sumF (preS next d P)) 4) = laidS next d P ∧ (s3F next d P).length = P := by
  refine ⟨by unfold s3F; rw [List.take_left' (preS_length h)], ?_, by unfold s3F; rw [List.length_append, preS_length h, List.length_replicate]; omega⟩
  have e : s3F next d P = preS next d P ++ (List.replicate 4 0 ++ []) := by unfold s3F; simp
  rw [e, splice_mid _ _ _ _ (P - 4) (preS_length h) (by rw [fixedF_length]; rfl)]
  unfold laidS; simp

set_option maxRecDepth 100000 in
set_option maxHeartbeats 8000000 in
theorem SEncode_any (next : Int) (va : Value) (d : List UInt8) (P : Int) (hPr : i64w P) (w : World) (hd : RdB w va d) :
    Calls Try.prog 15 #[.int .i64 next, va, .int .i64 P] w fun e w' => ∃ u, e = .returned (.tuple #[u, .int .i64 (spZ next d P)]) ∧ OwB w' w.heap.size u (spL next d P) ∧ Below w.heap.size w w' := by
  obtain ⟨A, c, rfl, hm⟩ := hd.form
  have hPa := fun W => SisPage_any P hPr W
  by_cases h1 : isPowB P = false ∨ (next ≠ 0 ∧ (next < 2 ∨ 65536 ≤ next))
  · have HZ : Hid (spZ next d P = 1) := by show _ = _; unfold spZ; rw [if_pos h1]
    have HL : Hid (spL next d P = []) := by show _ = _; unfold spL; rw [HZ.out, if_neg (by decide)]
    go_enter Try.func15, Try.ntmps15
    go_upto_region 1 with (fail)
    go_cut [9] (fun s wx => s = .bool true ∧ w = wx)
    case first =>
      cases hp : isPowB P with
      | false =>
        rw [hp] at hPa
        clear h1 hp
        go_wp2_with (first | (go_at_call 33; refine (hPa _).mono ?_; rintro e w1 ⟨rfl, rfl⟩) | fail)
        go_meet
        exact ⟨rfl, rfl⟩
      | true =>
        have h2 : next ≠ 0 ∧ (next < 2 ∨ 65536 ≤ next) := by
          rcases h1 with h | h
          · rw [hp] at h; cases h
          · exact h
        have e0 : (next != 0) = true := by simp only [bne, beq_eq_false_iff_ne.2 h2.1]; rfl
        rw [hp] at hPa
        by_cases h3 : next < 2
        · clear h1 hp h2
          go_wp2_with (first | (go_at_call 33; refine (hPa _).mono ?_; rintro e w1 ⟨rfl, rfl⟩) | fail)
          go_meet
          exact ⟨rfl, rfl⟩
        · have h4 : 65536 ≤ next := by omega
          clear h1 hp h2
          go_wp2_with (first | (go_at_call 33; refine (hPa _).mono ?_; rintro e w1 ⟨rfl, rfl⟩) | fail)
          go_meet
          exact ⟨rfl, rfl⟩
    case rest =>
      obtain ⟨rfl, rfl⟩ := hcut
      clear hPa h1
      go_wp2_with fail
      go_ret2
      rw [HZ.out, HL.out]
      exact ⟨_, rfl, OwB.nil _ _, Below.refl _ _⟩
  · have hp : isPowB P = true := by
      cases e : isPowB P with
      | true => rfl
      | false => exact absurd (.inl e) h1
    obtain ⟨hP1, hP2⟩ := isPowB_range hp
    have hnx : next = 0 ∨ (2 ≤ next ∧ next < 65536) := by
      by_cases h4 : next = 0
      · exact .inl h4
      · exact .inr ⟨by rcases (by omega : next < 2 ∨ 2 ≤ next) with h5 | h5; exact absurd (.inr ⟨h4, .inl h5⟩) h1; exact h5, by rcases (by omega : next < 65536 ∨ 65536 ≤ next) with h5 | h5; exact h5; exact absurd (.inr ⟨h4, .inr h5⟩) h1⟩
    rw [hp] at hPa
    obtain ⟨Q, rfl⟩ : ∃ Q : Nat, P = (Q : Int) := ⟨P.toNat, by omega⟩
    have HH1 := Lib.hid h1
    clear hp h1
    go_enter Try.func15, Try.ntmps15
    go_upto_region 1 with (fail)
    go_cut [9] (fun s wx => s = .bool false ∧ w = wx)
    case first =>
      rcases hnx with rfl | ⟨h2, h3⟩
      · go_wp2_with (first | (go_at_call 33; refine (hPa _).mono ?_; rintro e w1 ⟨rfl, rfl⟩) | fail)
        go_meet
        exact ⟨rfl, rfl⟩
      · have e0 : (next != 0) = true := by simp only [bne, beq_eq_false_iff_ne.2 (show next ≠ 0 by omega)]; rfl
        have e1 : ¬ next < 2 := by omega
        have e2 : ¬ 65536 ≤ next := by omega
        go_wp2_with (first | (go_at_call 33; refine (hPa _).mono ?_; rintro e w1 ⟨rfl, rfl⟩) | fail)
        go_meet
        exact ⟨by first | rfl | simp [e1, e2], rfl⟩
    case rest =>
      obtain ⟨rfl, rfl⟩ := hcut
      clear hPa
      by_cases h2 : d.length = 0 ∨ (Q : Int) - 16 < (d.length : Int)
      · have HZ : Hid (spZ next d (Q : Int) = 31) := by show _ = _; unfold spZ; rw [if_neg HH1.out, if_pos h2]
        have HL : Hid (spL next d (Q : Int) = []) := by show _ = _; unfold spL; rw [HZ.out, if_neg (by decide)]
        go_upto_region 3 with (fail)
        go_cut [25] (fun s wx => s = .bool true ∧ w = wx)
        case first =>
          by_cases h3 : d.length = 0
          · have e1 : ((d.length : Int) == 0) = true := by rw [h3]; rfl
            clear h2 h3
            go_wp2_with fail
            go_meet
            exact ⟨rfl, rfl⟩
          · have e1 : ((d.length : Int) == 0) = false := beq_eq_false_iff_ne.2 (by omega)
            have e2 : (Q : Int) - 12 - 4 < (d.length : Int) := by omega
            clear h2 h3
            go_wp2_with fail
            go_meet
            exact ⟨rfl, rfl⟩
        case rest =>
          obtain ⟨rfl, rfl⟩ := hcut
          clear h2
          go_wp2_with fail
          go_ret2
          rw [HZ.out, HL.out]
          exact ⟨_, rfl, OwB.nil _ _, Below.refl _ _⟩
      · have HZ : Hid (spZ next d (Q : Int) = 0) := by show _ = _; unfold spZ; rw [if_neg HH1.out, if_neg h2]
        have HL : Hid (spL next d (Q : Int) = laidS next d Q) := by show _ = _; unfold spL; rw [HZ.out, if_pos rfl]; rfl
        have e1 : ((d.length : Int) == 0) = false := beq_eq_false_iff_ne.2 (by omega)
        have e2 : ¬ (Q : Int) - 12 - 4 < (d.length : Int) := by omega
        have hfit : d.length + 16 ≤ Q := by omega
        have hdl : 1 ≤ d.length := by omega
        clear h2 HH1
        have p0 : (0 : Int) < (Q : Int) := by omega
        go_upto_region 6 with (first | (at_make; refine wp_make_B rfl (.tmp 37) (.tmp 37) rfl _ Q rfl rfl rfl (by omega) ?_; intro w1 hb1 hw1 hs1) | fail)
        have z0 : w1.cell? ⟨w.heap.size, 0, none⟩ = some (.int .u8 0) := hb1.cell' (by rw [bvs_replicate, List.getElem?_replicate]; simp; omega)
        have f0 : w1.frozen? ⟨w.heap.size, 0, none⟩ = false := hb1.frozen (by rw [bvs_length, List.length_replicate]; omega)
        have hb2 := hb1.set 0 (.int .u8 4)
        rw [show Value.int .u8 4 = Value.int .u8 ((4 : UInt8).toNat : Int) from rfl, ← bvs_set] at hb2
        have hb2 : OBlk (w1.setCell ⟨w.heap.size, 0, none⟩ (.int .u8 4)) w.heap.size 5 (bvs (s0F Q)) := hb2
        have hw2 := hw1.setCell (p := ⟨w.heap.size, 0, none⟩) (Nat.le_refl _) (.int .u8 4)
        go_upto_region 7 with (fail)
        clear hb1 hw1 hs1 z0 f0
        generalize w1.setCell ⟨w.heap.size, 0, none⟩ (.int .u8 4) = w2 at *
        have l0 : (s0F Q).length = Q := by unfold s0F; simp
        have hnn : 0 ≤ next ∧ next < 65536 := by omega
        obtain ⟨nn, rfl⟩ : ∃ nn : Nat, next = (nn : Int) := ⟨next.toNat, by omega⟩
        have hnb : nn < 18446744073709551616 := by omega
        have hdb : d.length < 18446744073709551616 := by omega
        have hwn : IntKind.u64.wrap (nn : Int) = (nn : Int) := IntWalk.u64_in _ (by omega)
        have hwd : IntKind.u64.wrap (d.length : Int) = (d.length : Int) := IntWalk.u64_in _ (by omega)
        have n4 : ¬ Q = 4 := by omega
        have n8 : ¬ Q = 8 := by omega
        have n12 : ¬ Q = 12 := by omega
        have q4 : (4 : Int) ≤ (Q : Int) := by omega
        have q8 : (8 : Int) ≤ (Q : Int) := by omega
        have q12 : (12 : Int) ≤ (Q : Int) := by omega
        have H0 := Lib.hid l0
        have hQ512 : Hid (512 ≤ Q) := by show _ ≤ _; omega
        clear l0 hnx hnn e1 e2
        go_upto_region 7 with (fail)
        go_cut [] (fun wx => OBlk wx w.heap.size 5 (bvs (s1F (nn : Int) Q)) ∧ Below w.heap.size w wx)
        case first =>
          go_region_held3 (fun _ => True) (trivial)
            (first
              | (go_at_call 37; (with_reducible refine (Fixed_4 nn hnb _).mono ?_); rintro e w9 ⟨rfl, hf9, hw9, hs9⟩)
              | (refine step_copy_B (by rfl) (.tmp 42) (.tmp 45) (by rfl) _ (Q - 4) (Q - 4) w.heap.size 4 (by rfl) (s0F Q) (hb2.drew.below hw9 (by have := hb2.lt; simp; omega)) (fun _ => rfl) (by rw [H0.out]; omega) (.slice (some ⟨w2.heap.size, 0, none⟩) 4 4) (fixedF nn 4) (by rfl) (hf9.rdB (fixedF_length _ 4) (by omega)) ?_; intro w8 hb8 hg8)
              | fail)
          go_wp2_with fail
          go_meet
          rw [Nat.min_eq_left (by rw [fixedF_length]; omega), List.take_of_length_le (by rw [fixedF_length]; exact Nat.le_refl _)] at hb8
          rw [show splice (s0F Q) 4 (fixedF nn 4) = s1F (nn : Int) Q from s01 (next := (nn : Int)) hQ512.out] at hb8
          exact ⟨hb8, (hw2.drew.trans (hw9.mono hw2.size)).grown hg8 (Nat.le_trans hw2.size hw9.size) (fun k hk => Nat.le_of_eq (Option.some.inj hk))⟩
        case rest =>
          obtain ⟨hb3, hw3⟩ := hcut
          have H1 : Hid ((s1F (nn : Int) Q).length = Q) := by show _ = _; unfold s1F; simp [fixedF_length]; omega
          clear hb2 hw2 H0
          go_upto_region 8 with (fail)
          go_cut [] (fun wx => OBlk wx w.heap.size 5 (bvs (s2F (nn : Int) d.length Q)) ∧ Below w.heap.size w wx)
          case first =>
            go_region_held3 (fun _ => True) (trivial)
              (first
                | (go_at_call 37; (with_reducible refine (Fixed_4 d.length hdb _).mono ?_); rintro e w9 ⟨rfl, hf9, hw9, hs9⟩)
                | (refine step_copy_B (by rfl) (.tmp 48) (.tmp 52) (by rfl) _ (Q - 8) (Q - 8) w.heap.size 8 (by rfl) (s1F (nn : Int) Q) (hb3.drew.below hw9 (by have := hb3.lt; simp; omega)) (fun _ => rfl) (by rw [H1.out]; omega) (.slice (some ⟨wc.heap.size, 0, none⟩) 4 4) (fixedF d.length 4) (by rfl) (hf9.rdB (fixedF_length _ 4) (by omega)) ?_; intro w8 hb8 hg8)
                | fail)
            go_wp2_with fail
            go_meet
            rw [Nat.min_eq_left (by rw [fixedF_length]; omega), List.take_of_length_le (by rw [fixedF_length]; exact Nat.le_refl _)] at hb8
            rw [show splice (s1F (nn : Int) Q) 8 (fixedF d.length 4) = s2F (nn : Int) d.length Q from s12 hQ512.out] at hb8
            exact ⟨hb8, (hw3.drew.trans (hw9.mono hw3.size)).grown hg8 (Nat.le_trans hw3.size hw9.size) (fun k hk => Nat.le_of_eq (Option.some.inj hk))⟩
          case rest =>
            clear hb3 hw3 H1 hnb hdb hwn hwd
            obtain ⟨hb3, hw3⟩ := hcut
            have H1 : Hid ((s2F (nn : Int) d.length Q).length = Q) := by show _ = _; unfold s2F; simp [fixedF_length]; omega
            have hd3 := hd.below hw3 (Nat.le_refl _)
            have H2 : Hid (splice (s2F (nn : Int) d.length Q) 12 (d.take (min d.length (Q - 12))) = s3F (nn : Int) d Q) := by
              show _ = _
              rw [Nat.min_eq_left (by omega), List.take_length]
              exact s23 hfit
            go_upto_region 10 with (first
              | ((with_reducible refine at_copy ?_); refine wp_copy_B (by rfl) (.tmp 55) (.tmp 56) (by rfl) _ (Q - 12) (Q - 12) w.heap.size 12 (by rfl) (s2F (nn : Int) d.length Q) hb3 (fun _ => rfl) (by rw [H1.out]; omega) (.slice A d.length c) d (by rfl) hd3 ?_; intro w8 hb8 hg8)
              | fail)
            have hw8 : Below w.heap.size w w8 := hw3.grown hg8 hw3.size (fun k hk => Nat.le_of_eq (Option.some.inj hk))
            rw [H2.out] at hb8
            obtain ⟨E1, E2, E3⟩ := s3_end (next := (nn : Int)) hfit
            have HE1 := Lib.hid E1
            have HE2 := Lib.hid E2
            have HE3 := Lib.hid E3
            clear E1 E2 E3 hb3 hw3 H1 H2 hd3 hg8
            have hsl : sumF (preS (nn : Int) d Q) < 4294967296 := sumF_lt _
            obtain ⟨en, hen⟩ : ∃ en : Nat, en + 4 = Q := ⟨Q - 4, by omega⟩
            have he : (Q : Int) - 4 = (en : Int) := by omega
            have hws : IntKind.u64.wrap ((sumF (preS (nn : Int) d Q) : Nat) : Int) = ((sumF (preS (nn : Int) d Q) : Nat) : Int) := IntWalk.u64_in _ (by omega)
            have b1 : (0 : Int) ≤ (en : Int) := by omega
            have b2 : (en : Int) ≤ (Q : Int) := by omega
            have b3 : en ≤ Q := by omega
            have b6 : IntKind.i64.wrap (en : Int) = (en : Int) := by rw [IntKind.wrap_i64]; omega
            have b4 : en < Q := by omega
            have b5 : ¬ (Q = en) := by omega
            rw [show Q - 4 = en by omega] at HE1 HE2
            have hbd : RdB w8 (.slice (some ⟨w.heap.size, 0, none⟩) en Q) (preS (nn : Int) d Q) := by
              have := RdB.slice0 (n := en) hb8 (by rw [HE3.out]; exact b3) HE3.out (by omega)
              rw [HE1.out] at this
              exact this
            generalize s3F (nn : Int) d Q = L at *
            generalize preS (nn : Int) d Q = M at *
            go_region_held3 (fun _ => True) (trivial)
              (first
                | (go_at_call 38; (with_reducible refine (Sum_any _ [M] _ ?_).mono ?_); (exact RdL.one hbd.drew _); rintro e w7 ⟨rfl, hw7⟩)
                | (go_at_call 37; (with_reducible refine (Fixed_4 (sumF M) (by omega) _).mono ?_); rintro e w9 ⟨rfl, hf9, hw9, hs9⟩)
                | (refine step_copy_B (by rfl) (.tmp 61) (.tmp 69) (by rfl) _ (Q - en) (Q - en) w.heap.size en (by rfl) L ((((hb8.alloc _).drew).below hw7 (by have := hb8.lt; simp; omega)).below hw9 (by have := hb8.lt; have := hw7.size; simp at this; omega)) (fun _ => rfl) (by rw [HE3.out]; omega) (.slice (some ⟨w7.heap.size, 0, none⟩) 4 4) (fixedF (sumF M) 4) (by rfl) (hf9.rdB (fixedF_length _ 4) (by omega)) ?_; intro w10 hb10 hg10)
                | fail)
            go_wp2_with fail
            go_ret2
            rw [HZ.out, HL.out]
            rw [Nat.min_eq_left (by rw [fixedF_length]; omega), List.take_of_length_le (by rw [fixedF_length]; exact Nat.le_refl _), HE2.out] at hb10
            have hb7 : Below w.heap.size w w7 := ((hw8.alloc hw8.size _).drew).trans (hw7.mono (by have := hw8.size; simp; omega))
            have hb9 : Below w.heap.size w w9 := hb7.trans (hw9.mono hb7.size)
            refine ⟨_, rfl, ?_, hb9.grown hg10 hb9.size (fun j hj => Nat.le_of_eq (Option.some.inj hj))⟩
            have hLL : (laidS (nn : Int) d Q).length = Q := laidS_length hfit
            have := hb10.owB' (Nat.le_refl _) (by rw [hLL]; simp only [maxLen]; omega)
            rw [hLL] at this
            exact this
end Go.Proofs.Ytgnhakgfgdelpaa
