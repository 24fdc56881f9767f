/- api.Bench: Size, Reads, Spare, Read, Write, Free, Lay. -/
import Derived.Test.YtgnhakgfgdelpaaBen0
import Derived.Test.YtgnhakgfgdelpaaCut
import Derived.Test.YtgnhakgfgdelpaaQt
import Derived.Deep.CutRange
import Derived.Deep.DeepCutAuto
import Derived.Deep.RegionHeld3
import Derived.BigQuiet
namespace Go.Proofs.Ytgnhakgfgdelpaa
open Go.RowKit Go.Maps
section
variable {w0 w : World} {gb gm : Nat} {pv : Int → Option Value} {S : BS} {L : List Ent}
theorem benchE_some {n : Int} {l : List UInt8} (hE : (benchE gb gm pv S).p w) (hl : S.held n = some l) : ∃ v, pv n = some v ∧ OwB w 0 v l := by
  obtain ⟨h1, h2, h3, h4, h5, h6⟩ := hE
  cases e : pv n with
  | none => rw [(h5 n).2 e] at hl; cases hl
  | some v =>
    obtain ⟨l', k1, k2⟩ := (h6 n v e).2.2
    rw [hl] at k1
    obtain rfl := Option.some.inj k1
    exact ⟨v, rfl, k2⟩
theorem benchE_isSome {n : Int} (hE : (benchE gb gm pv S).p w) : (pv n).isSome = (S.held n).isSome := by
  have := hE.2.2.2.2.1 n
  cases h1 : pv n <;> cases h2 : S.held n <;> simp_all
/-- A page is put: what was written into the struct stays. -/
theorem benchE_put {w' : World} {n : Int} {u : Value} {l : List UInt8} (hS : Sep w0 w (bytesE u l :: benchE gb gm pv S :: L)) (hn : 2 ≤ n ∧ n < S.pages) (hl : l.length ≤ 200000) (hM : MapAt w' gm (putM pv n (some u)) (if (pv n).isSome then cntB S else cntB S + 1)) (ht : w.mapTurned w' gm) :
    Sep w0 w' (benchE gb gm (putM pv n (some u)) (S.put n (some l)) :: L) := by
  have hE : (benchE gb gm pv S).p w := hS.tail.head
  have his := benchE_isSome (n := n) hE
  obtain ⟨h1, h2, h3, h4, h5, h6⟩ := hE
  have hu : OwB w 0 u l := hS.head
  have hgm : gm < w.heap.size := h2.lt
  have T := Turn.of_map ht
  have hlt := hS.lt
  have hfar : ∀ g, u.ownBlock = some g → ¬ (benchE gb gm pv S).F g := fun g hg => hS.far (List.mem_cons_self ..) g hg
  have hu1 : u.ownBlock ≠ some gb := fun e => hfar gb e (.inl rfl)
  have hu2 : u.ownBlock ≠ some gm := fun e => hfar gm e (.inr (.inl rfl))
  have hk : ∀ g, g < w.heap.size → g ≠ gm → w'.heap[g]? = w.heap[g]? := fun g hg hne => T.block g hg hne
  have hc := cntB_put (S := S) (n := n) (some l) (by omega) hn.2
  have hcc : (if (pv n).isSome then cntB S else cntB S + 1) = cntB (S.put n (some l)) := by
    rw [his]
    cases hq : (S.held n).isSome <;> rw [hq] at hc <;> simp at hc ⊢ <;> omega
  rw [hcc] at hM
  refine Sep.upd (E := (bytesE u l).star (benchE gb gm pv S)) hS.join (T.mono (fun g hg => by subst hg; exact .inr (.inr (.inl rfl)))) ⟨?_, hM, h3.put (fun _ => hn) (fun l' e => by obtain rfl := Option.some.inj e; exact hl), h4, fun m => ?_, fun m v hv => ?_⟩ (fun g hg => ?_)
  · exact h1.of_heap (hk gb h1.lt h4)
  · unfold BS.put putM
    by_cases e : m = n
    · simp [e]
    · simp only [if_neg e]; exact h5 m
  · unfold putM at hv
    unfold BS.put
    by_cases e : m = n
    · simp only [if_pos e, Option.some.injEq] at hv ⊢
      subst hv
      exact ⟨hu1, hu2, l, rfl, Own.heap hu (fun g hg => hk g (hlt g hg) (fun e => hu2 (by rw [hg, e])))⟩
    · simp only [if_neg e] at hv ⊢
      obtain ⟨k1, k2, l', k3, k4⟩ := h6 m v hv
      exact ⟨k1, k2, l', k3, Own.heap k4 (fun g hg => hk g (Own.lt k4 g hg).2 (fun e => k2 (by rw [hg, e])))⟩
  · have hsz := T.size
    rcases hg with rfl | rfl | ⟨m, v, hv, hg⟩
    · exact ⟨.inl (.inr (.inl rfl)), by have := h1.lt; omega⟩
    · exact ⟨.inl (.inr (.inr (.inl rfl))), by omega⟩
    · unfold putM at hv
      by_cases e : m = n
      · simp only [if_pos e, Option.some.injEq] at hv
        subst hv
        exact ⟨.inl (.inl hg), by have := hlt g hg; omega⟩
      · simp only [if_neg e] at hv
        exact ⟨.inl (.inr (.inr (.inr ⟨m, v, hv, hg⟩))), by obtain ⟨_, _, l', _, k4⟩ := h6 m v hv; have := (Own.lt k4 g hg).2; omega⟩
theorem benchE_del {w' : World} {n : Int} (hS : Sep w0 w (benchE gb gm pv S :: L)) (hn : 2 ≤ n ∧ n < S.pages) (hM : MapAt w' gm (putM pv n none) (if (pv n).isSome then cntB S - 1 else cntB S)) (ht : w.mapTurned w' gm) :
    Sep w0 w' (benchE gb gm (putM pv n none) (S.put n none) :: L) := by
  have hE : (benchE gb gm pv S).p w := hS.head
  have his := benchE_isSome (n := n) hE
  obtain ⟨h1, h2, h3, h4, h5, h6⟩ := hE
  have hgm : gm < w.heap.size := h2.lt
  have T := Turn.of_map ht
  have hk : ∀ g, g < w.heap.size → g ≠ gm → w'.heap[g]? = w.heap[g]? := fun g hg hne => T.block g hg hne
  have hc := cntB_put (S := S) (n := n) none (by omega) hn.2
  have hcc : (if (pv n).isSome then cntB S - 1 else cntB S) = cntB (S.put n none) := by
    rw [his]
    cases hq : (S.held n).isSome <;> rw [hq] at hc <;> simp at hc ⊢ <;> omega
  rw [hcc] at hM
  refine Sep.upd hS (T.mono (fun g hg => by subst hg; exact .inr (.inl rfl))) ⟨?_, hM, h3.put (fun h => by cases h) (fun l' e => by cases e), h4, fun m => ?_, fun m v hv => ?_⟩ (fun g hg => ?_)
  · exact h1.of_heap (hk gb h1.lt h4)
  · unfold BS.put putM
    by_cases e : m = n
    · simp [e]
    · simp only [if_neg e]; exact h5 m
  · unfold putM at hv
    unfold BS.put
    by_cases e : m = n
    · simp [if_pos e] at hv
    · simp only [if_neg e] at hv ⊢
      obtain ⟨k1, k2, l', k3, k4⟩ := h6 m v hv
      exact ⟨k1, k2, l', k3, Own.heap k4 (fun g hg => hk g (Own.lt k4 g hg).2 (fun e => k2 (by rw [hg, e])))⟩
  · have hsz := T.size
    rcases hg with rfl | rfl | ⟨m, v, hv, hg⟩
    · exact ⟨.inl (.inl rfl), by have := h1.lt; omega⟩
    · exact ⟨.inl (.inr (.inl rfl)), by omega⟩
    · unfold putM at hv
      by_cases e : m = n
      · simp [if_pos e] at hv
      · simp only [if_neg e] at hv
        exact ⟨.inl (.inr (.inr ⟨m, v, hv, hg⟩)), by obtain ⟨_, _, l', _, k4⟩ := h6 m v hv; have := (Own.lt k4 g hg).2; omega⟩
/-- The count of reads is raised. -/
theorem benchE_read (hS : Sep w0 w (benchE gb gm pv S :: L)) : Sep w0 (w.setCell ⟨gb, 4, none⟩ (.int .i64 (wrap64 (S.reads + 1)))) (benchE gb gm pv S.read :: L) := by
  obtain ⟨h1, h2, h3, h4, h5, h6⟩ := (hS.head : (benchE gb gm pv S).p w)
  have hg := grownBy_setCell w ⟨gb, 4, none⟩ (.int .i64 (wrap64 (S.reads + 1)))
  have T : Turn (fun g => g = gb) w (w.setCell ⟨gb, 4, none⟩ (.int .i64 (wrap64 (S.reads + 1)))) := Turn.of_grown hg (fun k e => (Option.some.inj e).symm)
  refine Sep.upd hS (T.mono (fun g hg => by subst hg; exact .inl rfl)) ⟨?_, h2.heap (T.block gm h2.lt (fun e => h4 e.symm)), h3.read, h4, h5, fun m v hv => ?_⟩ (fun g hg => ?_)
  · exact h1.set 4 _
  · obtain ⟨k1, k2, l', k3, k4⟩ := h6 m v hv
    exact ⟨k1, k2, l', k3, Own.heap k4 (fun g hg => T.block g (Own.lt k4 g hg).2 (fun e => k1 (by rw [hg, e])))⟩
  · have := hS.lt g hg
    have hsz := T.size
    exact ⟨.inl hg, by omega⟩
/-- The struct's cells. -/
theorem benchE_cells (hE : (benchE gb gm pv S).p w) : w.cell? ⟨gb, 0, none⟩ = some (.int .i64 S.eng) ∧ w.cell? ⟨gb, 1, none⟩ = some (.int .i64 S.page) ∧ w.cell? ⟨gb, 2, none⟩ = some (.int .i64 S.pages) ∧ w.cell? ⟨gb, 3, none⟩ = some (.map (some gm)) ∧ w.cell? ⟨gb, 4, none⟩ = some (.int .i64 S.reads) ∧ w.frozen? ⟨gb, 4, none⟩ = false :=
  ⟨hE.1.cell' rfl, hE.1.cell' rfl, hE.1.cell' rfl, hE.1.cell' rfl, hE.1.cell' rfl, hE.1.frozen (by simp)⟩
end
set_option maxRecDepth 20000 in
theorem BSize_any {w : World} {gb gm : Nat} {pv : Int → Option Value} {S : BS} (hE : (benchE gb gm pv S).p w) :
    Calls Try.prog 65 #[.pointer (some ⟨gb, 0, none⟩)] w fun e w' => e = .returned (.int .i64 S.page) ∧ w' = w := by
  obtain ⟨c0, c1, c2, c3, c4, f4⟩ := benchE_cells hE
  go_enter Try.func65, Try.ntmps65
  go_wp2_with fail
  go_ret
  exact ⟨rfl, rfl⟩
set_option maxRecDepth 20000 in
theorem BReads_any {w : World} {gb gm : Nat} {pv : Int → Option Value} {S : BS} (hE : (benchE gb gm pv S).p w) :
    Calls Try.prog 57 #[.pointer (some ⟨gb, 0, none⟩)] w fun e w' => e = .returned (.int .i64 S.reads) ∧ w' = w := by
  obtain ⟨c0, c1, c2, c3, c4, f4⟩ := benchE_cells hE
  go_enter Try.func57, Try.ntmps57
  go_wp2_with fail
  go_ret
  exact ⟨rfl, rfl⟩
def spareF (S : BS) (n : Int) : Bool := decide (n ≤ (S.pages : Int) - 2 - (cntB S : Int))
set_option maxRecDepth 20000 in
set_option maxHeartbeats 1000000 in
theorem BSpare_any {w : World} {gb gm : Nat} {pv : Int → Option Value} {S : BS} (hE : (benchE gb gm pv S).p w) (n : Int) (hn : i64w n) :
    Calls Try.prog 69 #[.pointer (some ⟨gb, 0, none⟩), .int .i64 n] w fun e w' => e = .returned (.bool (spareF S n)) ∧ ∃ nq, w' = w.drewN nq := by
  obtain ⟨c0, c1, c2, c3, c4, f4⟩ := benchE_cells hE
  have hlen : ∀ ty nq, (Builtin.len_ #[74] ty #[.map (some gm)]).run Try.prog (w.drewN nq) = .ok (.int .i64 (cntB S)) (w.drewN nq) := fun ty nq => run_len (MapAt.heap (w' := w.drewN nq) hE.2.1 rfl) ty
  have hc := cntB_le S
  have h3 := hE.2.2.1
  have b1 := h3.hi
  have b2 := h3.lo
  have e1 : IntKind.i64.wrap ((S.pages : Int) - 2) = (S.pages : Int) - 2 := by rw [IntKind.wrap_i64]; omega
  have e2 : IntKind.i64.wrap ((S.pages : Int) - 2 - (cntB S : Int)) = (S.pages : Int) - 2 - (cntB S : Int) := by rw [IntKind.wrap_i64]; omega
  go_enter Try.func69, Try.ntmps69
  go_upto_region 1 with (fail)
  go_quiet (fail)
  go_wp2_with fail
  go_ret
  exact ⟨rfl, _, rfl⟩
end Go.Proofs.Ytgnhakgfgdelpaa
