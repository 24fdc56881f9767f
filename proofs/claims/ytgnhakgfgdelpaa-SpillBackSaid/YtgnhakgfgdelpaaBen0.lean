/- A bench's memory: laws of make([]byte, 0, n), of stores into its map; what a bench is. -/
import Derived.Test.YtgnhakgfgdelpaaOwMap
import Derived.Test.YtgnhakgfgdelpaaSep
import Derived.Test.YtgnhakgfgdelpaaStep
namespace Go.Proofs.Ytgnhakgfgdelpaa
open Go.RowKit Go.Maps
section laws
variable {w : World} {ops : Array Oper} {rest : List Oper} {o : Oper} {a : Act} {Q : Exit → Act → World → Prop} {K : Act → World → Prop} {E : Prop}
/-- make([]byte, 0, n). -/
theorem run_make_0 (w : World) (n : Nat) (hn : n ≤ 281474976710656) : (Instr.makeSlice 25 (.int .i64 0) (.int .i64 (n : Int))).run Try.prog w = .ok (.slice (some ⟨w.heap.size, 0, none⟩) 0 n) (w.alloc (.cells (bvs (List.replicate n 0)).toArray 5)) := by
  obtain ⟨i, hi, hz0, hz1, hz2⟩ := info_parts u8_info
  have hr := run_make (P := Try.prog) w 25 5 i _ Try.underlying25 hi hz0 .i64 .i64 0 n (by omega) (by omega) (by rw [hz2]; omega) (by omega)
  simp at hr
  rw [hr]
  have e := toList_madeCells_one (.int .u8 0) n
  rw [bvs_replicate, ← e]
  simp [Value.cells, hz1]
theorem run_make_n (w : World) (n : Nat) (hn : n ≤ 281474976710656) : (Instr.makeSlice 25 (.int .i64 (n : Int)) (.int .i64 (n : Int))).run Try.prog w = .ok (.slice (some ⟨w.heap.size, 0, none⟩) n n) (w.alloc (.cells (bvs (List.replicate n 0)).toArray 5)) := by
  obtain ⟨i, hi, hz0, hz1, hz2⟩ := info_parts u8_info
  have hr := run_make (P := Try.prog) w 25 5 i _ Try.underlying25 hi hz0 .i64 .i64 n n (by omega) (by omega) (by rw [hz2]; omega) (by omega)
  rw [hr]
  have e := toList_madeCells_one (.int .u8 0) n
  rw [bvs_replicate, ← e]
  simp [Value.cells, hz1]
theorem made_0 (w : World) (n base : Nat) (hb : base ≤ w.heap.size) (hn : n ≤ 140737488355328) : OwB (w.alloc (.cells (bvs (List.replicate n 0)).toArray 5)) base (.slice (some ⟨w.heap.size, 0, none⟩) 0 n) [] := by
  have := (OBlk.new' w 5 (bvs (List.replicate n 0))).owB (base := base) hb (by simp only [maxLen, List.length_replicate]; omega) (n := 0) (by omega)
  rw [List.length_replicate] at this
  exact this
theorem made_n (w : World) (n base : Nat) (hb : base ≤ w.heap.size) (hn : n ≤ 140737488355328) : OwB (w.alloc (.cells (bvs (List.replicate n 0)).toArray 5)) base (.slice (some ⟨w.heap.size, 0, none⟩) n n) (List.replicate n 0) := by
  have := (OBlk.new' w 5 (bvs (List.replicate n 0))).owB' (base := base) hb (by simp only [maxLen, List.length_replicate]; omega)
  rw [List.length_replicate] at this
  exact this
theorem step_make_0 (hgd : o.guard = none) (l c : Operand) (hop : o.op = Op.makeSlice 25 l c) (n : Nat) (hl : a.eval l = .int .i64 0) (hc : a.eval c = .int .i64 (n : Int)) (hn : n ≤ 140737488355328)
    (h : ∀ w', OwB w' w.heap.size (.slice (some ⟨w.heap.size, 0, none⟩) 0 n) [] → Below w.heap.size w w' → w'.heap.size = w.heap.size + 1 → K (a.put o.dst (.slice (some ⟨w.heap.size, 0, none⟩) 0 n)) w') :
    if Region.wanted o (yielded ops a.tmps) = true then Oper.wp Try.prog o a w K Q else E := by
  have hw : Region.wanted o (yielded ops a.tmps) = true := by simp [Region.wanted, hgd]
  rw [if_pos hw]
  have hrun := run_make_0 w n (by omega)
  unfold Oper.wp
  simp [execOp, hop, hl, hc, hrun, Result.andThen, Oper.upon]
  exact h _ (made_0 w n _ (Nat.le_refl _) hn) ((Below.refl _ _).alloc (Nat.le_refl _) _) (by simp)
theorem step_make_n (hgd : o.guard = none) (l c : Operand) (hop : o.op = Op.makeSlice 25 l c) (n : Nat) (hl : a.eval l = .int .i64 (n : Int)) (hc : a.eval c = .int .i64 (n : Int)) (hn : n ≤ 140737488355328)
    (h : ∀ w', OwB w' w.heap.size (.slice (some ⟨w.heap.size, 0, none⟩) n n) (List.replicate n 0) → Below w.heap.size w w' → w'.heap.size = w.heap.size + 1 → K (a.put o.dst (.slice (some ⟨w.heap.size, 0, none⟩) n n)) w') :
    if Region.wanted o (yielded ops a.tmps) = true then Oper.wp Try.prog o a w K Q else E := by
  have hw : Region.wanted o (yielded ops a.tmps) = true := by simp [Region.wanted, hgd]
  rw [if_pos hw]
  have hrun := run_make_n w n (by omega)
  unfold Oper.wp
  simp [execOp, hop, hl, hc, hrun, Result.andThen, Oper.upon]
  exact h _ (made_n w n _ (Nat.le_refl _) hn) ((Below.refl _ _).alloc (Nat.le_refl _) _) (by simp)
theorem wp_make_0 (hg : o.guard = none) (l c : Operand) (hop : o.op = Op.makeSlice 25 l c) (n : Nat) (hl : a.eval l = .int .i64 0) (hc : a.eval c = .int .i64 (n : Int)) (hn : n ≤ 140737488355328)
    (hK : ∀ w', OwB w' w.heap.size (.slice (some ⟨w.heap.size, 0, none⟩) 0 n) [] → Below w.heap.size w w' → w'.heap.size = w.heap.size + 1 → wpList Try.prog ops Q rest (a.put o.dst (.slice (some ⟨w.heap.size, 0, none⟩) 0 n)) w') :
    wpList Try.prog ops Q (o :: rest) a w := by
  refine wpList_plain hg fun K hK' => ?_
  have hr := run_make_0 w n (by omega)
  unfold Oper.wp
  simp [execOp, hop, hl, hc, hr, Result.andThen]
  exact hK' _ _ (hK _ (made_0 w n _ (Nat.le_refl _) hn) ((Below.refl _ _).alloc (Nat.le_refl _) _) (by simp))
set_option maxRecDepth 20000 in
/-- m[k] = v, where the walk has come to its run. -/
theorem upon_store {b cnt : Nat} {pv : Int → Option Value} {f : Unit → World → Result Next} (hM : MapAt w b pv cnt) (hc : cnt < maxLen) (n : Int) (hn : i64w n) (u : Value) (hf : f = fun _ w' => Result.ok Next.skip w')
    (h : ∀ w', MapAt w' b (putM pv n (some u)) (if (pv n).isSome then cnt else cnt + 1) → w.mapTurned w' b → K (a.put o.dst undef) w') :
    Oper.upon Try.prog o a K Q ((Sem.run Try.prog (Instr.mapUpdate 74 (.map (some b)) (.int .i64 n) u) w).andThen f) := by
  subst hf
  have hst := hM.store hc n hn u
  refine hst.elim fun w' hh => ?_
  have hrun := hh.1
  have k1 := hh.2.1
  have k2 := hh.2.2
  have e : Sem.run Try.prog (Instr.mapUpdate 74 (.map (some b)) (.int .i64 n) u) w = .ok () w' := hrun
  have e2 : Oper.upon Try.prog o a K Q ((Result.ok () w').andThen fun _ w' => Result.ok Next.skip w') = K (a.put o.dst undef) w' := rfl
  rw [e, e2]
  exact h w' k1 k2
/-- m[k] = v in a region. -/
theorem step_store {b cnt : Nat} {pv : Int → Option Value} (hgd : o.guard = none) (m x v : Operand) (hop : o.op = Op.mapUpdate 74 m x v) (hM : MapAt w b pv cnt) (hc : cnt < maxLen) (hm : a.eval m = .map (some b)) (n : Int) (hn : i64w n) (hx : a.eval x = .int .i64 n) (u : Value) (hv : a.eval v = u)
    (h : ∀ w', MapAt w' b (putM pv n (some u)) (if (pv n).isSome then cnt else cnt + 1) → w.mapTurned w' b → K (a.put o.dst undef) w') :
    if Region.wanted o (yielded ops a.tmps) = true then Oper.wp Try.prog o a w K Q else E := by
  have hw : Region.wanted o (yielded ops a.tmps) = true := by simp [Region.wanted, hgd]
  rw [if_pos hw]
  obtain ⟨w', hrun, k1, k2⟩ := hM.store hc n hn u
  unfold Oper.wp
  simp [execOp, hop, hm, hx, hv, hrun, Result.andThen, Oper.upon]
  exact h w' k1 k2
end laws
/-! ### what a bench is -/
structure BS where
  eng : Int
  page : Nat
  pages : Nat
  reads : Int
  held : Int → Option (List UInt8)
def BS.put (S : BS) (n : Int) (l : Option (List UInt8)) : BS := { S with held := fun m => if m = n then l else S.held m }
def BS.read (S : BS) : BS := { S with reads := wrap64 (S.reads + 1) }
def cntB (S : BS) : Nat := ((List.range S.pages).filter fun (n : Nat) => (S.held n).isSome).length
structure okB (S : BS) : Prop where
  page : isPowB S.page = true
  lo : 2 ≤ S.pages
  hi : S.pages ≤ 65536
  dom : ∀ n, (S.held n).isSome = true → 2 ≤ n ∧ n < S.pages
  len : ∀ n l, S.held n = some l → l.length ≤ 200000
theorem filter_upd (p : Nat → Bool) (n : Nat) (b : Bool) : ∀ N, n < N → ((List.range N).filter fun m => if m = n then b else p m).length + (if p n then 1 else 0) = ((List.range N).filter p).length + (if b then 1 else 0)
  | 0, h => absurd h (Nat.not_lt_zero _)
  | N + 1, h => by
    rw [List.range_succ, List.filter_append, List.filter_append, List.length_append, List.length_append]
    rcases Nat.lt_or_ge n N with h1 | h1
    · have h2 := filter_upd p n b N h1
      have e : ([N].filter fun m => if m = n then b else p m) = [N].filter p := by
        simp only [List.filter_cons, List.filter_nil, if_neg (show ¬ N = n by omega)]
      rw [e]; omega
    · obtain rfl : n = N := by omega
      have e : ((List.range n).filter fun m => if m = n then b else p m) = (List.range n).filter p := by
        apply List.filter_congr
        intro x hx
        rw [List.mem_range] at hx
        rw [if_neg (by omega)]
      rw [e]
      simp only [List.filter_cons, List.filter_nil, if_true]
      cases b <;> cases p n <;> simp
theorem cntB_put {S : BS} {n : Int} (l : Option (List UInt8)) (h1 : 0 ≤ n) (h2 : n < S.pages) : cntB (S.put n l) + (if (S.held n).isSome then 1 else 0) = cntB S + (if l.isSome then 1 else 0) := by
  obtain ⟨k, rfl⟩ : ∃ k : Nat, n = (k : Int) := ⟨n.toNat, by omega⟩
  have h := filter_upd (fun m => (S.held m).isSome) k l.isSome S.pages (by omega)
  unfold cntB
  rw [← h]
  have e : (fun m : Nat => ((S.put k l).held m).isSome) = fun m => if m = k then l.isSome else (S.held m).isSome := by
    funext m
    unfold BS.put
    by_cases hm : m = k
    · simp [hm]
    · simp only [if_neg hm, if_neg (show ¬ ((m : Int) = (k : Int)) by omega)]
  show ((List.range S.pages).filter fun m : Nat => ((S.put k l).held m).isSome).length + _ = _
  rw [e]
theorem cntB_le (S : BS) : cntB S ≤ S.pages := by
  unfold cntB
  exact Nat.le_trans (List.length_filter_le _ _) (by rw [List.length_range]; exact Nat.le_refl _)
theorem okB.put {S : BS} (h : okB S) {n : Int} {l : Option (List UInt8)} (hn : l.isSome = true → 2 ≤ n ∧ n < S.pages) (hl : ∀ l', l = some l' → l'.length ≤ 200000) : okB (S.put n l) := by
  refine ⟨h.page, h.lo, h.hi, fun m hm => ?_, fun m l' hm => ?_⟩
  · unfold BS.put at hm
    by_cases e : m = n
    · subst e; simp at hm; exact hn hm
    · simp only [if_neg e] at hm; exact h.dom m hm
  · unfold BS.put at hm
    by_cases e : m = n
    · subst e; simp at hm; exact hl l' hm
    · simp only [if_neg e] at hm; exact h.len m l' hm
theorem okB.read {S : BS} (h : okB S) : okB S.read := ⟨h.page, h.lo, h.hi, h.dom, h.len⟩
/-- A bench: its struct, its map, its pages. -/
def benchE (gb gm : Nat) (pv : Int → Option Value) (S : BS) : Ent where
  F g := g = gb ∨ g = gm ∨ ∃ n v, pv n = some v ∧ v.ownBlock = some g
  p w := OBlk w gb 76 [.int .i64 S.eng, .int .i64 S.page, .int .i64 S.pages, .map (some gm), .int .i64 S.reads] ∧ MapAt w gm pv (cntB S) ∧ okB S ∧ gb ≠ gm ∧
    (∀ n, S.held n = none ↔ pv n = none) ∧ ∀ n v, pv n = some v → v.ownBlock ≠ some gb ∧ v.ownBlock ≠ some gm ∧ ∃ l, S.held n = some l ∧ OwB w 0 v l
  loc := fun h ⟨h1, h2, h3, h4, h5, h6⟩ => ⟨h1.of_heap (h _ (.inl rfl)), h2.heap (h _ (.inr (.inl rfl))), h3, h4, h5, fun n v hv => ⟨(h6 n v hv).1, (h6 n v hv).2.1, by
    obtain ⟨l, k1, k2⟩ := (h6 n v hv).2.2
    exact ⟨l, k1, Own.heap k2 (fun g hg => h g (.inr (.inr ⟨n, v, hv, hg⟩)))⟩⟩⟩
end Go.Proofs.Ytgnhakgfgdelpaa
