/- A map from integers to byte lists, as a function: laws at its operations. -/
import Derived.Maps.OwnSet
import Derived.Test.YtgnhakgfgdelpaaFoot
import Derived.Test.YtgnhakgfgdelpaaSpF
namespace Go.Proofs.Ytgnhakgfgdelpaa
open Go.RowKit Go.Maps
def nilV : Value := .slice none 0 0
def heldR (v : Value) : Option (DataW Value × List MemPlace) := some (.held v, [])
theorem i64w.wf {n : Int} (h : i64w n) : (Lit.int .i64 n).wf = true := by
  obtain ⟨h1, h2⟩ := h
  have e1 : IntKind.min .i64 = -9223372036854775808 := by decide
  have e2 : IntKind.max .i64 = 9223372036854775807 := by decide
  simp [Lit.wf, e1, e2]
  omega
theorem keyedI : Keyed Try.prog 3 := int_keyed Try.underlying3
theorem key_lit {n : Int} (h : i64w n) : WideAt.IsKeyLit (.int .i64 n) := by
  obtain ⟨k, hk⟩ : ∃ k, keyOf Try.prog 3 (.int .i64 n) = some k := ⟨_, keyOf_int_mk Try.underlying3 h.wf⟩
  trivial
theorem int_ne {n m : Int} (h : n ≠ m) : (Lit.int .i64 n) ≠ (Lit.int .i64 m) := fun e => h (by injection e)
/-- Block b is a map of cnt entries: at n stands pv n. -/
def MapAt (w : World) (b : Nat) (pv : Int → Option Value) (cnt : Nat) : Prop := ∃ D : DataW Value, w.ownsMap Try.prog 3 heldR b cnt D ∧ Maps.size D = cnt ∧
  ∀ n, i64w n → Maps.has D (.int .i64 n) = (pv n).isSome ∧ D.atKey (.int .i64 n) (.held nilV) = .held ((pv n).getD nilV)
def putM (pv : Int → Option Value) (n : Int) (v : Option Value) : Int → Option Value := fun m => if m = n then v else pv m
theorem putM_same {pv : Int → Option Value} {n : Int} {v : Option Value} : putM pv n v n = v := by unfold putM; rw [if_pos rfl]
theorem putM_other {pv : Int → Option Value} {n m : Int} {v : Option Value} (h : m ≠ n) : putM pv n v m = pv m := by unfold putM; rw [if_neg h]
section
variable {w w' : World} {b cnt : Nat} {pv : Int → Option Value}
theorem MapAt.made (w : World) : MapAt (w.alloc (.map #[] 0)) w.heap.size (fun _ => none) 0 :=
  ⟨.map [], World.ownsMap_made _ _ _ _, rfl, fun _ _ => ⟨rfl, rfl⟩⟩
theorem MapAt.heap (h : MapAt w b pv cnt) (hb : w'.heap[b]? = w.heap[b]?) : MapAt w' b pv cnt := by
  obtain ⟨D, ⟨es, clock, h1, h2⟩, h3⟩ := h
  exact ⟨D, ⟨es, clock, hb.trans h1, h2⟩, h3⟩
theorem MapAt.lt (h : MapAt w b pv cnt) : b < w.heap.size := by obtain ⟨D, h1, _⟩ := h; exact h1.lt
theorem MapAt.exact {D : DataW Value} {n : Nat} (h : w.ownsMap Try.prog 3 heldR b n D) : w.ownsMap Try.prog 3 heldR b (Maps.size D) D := by
  obtain ⟨es, clock, h1, h2, _, rfl⟩ := h
  exact ⟨es, clock, h1, h2, by simp [Maps.size, length_sorted], rfl⟩
variable {ops : Array Oper} {rest : List Oper} {o : Oper} {a : Act} {Q : Exit → Act → World → Prop}
theorem wp_look (hg : o.guard = none) (m x : Operand) (hop : o.op = Op.lookup 74 m x true) (hM : MapAt w b pv cnt) (hm : a.eval m = .map (some b)) (n : Int) (hn : i64w n) (hx : a.eval x = .int .i64 n)
    (r : Option Value) (hr : pv n = r) (hK : wpList Try.prog ops Q rest (a.put o.dst (.tuple #[r.getD nilV, .bool r.isSome])) w) : wpList Try.prog ops Q (o :: rest) a w := by
  obtain ⟨D, h1, h2, h3⟩ := hM
  obtain ⟨h4, h5⟩ := h3 n hn
  refine wpList_lookup_own_ok w hg m x 74 hop 3 25 keyedI Try.underlying74 heldR (z := nilV) (by kernel_rfl) (.held nilV) [] rfl b cnt D hm h1 _ _ hx (keyOf_int_mk Try.underlying3 hn.wf) ?_
  intro v ps hv
  rw [h5] at hv
  unfold heldR at hv
  simp only [Option.some.injEq, Prod.mk.injEq, DataW.held.injEq] at hv
  obtain ⟨rfl, _⟩ := hv
  rw [h4, hr]
  exact hK
theorem MapAt.store (hM : MapAt w b pv cnt) (hc : cnt < maxLen) (n : Int) (hn : i64w n) (u : Value) : ∃ w', (Instr.mapUpdate 74 (.map (some b)) (.int .i64 n) u).run Try.prog w = .ok () w' ∧ MapAt w' b (putM pv n (some u)) (if (pv n).isSome then cnt else cnt + 1) ∧ w.mapTurned w' b := by
  obtain ⟨D, h1, h2, h3⟩ := hM
  obtain ⟨w', hrun, k1, k2⟩ := h1.store keyedI Try.underlying74 hc (key := .int .i64 n) (val := u) (d := .held u) (ps := []) (keyOf_int_mk Try.underlying3 hn.wf) rfl
  refine ⟨w', hrun, ⟨D.put (.int .i64 n) (.held u), ?_, ?_, fun m hm' => ?_⟩, k2⟩
  · have k3 := MapAt.exact k1
    rw [size_put (h1.tidy keyedI), (h3 n hn).1, h2] at k3
    exact k3
  · rw [size_put (h1.tidy keyedI), (h3 n hn).1, h2]
  · by_cases e : m = n
    · subst e
      rw [has_put_same h1.isMap (key_lit hn), atKey_put_same h1.isMap (key_lit hn), putM_same]
      exact ⟨rfl, rfl⟩
    · rw [has_put_other (int_ne e), atKey_put_other (int_ne e), putM_other e]
      exact h3 m hm'
theorem wp_store (hg : o.guard = none) (m x v : Operand) (hop : o.op = Op.mapUpdate 74 m x v) (hM : MapAt w b pv cnt) (hc : cnt < maxLen) (hm : a.eval m = .map (some b)) (n : Int) (hn : i64w n) (hx : a.eval x = .int .i64 n) (u : Value) (hv : a.eval v = u)
    (hK : ∀ w', MapAt w' b (putM pv n (some u)) (if (pv n).isSome then cnt else cnt + 1) → w.mapTurned w' b → wpList Try.prog ops Q rest (a.put o.dst undef) w') : wpList Try.prog ops Q (o :: rest) a w := by
  obtain ⟨D, h1, h2, h3⟩ := hM
  refine wpList_mapUpdate_in w hg m x v 74 hop 3 25 keyedI Try.underlying74 heldR b cnt D hm h1 hc _ _ _ hx hv (keyOf_int_mk Try.underlying3 hn.wf) (.held u) [] rfl ?_
  intro w' k1 k2
  refine hK w' ⟨D.put (.int .i64 n) (.held u), ?_, ?_, fun m hm' => ?_⟩ k2
  · have k3 := MapAt.exact k1
    rw [size_put (h1.tidy keyedI), (h3 n hn).1, h2] at k3
    exact k3
  · rw [size_put (h1.tidy keyedI), (h3 n hn).1, h2]
  · by_cases e : m = n
    · subst e
      rw [has_put_same h1.isMap (key_lit hn), atKey_put_same h1.isMap (key_lit hn), putM_same]
      exact ⟨rfl, rfl⟩
    · rw [has_put_other (int_ne e), atKey_put_other (int_ne e), putM_other e]
      exact h3 m hm'
theorem wp_del (hg : o.guard = none) (m x : Operand) (hop : o.op = .call { callee := .builtin .delete, args := #[m, x], argTypes := #[74, 3] }) (hM : MapAt w b pv cnt) (hm : a.eval m = .map (some b)) (n : Int) (hn : i64w n) (hx : a.eval x = .int .i64 n)
    (hK : ∀ w', MapAt w' b (putM pv n none) (if (pv n).isSome then cnt - 1 else cnt) → w.mapTurned w' b → wpList Try.prog ops Q rest (a.put o.dst (.tuple #[])) w') : wpList Try.prog ops Q (o :: rest) a w := by
  obtain ⟨D, h1, h2, h3⟩ := hM
  refine wpList_delete_own w hg m x 74 3 hop 25 keyedI Try.underlying74 heldR b cnt D hm h1 _ _ hx (keyOf_int_mk Try.underlying3 hn.wf) ?_
  intro w' k1 k2
  have hs := size_del (k := .int .i64 n) (h1.tidy keyedI)
  rw [(h3 n hn).1, h2] at hs
  have hs' : Maps.size (D.del (.int .i64 n)) = if (pv n).isSome then cnt - 1 else cnt := by
    cases hq : (pv n).isSome <;> rw [hq] at hs <;> simp at hs ⊢ <;> omega
  refine hK w' ⟨D.del (.int .i64 n), ?_, hs', fun m hm' => ?_⟩ k2
  · have k3 := MapAt.exact k1
    rw [hs'] at k3
    exact k3
  · by_cases e : m = n
    · subst e
      rw [has_del_same, atKey_del_same, putM_same]
      exact ⟨rfl, rfl⟩
    · rw [has_del_other (int_ne e), atKey_del_other (int_ne e), putM_other e]
      exact h3 m hm'
theorem MapAt.obj (hM : MapAt w b pv cnt) : ∃ es clock, w.heap[b]? = some (.map es clock) ∧ es.size = cnt := by
  obtain ⟨D, ⟨es, clock, h1, h2, h3, rfl⟩, h4, _⟩ := hM
  exact ⟨es, clock, h1, by rw [← h4]; simp [Maps.size, length_sorted]⟩
theorem run_len (hM : MapAt w b pv cnt) (ty : TypeId) : (Builtin.len_ #[74] ty #[.map (some b)]).run Try.prog w = .ok (.int .i64 cnt) w := by
  obtain ⟨D, h1, h2, h3⟩ := hM
  rw [h1.len Try.underlying74 ty, h2]
theorem Turn.of_map (h : w.mapTurned w' b) : Turn (fun g => g = b) w w' := Turn.of_grown h.grown (fun k e => (Option.some.inj e).symm)
end
end Go.Proofs.Ytgnhakgfgdelpaa
