/- Texts joined: Pages of long values; A map from integers to byte lists, as a function; Separate pieces of memory; Step laws for regions that draw; A bench's memory; A region that draws its order, whose head only reads and calls quietly, and whos; api.Bench; api.Bench -/
import Derived.Test.YtgnhakgfgdelpaaE1
import Derived.Test.YtgnhakgfgdelpaaE2
import Derived.Maps.OwnSet
import Derived.StillTail
import Derived.Deep.Quiet
import Derived.Deep.CutRange
import Derived.Deep.DeepCutAuto
import Derived.Deep.RegionHeld3
import Derived.BigQuiet
-- Pages of long values: what is written, how it is read: plain laws.
namespace Go.Proofs.Ytgnhakgfgdelpaa
def i64w (n : Int) : Prop := -9223372036854775808 ≤ n ∧ n ≤ 9223372036854775807
def spZ (next : Int) (d : List UInt8) (P : Int) : Int := if isPowB P = false ∨ (next ≠ 0 ∧ (next < 2 ∨ 65536 ≤ next)) then 1 else if d.length = 0 ∨ P - 16 < (d.length : Int) then 31 else 0
def preS (next : Int) (d : List UInt8) (P : Nat) : List UInt8 := 4 :: 0 :: 0 :: 0 :: (fixedF next.toNat 4 ++ (fixedF d.length 4 ++ (d ++ List.replicate (P - 16 - d.length) 0)))
def laidS (next : Int) (d : List UInt8) (P : Nat) : List UInt8 := preS next d P ++ fixedF (sumF (preS next d P)) 4
def spL (next : Int) (d : List UInt8) (P : Int) : List UInt8 := if spZ next d P = 0 then laidS next d P.toNat else []
theorem spZ_zero {next : Int} {d : List UInt8} {P : Int} (h : spZ next d P = 0) : isPowB P = true ∧ (next = 0 ∨ (2 ≤ next ∧ next < 65536)) ∧ 1 ≤ d.length ∧ (d.length : Int) + 16 ≤ P ∧ 512 ≤ P ∧ P ≤ 65536 := by
  unfold spZ at h
  split at h
  · cases h
  · rename_i h1
    split at h
    · cases h
    · rename_i h2
      have hp : isPowB P = true := by
        cases e : isPowB P with
        | true => rfl
        | false => exact absurd (.inl e) h1
      have := isPowB_range hp
      refine ⟨hp, ?_, by omega, by omega, this.1, this.2⟩
      rcases (by omega : next < 0 ∨ 0 ≤ next) with h3 | h3
      · exact absurd (.inr ⟨by omega, by omega⟩) h1
      · by_cases h4 : next = 0
        · exact .inl h4
        · right
          constructor
          · rcases (by omega : next < 2 ∨ 2 ≤ next) with h5 | h5
            · exact absurd (.inr ⟨h4, .inl h5⟩) h1
            · exact h5
          · rcases (by omega : next < 65536 ∨ 65536 ≤ next) with h5 | h5
            · exact h5
            · exact absurd (.inr ⟨h4, .inr h5⟩) h1
theorem spZ_range (next : Int) (d : List UInt8) (P : Int) : 0 ≤ spZ next d P ∧ spZ next d P ≤ 31 := by
  unfold spZ; split
  · simp
  · split <;> simp
theorem preS_length {next : Int} {d : List UInt8} {P : Nat} (h : d.length + 16 ≤ P) : (preS next d P).length = P - 4 := by
  unfold preS
  simp only [List.length_cons, List.length_append, fixedF_length, List.length_replicate]; omega
theorem laidS_length {next : Int} {d : List UInt8} {P : Nat} (h : d.length + 16 ≤ P) : (laidS next d P).length = P := by
  unfold laidS
  rw [List.length_append, preS_length h, fixedF_length]; omega
theorem spL_length (next : Int) (d : List UInt8) (P : Int) : (spL next d P).length ≤ 65536 := by
  unfold spL
  split
  · rename_i h
    have := spZ_zero h
    rw [laidS_length (by omega)]; omega
  · simp
/-- What a spill page says. -/
def isSp (b : List UInt8) (next : Int) (d : List UInt8) : Prop := spZ next d (b.length : Int) = 0 ∧ laidS next d b.length = b
theorem parse_laidS {next : Int} {d : List UInt8} {P : Nat} (h : spZ next d (P : Int) = 0) : (numAt (laidS next d P) 4 4 : Int) = next ∧ numAt (laidS next d P) 8 4 = d.length ∧ ((laidS next d P).drop 12).take d.length = d := by
  obtain ⟨h1, h2, h3, h4, h5, h6⟩ := spZ_zero h
  have hB : laidS next d P = (4 :: 0 :: 0 :: 0 :: (fixedF next.toNat 4 ++ (fixedF d.length 4 ++ (d ++ List.replicate (P - 16 - d.length) 0)))) ++ fixedF (sumF (preS next d P)) 4 := rfl
  refine ⟨?_, ?_, ?_⟩
  · have : numAt (laidS next d P) 4 4 = next.toNat := by
      refine numAt_mid (pre := [4, 0, 0, 0]) (rest := (fixedF d.length 4 ++ (d ++ List.replicate (P - 16 - d.length) 0)) ++ fixedF (sumF (preS next d P)) 4) (by rw [hB]; simp) rfl (by show _ < 4294967296; omega)
    rw [this]; omega
  · refine numAt_mid (pre := 4 :: 0 :: 0 :: 0 :: fixedF next.toNat 4) (rest := (d ++ List.replicate (P - 16 - d.length) 0) ++ fixedF (sumF (preS next d P)) 4) (by rw [hB]; simp) (by simp [fixedF_length]) (by show _ < 4294967296; omega)
  · refine take_mid (pre := 4 :: 0 :: 0 :: 0 :: (fixedF next.toNat 4 ++ fixedF d.length 4)) (rest := List.replicate (P - 16 - d.length) 0 ++ fixedF (sumF (preS next d P)) 4) (by rw [hB]; simp) (by simp [fixedF_length]) rfl
theorem isSp_parse {b : List UInt8} {next : Int} {d : List UInt8} (h : isSp b next d) : (numAt b 4 4 : Int) = next ∧ numAt b 8 4 = d.length ∧ (b.drop 12).take d.length = d := by
  obtain ⟨h1, h2⟩ := h
  have := parse_laidS h1
  rw [h2] at this
  exact this
/-- How many pages a value takes. -/
def pagesF (page n : Int) : Int := if isPowB page = false ∨ n < 1 then 0 else (n - 1) / (page - 16) + 1
end Go.Proofs.Ytgnhakgfgdelpaa

-- A map from integers to byte lists, as a function: laws at its operations.
namespace Go.Proofs.Ytgnhakgfgdelpaa
open Go.RowKit Go.Maps
def nilV : Value := .slice none 0 0
def heldR (v : Value) : Option (DataW Value × List MemPlace) := some (.held v, [])
theorem i64w.wf {n : Int} (h : i64w n) : (Lit.int .i64 n).wf = true := by
  obtain ⟨h1, h2⟩ := h
  have e1 : IntKind.min .i64 = -9223372036854775808 := by decide
  have e2 : IntKind.max .i64 = 9223372036854775807 := by decide
  simp [Lit.wf, e1, e2]
  omega
theorem keyedI : Keyed Try.prog 3 := int_keyed Try.underlying3
theorem key_lit {n : Int} (h : i64w n) : WideAt.IsKeyLit (.int .i64 n) := by
  obtain ⟨k, hk⟩ : ∃ k, keyOf Try.prog 3 (.int .i64 n) = some k := ⟨_, keyOf_int_mk Try.underlying3 h.wf⟩
  trivial
theorem int_ne {n m : Int} (h : n ≠ m) : (Lit.int .i64 n) ≠ (Lit.int .i64 m) := fun e => h (by injection e)
/-- Block b is a map of cnt entries: at n stands pv n. -/
def MapAt (w : World) (b : Nat) (pv : Int → Option Value) (cnt : Nat) : Prop := ∃ D : DataW Value, w.ownsMap Try.prog 3 heldR b cnt D ∧ Maps.size D = cnt ∧
  ∀ n, i64w n → Maps.has D (.int .i64 n) = (pv n).isSome ∧ D.atKey (.int .i64 n) (.held nilV) = .held ((pv n).getD nilV)
def putM (pv : Int → Option Value) (n : Int) (v : Option Value) : Int → Option Value := fun m => if m = n then v else pv m
theorem putM_same {pv : Int → Option Value} {n : Int} {v : Option Value} : putM pv n v n = v := by unfold putM; rw [if_pos rfl]
theorem putM_other {pv : Int → Option Value} {n m : Int} {v : Option Value} (h : m ≠ n) : putM pv n v m = pv m := by unfold putM; rw [if_neg h]
section
variable {w w' : World} {b cnt : Nat} {pv : Int → Option Value}
theorem MapAt.made (w : World) : MapAt (w.alloc (.map #[] 0)) w.heap.size (fun _ => none) 0 :=
  ⟨.map [], World.ownsMap_made _ _ _ _, rfl, fun _ _ => ⟨rfl, rfl⟩⟩
theorem MapAt.heap (h : MapAt w b pv cnt) (hb : w'.heap[b]? = w.heap[b]?) : MapAt w' b pv cnt := by
  obtain ⟨D, ⟨es, clock, h1, h2⟩, h3⟩ := h
  exact ⟨D, ⟨es, clock, hb.trans h1, h2⟩, h3⟩
theorem MapAt.lt (h : MapAt w b pv cnt) : b < w.heap.size := by obtain ⟨D, h1, _⟩ := h; exact h1.lt
theorem MapAt.exact {D : DataW Value} {n : Nat} (h : w.ownsMap Try.prog 3 heldR b n D) : w.ownsMap Try.prog 3 heldR b (Maps.size D) D := by
  obtain ⟨es, clock, h1, h2, _, rfl⟩ := h
  exact ⟨es, clock, h1, h2, by simp [Maps.size, length_sorted], rfl⟩
variable {ops : Array Oper} {rest : List Oper} {o : Oper} {a : Act} {Q : Exit → Act → World → Prop}
theorem wp_look (hg : o.guard = none) (m x : Operand) (hop : o.op = Op.lookup 74 m x true) (hM : MapAt w b pv cnt) (hm : a.eval m = .map (some b)) (n : Int) (hn : i64w n) (hx : a.eval x = .int .i64 n)
    (r : Option Value) (hr : pv n = r) (hK : wpList Try.prog ops Q rest (a.put o.dst (.tuple #[r.getD nilV, .bool r.isSome])) w) : wpList Try.prog ops Q (o :: rest) a w := by
  obtain ⟨D, h1, h2, h3⟩ := hM
  obtain ⟨h4, h5⟩ := h3 n hn
  refine wpList_lookup_own_ok w hg m x 74 hop 3 25 keyedI Try.underlying74 heldR (z := nilV) (by kernel_rfl) (.held nilV) [] rfl b cnt D hm h1 _ _ hx (keyOf_int_mk Try.underlying3 hn.wf) ?_
  intro v ps hv
  rw [h5] at hv
  unfold heldR at hv
  simp only [Option.some.injEq, Prod.mk.injEq, DataW.held.injEq] at hv
  obtain ⟨rfl, _⟩ := hv
  rw [h4, hr]
  exact hK
theorem MapAt.store (hM : MapAt w b pv cnt) (hc : cnt < maxLen) (n : Int) (hn : i64w n) (u : Value) : ∃ w', (Instr.mapUpdate 74 (.map (some b)) (.int .i64 n) u).run Try.prog w = .ok () w' ∧ MapAt w' b (putM pv n (some u)) (if (pv n).isSome then cnt else cnt + 1) ∧ w.mapTurned w' b := by
  obtain ⟨D, h1, h2, h3⟩ := hM
  obtain ⟨w', hrun, k1, k2⟩ := h1.store keyedI Try.underlying74 hc (key := .int .i64 n) (val := u) (d := .held u) (ps := []) (keyOf_int_mk Try.underlying3 hn.wf) rfl
  refine ⟨w', hrun, ⟨D.put (.int .i64 n) (.held u), ?_, ?_, fun m hm' => ?_⟩, k2⟩
  · have k3 := MapAt.exact k1
    rw [size_put (h1.tidy keyedI), (h3 n hn).1, h2] at k3
    exact k3
  · rw [size_put (h1.tidy keyedI), (h3 n hn).1, h2]
  · by_cases e : m = n
    · subst e
      rw [has_put_same h1.isMap (key_lit hn), atKey_put_same h1.isMap (key_lit hn), putM_same]
      exact ⟨rfl, rfl⟩
    · rw [has_put_other (int_ne e), atKey_put_other (int_ne e), putM_other e]
      exact h3 m hm'
theorem wp_store (hg : o.guard = none) (m x v : Operand) (hop : o.op = Op.mapUpdate 74 m x v) (hM : MapAt w b pv cnt) (hc : cnt < maxLen) (hm : a.eval m = .map (some b)) (n : Int) (hn : i64w n) (hx : a.eval x = .int .i64 n) (u : Value) (hv : a.eval v = u)
    (hK : ∀ w', MapAt w' b (putM pv n (some u)) (if (pv n).isSome then cnt else cnt + 1) → w.mapTurned w' b → wpList Try.prog ops Q rest (a.put o.dst undef) w') : wpList Try.prog ops Q (o :: rest) a w := by
  obtain ⟨D, h1, h2, h3⟩ := hM
  refine wpList_mapUpdate_in w hg m x v 74 hop 3 25 keyedI Try.underlying74 heldR b cnt D hm h1 hc _ _ _ hx hv (keyOf_int_mk Try.underlying3 hn.wf) (.held u) [] rfl ?_
  intro w' k1 k2
  refine hK w' ⟨D.put (.int .i64 n) (.held u), ?_, ?_, fun m hm' => ?_⟩ k2
  · have k3 := MapAt.exact k1
    rw [size_put (h1.tidy keyedI), (h3 n hn).1, h2] at k3
    exact k3
  · rw [size_put (h1.tidy keyedI), (h3 n hn).1, h2]
  · by_cases e : m = n
    · subst e
      rw [has_put_same h1.isMap (key_lit hn), atKey_put_same h1.isMap (key_lit hn), putM_same]
      exact ⟨rfl, rfl⟩
    · rw [has_put_other (int_ne e), atKey_put_other (int_ne e), putM_other e]
      exact h3 m hm'
theorem wp_del (hg : o.guard = none) (m x : Operand) (hop : o.op = .call { callee := .builtin .delete, args := #[m, x], argTypes := #[74, 3] }) (hM : MapAt w b pv cnt) (hm : a.eval m = .map (some b)) (n : Int) (hn : i64w n) (hx : a.eval x = .int .i64 n)
    (hK : ∀ w', MapAt w' b (putM pv n none) (if (pv n).isSome then cnt - 1 else cnt) → w.mapTurned w' b → wpList Try.prog ops Q rest (a.put o.dst (.tuple #[])) w') : wpList Try.prog ops Q (o :: rest) a w := by
  obtain ⟨D, h1, h2, h3⟩ := hM
  refine wpList_delete_own w hg m x 74 3 hop 25 keyedI Try.underlying74 heldR b cnt D hm h1 _ _ hx (keyOf_int_mk Try.underlying3 hn.wf) ?_
  intro w' k1 k2
  have hs := size_del (k := .int .i64 n) (h1.tidy keyedI)
  rw [(h3 n hn).1, h2] at hs
  have hs' : Maps.size (D.del (.int .i64 n)) = if (pv n).isSome then cnt - 1 else cnt := by
    cases hq : (pv n).isSome <;> rw [hq] at hs <;> simp at hs ⊢ <;> omega
  refine hK w' ⟨D.del (.int .i64 n), ?_, hs', fun m hm' => ?_⟩ k2
  · have k3 := MapAt.exact k1
    rw [hs'] at k3
    exact k3
  · by_cases e : m = n
    · subst e
      rw [has_del_same, atKey_del_same, putM_same]
      exact ⟨rfl, rfl⟩
    · rw [has_del_other (int_ne e), atKey_del_other (int_ne e), putM_other e]
      exact h3 m hm'
theorem MapAt.obj (hM : MapAt w b pv cnt) : ∃ es clock, w.heap[b]? = some (.map es clock) ∧ es.size = cnt := by
  obtain ⟨D, ⟨es, clock, h1, h2, h3, rfl⟩, h4, _⟩ := hM
  exact ⟨es, clock, h1, by rw [← h4]; simp [Maps.size, length_sorted]⟩
theorem run_len (hM : MapAt w b pv cnt) (ty : TypeId) : (Builtin.len_ #[74] ty #[.map (some b)]).run Try.prog w = .ok (.int .i64 cnt) w := by
  obtain ⟨D, h1, h2, h3⟩ := hM
  rw [h1.len Try.underlying74 ty, h2]
theorem Turn.of_map (h : w.mapTurned w' b) : Turn (fun g => g = b) w w' := Turn.of_grown h.grown (fun k e => (Option.some.inj e).symm)
end
end Go.Proofs.Ytgnhakgfgdelpaa

-- Separate pieces of memory: one fact for all of them.
namespace Go.Proofs.Ytgnhakgfgdelpaa
open Go.RowKit
/-- A piece of memory: its blocks, and what holds of them. -/
structure Ent where
  F : Nat → Prop
  p : World → Prop
  loc : ∀ {w w' : World}, (∀ g, F g → w'.heap[g]? = w.heap[g]?) → p w → p w'
structure Same (w0 w : World) : Prop where
  os : w.os = w0.os
  tape : w.tape = w0.tape
  output : w.output = w0.output
  size : w0.heap.size ≤ w.heap.size
theorem Same.refl (w : World) : Same w w := ⟨rfl, rfl, rfl, Nat.le_refl _⟩
theorem Same.trans {a b c : World} (h : Same a b) (k : Same b c) : Same a c := ⟨k.os.trans h.os, k.tape.trans h.tape, k.output.trans h.output, Nat.le_trans h.size k.size⟩
theorem Same.of_below {B : Nat} {w w' : World} (h : Below B w w') : Same w w' := ⟨h.os, h.tape, h.output, h.size⟩
theorem Same.of_turn {F : Nat → Prop} {w w' : World} (h : Turn F w w') : Same w w' := ⟨h.os, h.tape, h.output, h.size⟩
/-- Pieces that lie apart, all of them in the world w, which came of w0. -/
structure Sep (w0 w : World) (L : List Ent) : Prop where
  same : Same w0 w
  each : ∀ E ∈ L, E.p w ∧ ∀ g, E.F g → g < w.heap.size
  apart : L.Pairwise fun a b => ∀ g, a.F g → ¬ b.F g
section
variable {w0 w w' : World} {L L' : List Ent} {E E' A B C D : Ent}
theorem Sep.perm (h : Sep w0 w L) (hp : L.Perm L') : Sep w0 w L' :=
  ⟨h.same, fun E hE => h.each E (hp.mem_iff.2 hE), (hp.pairwise_iff (fun {a b} hab g h1 h2 => hab g h2 h1)).1 h.apart⟩
theorem Sep.sw1 (h : Sep w0 w (A :: E :: L)) : Sep w0 w (E :: A :: L) := h.perm (List.perm_middle (l₁ := [A]))
theorem Sep.sw2 (h : Sep w0 w (A :: B :: E :: L)) : Sep w0 w (E :: A :: B :: L) := h.perm (List.perm_middle (l₁ := [A, B]))
theorem Sep.sw3 (h : Sep w0 w (A :: B :: C :: E :: L)) : Sep w0 w (E :: A :: B :: C :: L) := h.perm (List.perm_middle (l₁ := [A, B, C]))
theorem Sep.sw4 (h : Sep w0 w (A :: B :: C :: D :: E :: L)) : Sep w0 w (E :: A :: B :: C :: D :: L) := h.perm (List.perm_middle (l₁ := [A, B, C, D]))
/-- The piece behind the first n comes to the head. -/
theorem Sep.sw (L1 : List Ent) (h : Sep w0 w (L1 ++ E :: L)) : Sep w0 w (E :: (L1 ++ L)) := h.perm List.perm_middle
/-- The piece behind the first n behind the head comes next to the head. -/
theorem Sep.sn (L1 : List Ent) (h : Sep w0 w (A :: (L1 ++ E :: L))) : Sep w0 w (A :: E :: (L1 ++ L)) := h.perm (List.Perm.cons _ List.perm_middle)
/-- The first piece goes behind L1. -/
theorem Sep.back (L1 : List Ent) (h : Sep w0 w (E :: (L1 ++ L))) : Sep w0 w (L1 ++ E :: L) := h.perm List.perm_middle.symm
theorem Sep.head (h : Sep w0 w (E :: L)) : E.p w := (h.each E (List.mem_cons_self ..)).1
theorem Sep.lt (h : Sep w0 w (E :: L)) : ∀ g, E.F g → g < w.heap.size := (h.each E (List.mem_cons_self ..)).2
theorem Sep.of_mem (h : Sep w0 w L) (hE : E ∈ L) : E.p w := (h.each E hE).1
theorem Sep.tail (h : Sep w0 w (E :: L)) : Sep w0 w L := ⟨h.same, fun X hX => h.each X (List.mem_cons_of_mem _ hX), (List.pairwise_cons.1 h.apart).2⟩
theorem Sep.far (h : Sep w0 w (E :: L)) (hA : A ∈ L) : ∀ g, E.F g → ¬ A.F g := (List.pairwise_cons.1 h.apart).1 A hA
theorem Sep.cons (h : Sep w0 w L) (hp : E.p w) (hl : ∀ g, E.F g → g < w.heap.size) (ha : ∀ A ∈ L, ∀ g, E.F g → ¬ A.F g) : Sep w0 w (E :: L) :=
  ⟨h.same, fun X hX => by rcases List.mem_cons.1 hX with rfl | hX; exact ⟨hp, hl⟩; exact h.each X hX, List.pairwise_cons.2 ⟨ha, h.apart⟩⟩
/-- Nothing that was there is written. -/
theorem Sep.below (h : Sep w0 w L) (hb : Below w.heap.size w w') : Sep w0 w' L :=
  ⟨h.same.trans (Same.of_below hb), fun X hX => ⟨X.loc (fun g hg => hb.block g ((h.each X hX).2 g hg)) (h.each X hX).1, fun g hg => Nat.lt_of_lt_of_le ((h.each X hX).2 g hg) hb.size⟩, h.apart⟩
/-- .. and a new piece. -/
theorem Sep.new (h : Sep w0 w L) (hb : Below w.heap.size w w') (hp : E.p w') (hF : ∀ g, E.F g → w.heap.size ≤ g ∧ g < w'.heap.size) : Sep w0 w' (E :: L) :=
  (h.below hb).cons hp (fun g hg => (hF g hg).2) (fun X hX g hg h2 => by have h1 := (h.each X hX).2 g h2; have h3 := (hF g hg).1; omega)
/-- The first piece is written. -/
theorem Sep.upd (h : Sep w0 w (E :: L)) (ht : Turn E.F w w') (hp : E'.p w') (hF : ∀ g, E'.F g → (E.F g ∨ w.heap.size ≤ g) ∧ g < w'.heap.size) : Sep w0 w' (E' :: L) := by
  have hl : Sep w0 w' L := ⟨h.same.trans (Same.of_turn ht), fun X hX => ⟨X.loc (fun g hg => ht.block g ((h.tail.each X hX).2 g hg) (fun e => h.far hX g e hg)) (h.tail.each X hX).1, fun g hg => Nat.lt_of_lt_of_le ((h.tail.each X hX).2 g hg) ht.size⟩, h.tail.apart⟩
  refine hl.cons hp (fun g hg => (hF g hg).2) (fun X hX g hg h2 => ?_)
  rcases (hF g hg).1 with h3 | h3
  · exact h.far hX g h3 h2
  · have h1 := (h.tail.each X hX).2 g h2
    omega
/-- The first piece is written, and is of no more use. -/
theorem Sep.kill (h : Sep w0 w (E :: L)) (ht : Turn E.F w w') : Sep w0 w' L :=
  ⟨h.same.trans (Same.of_turn ht), fun X hX => ⟨X.loc (fun g hg => ht.block g ((h.tail.each X hX).2 g hg) (fun e => h.far hX g e hg)) (h.tail.each X hX).1, fun g hg => Nat.lt_of_lt_of_le ((h.tail.each X hX).2 g hg) ht.size⟩, h.tail.apart⟩
/-- The first piece is told otherwise. -/
theorem Sep.weak (h : Sep w0 w (E :: L)) (hp : E.p w → E'.p w) (hF : ∀ g, E'.F g → E.F g) : Sep w0 w (E' :: L) :=
  h.tail.cons (hp h.head) (fun g hg => h.lt g (hF g hg)) (fun _ hX g hg => h.far hX g (hF g hg))
/-- Two pieces as one. -/
def Ent.star (A B : Ent) : Ent := ⟨fun g => A.F g ∨ B.F g, fun w => A.p w ∧ B.p w ∧ ∀ g, A.F g → ¬ B.F g,
  fun h ⟨h1, h2, h3⟩ => ⟨A.loc (fun g hg => h g (.inl hg)) h1, B.loc (fun g hg => h g (.inr hg)) h2, h3⟩⟩
theorem Sep.join (h : Sep w0 w (A :: B :: L)) : Sep w0 w (A.star B :: L) := by
  refine h.tail.tail.cons ⟨h.head, h.tail.head, h.far (List.mem_cons_self ..)⟩ (fun g hg => hg.elim (h.lt g) (h.tail.lt g)) (fun X hX g hg => ?_)
  rcases hg with hg | hg
  · exact h.far (List.mem_cons_of_mem _ hX) g hg
  · exact h.tail.far hX g hg
theorem Sep.split (h : Sep w0 w (A.star B :: L)) : Sep w0 w (A :: B :: L) := by
  refine (h.tail.cons (E := B) h.head.2.1 (fun g hg => h.lt g (.inr hg)) (fun X hX g hg => h.far hX g (.inr hg))).cons h.head.1 (fun g hg => h.lt g (.inl hg)) (fun X hX g hg => ?_)
  rcases List.mem_cons.1 hX with rfl | hX
  · exact h.head.2.2 g hg
  · exact h.far hX g (.inl hg)
/-- The first two pieces are written. -/
theorem Sep.upd2 (h : Sep w0 w (A :: B :: L)) (ht : Turn (fun g => A.F g ∨ B.F g) w w') (hc : C.p w') (hd : D.p w') (hC : ∀ g, C.F g → (A.F g ∨ B.F g ∨ w.heap.size ≤ g) ∧ g < w'.heap.size) (hD : ∀ g, D.F g → (A.F g ∨ B.F g ∨ w.heap.size ≤ g) ∧ g < w'.heap.size)
    (hCD : ∀ g, C.F g → ¬ D.F g) : Sep w0 w' (C :: D :: L) := by
  refine Sep.split (h.join.upd (E' := C.star D) ht ⟨hc, hd, hCD⟩ (fun g hg => ?_))
  rcases hg with hg | hg
  · exact ⟨by rcases (hC g hg).1 with h | h | h; exact .inl (.inl h); exact .inl (.inr h); exact .inr h, (hC g hg).2⟩
  · exact ⟨by rcases (hD g hg).1 with h | h | h; exact .inl (.inl h); exact .inl (.inr h); exact .inr h, (hD g hg).2⟩
theorem Sep.drewN (h : Sep w0 w L) (n : Nat) : Sep w0 (w.drewN n) L := h.below (w' := w.drewN n) ⟨rfl, rfl, rfl, Nat.le_refl _, fun _ _ => rfl⟩
theorem Sep.drew (h : Sep w0 w L) : Sep w0 w.drew L := h.below (w' := w.drew) ⟨rfl, rfl, rfl, Nat.le_refl _, fun _ _ => rfl⟩
/-! ### kinds of pieces -/
/-- All that was there in w0. -/
def oldE (w0 : World) : Ent := ⟨fun g => g < w0.heap.size, fun w => ∀ g, g < w0.heap.size → w.heap[g]? = w0.heap[g]?, fun h k g hg => (h g hg).trans (k g hg)⟩
theorem Sep.start (w : World) : Sep w w [oldE w] := ⟨Same.refl w, fun E hE => by obtain rfl := List.mem_singleton.1 hE; exact ⟨fun _ _ => rfl, fun _ h => h⟩, List.pairwise_singleton _ _⟩
theorem Sep.belowOld {v : World} (h : Sep w0 w L) (hm : oldE w0 ∈ L) : Below w0.heap.size w0 w := ⟨h.same.os, h.same.tape, h.same.output, h.same.size, h.of_mem hm⟩
theorem Sep.old_cell {v : World} (h : Sep w0 w L) (hm : oldE v ∈ L) : ∀ p : Addr, p.block < v.heap.size → w.cell? p = v.cell? p := fun p hp => World.cell?_of_block (h.of_mem hm p.block hp)
theorem Sep.rd {v : World} {x : Value} {l : List UInt8} (h : Sep w0 w L) (hm : oldE v ∈ L) (hr : RdB v x l) : RdB w x l := hr.keep (h.old_cell hm)
/-- A block. -/
def blkE (g : Nat) (T : TypeId) (cs : List Value) : Ent := ⟨fun b => b = g, fun w => OBlk w g T cs, fun h k => k.of_heap (h g rfl)⟩
/-- Bytes of the call's own, or nil. -/
def bytesE (v : Value) (l : List UInt8) : Ent := ⟨fun g => v.ownBlock = some g, fun w => OwB w 0 v l, fun h k => Own.heap k h⟩
def ownE (T : TypeId) (size : Nat) (v : Value) (n : Nat) (xs : List Value) : Ent := ⟨fun g => v.ownBlock = some g, fun w => Own w 0 T size v n xs, fun h k => Own.heap k h⟩
theorem Sep.alloc (h : Sep w0 w L) (T : TypeId) (cs : List Value) : Sep w0 (w.alloc (.cells cs.toArray T)) (blkE w.heap.size T cs :: L) :=
  h.new ((Below.refl _ _).alloc (Nat.le_refl _) _) (OBlk.new' w T cs) (fun g hg => by have hg' : g = w.heap.size := hg; rw [World.size_alloc]; omega)
theorem Sep.setCell {g : Nat} {T : TypeId} {cs : List Value} (h : Sep w0 w (blkE g T cs :: L)) (j : Nat) (u : Value) : Sep w0 (w.setCell ⟨g, j, none⟩ u) (blkE g T (cs.set j u) :: L) :=
  h.upd (Turn.of_grown (grownBy_setCell w ⟨g, j, none⟩ u) (fun k e => (Option.some.inj e).symm)) (OBlk.set (h.head : OBlk w g T cs) j u) (fun b hb => ⟨.inl hb, by have h' := h.lt b hb; simpa using h'⟩)
theorem Sep.bytes {b : Nat} {v : Value} {l : List UInt8} (h : Sep w0 w L) (hb : Below w.heap.size w w') (ho : OwB w' b v l) (hB : w.heap.size ≤ b) : Sep w0 w' (bytesE v l :: L) :=
  h.new hb (OwB.low ho (Nat.zero_le _)) (fun g hg => ⟨Nat.le_trans hB (Own.lt ho g hg).1, (Own.lt ho g hg).2⟩)
/-- A list that is read, in whichever piece. -/
def RdIn (L : List Ent) (v : Value) (l : List UInt8) : Prop := ∃ E ∈ L, ∀ w, E.p w → RdB w v l
theorem RdIn.cons {v : Value} {l : List UInt8} (h : RdIn L v l) : RdIn (E :: L) v l := by obtain ⟨X, hX, h⟩ := h; exact ⟨X, List.mem_cons_of_mem _ hX, h⟩
theorem Sep.rdIn {v : Value} {l : List UInt8} (h : Sep w0 w L) (hr : RdIn L v l) : RdB w v l := by obtain ⟨X, hX, hr⟩ := hr; exact hr w (h.of_mem hX)
/-- Many pieces as one. -/
def allE (D : List Ent) : Ent := ⟨fun g => ∃ E ∈ D, E.F g, fun w => (∀ E ∈ D, E.p w) ∧ D.Pairwise (fun (a b : Ent) => ∀ g : Nat, a.F g → ¬ b.F g),
  fun h ⟨h1, h2⟩ => ⟨fun E hE => E.loc (fun g hg => h g ⟨E, hE, hg⟩) (h1 E hE), h2⟩⟩
theorem Sep.pack {D : List Ent} (h : Sep w0 w (D ++ L)) : Sep w0 w (allE D :: L) := by
  have h1 := List.pairwise_append.1 h.apart
  refine Sep.cons ⟨h.same, fun X hX => h.each X (List.mem_append_right _ hX), h1.2.1⟩ ⟨fun E hE => (h.each E (List.mem_append_left _ hE)).1, h1.1⟩ (fun g hg => ?_) (fun X hX g hg => ?_)
  · obtain ⟨E, hE, hg⟩ := hg
    exact (h.each E (List.mem_append_left _ hE)).2 g hg
  · obtain ⟨E, hE, hg⟩ := hg
    exact h1.2.2 E hE X hX g hg
theorem Sep.unpack {D : List Ent} (h : Sep w0 w (allE D :: L)) : Sep w0 w (D ++ L) := by
  have hp := h.head
  refine ⟨h.same, fun X hX => ?_, List.pairwise_append.2 ⟨hp.2, h.tail.apart, fun E hE X hX g hg => h.far hX g ⟨E, hE, hg⟩⟩⟩
  rcases List.mem_append.1 hX with hX | hX
  · exact ⟨hp.1 X hX, fun g hg => h.lt g ⟨X, hX, hg⟩⟩
  · exact h.tail.each X hX
end
end Go.Proofs.Ytgnhakgfgdelpaa

-- Step laws for regions that draw: string(bytes).
namespace Go.Proofs.Ytgnhakgfgdelpaa
open Go.RowKit
section laws
variable {w : World} {ops : Array Oper} {o : Oper} {a : Act} {Q : Exit → Act → World → Prop}
theorem step_B_string {K : Act → World → Prop} {E : Prop} (hgd : o.guard = none) (x : Operand) (ho : o.op = .convert 25 9 x) (v : Value) (l : List UInt8) (hx : a.eval x = v) (hr : RdB w v l)
    (h : K (a.put o.dst (.string ⟨l.toArray⟩)) w) :
    if Region.wanted o (yielded ops a.tmps) = true then Oper.wp Try.prog o a w K Q else E := by
  have hw : Region.wanted o (yielded ops a.tmps) = true := by simp [Region.wanted, hgd]
  rw [if_pos hw]
  have hrun := run_B_string hr
  unfold Oper.wp
  simp [execOp, ho, hx, hrun, Result.andThen, Oper.upon]
  exact h
/-- .. of an operation that is guarded, where it is wanted. -/
theorem step_B_string_w {K : Act → World → Prop} {E : Prop} (x : Operand) (ho : o.op = .convert 25 9 x) (hw : Region.wanted o (yielded ops a.tmps) = true) (v : Value) (l : List UInt8) (hx : a.eval x = v) (hr : RdB w v l)
    (h : K (a.put o.dst (.string ⟨l.toArray⟩)) w) :
    if Region.wanted o (yielded ops a.tmps) = true then Oper.wp Try.prog o a w K Q else E := by
  rw [if_pos hw]
  have hrun := run_B_string hr
  unfold Oper.wp
  simp [execOp, ho, hx, hrun, Result.andThen, Oper.upon]
  exact h
/-- append(l, m...) of bytes in a region, where it is wanted. -/
theorem step_append_B_w {K : Act → World → Prop} {E : Prop} (s x : Operand)
    (ho : o.op = .call { callee := .builtin .append, args := #[s, x], argTypes := #[25, 25] }) (hw : Region.wanted o (yielded ops a.tmps) = true)
    (base : Nat) (v : Value) (l : List UInt8) (hs : a.eval s = v) (hown : OwB w base v l)
    (vx : Value) (m : List UInt8) (hx : a.eval x = vx) (hr : RdB w vx m) (hsm : l.length + m.length ≤ 140737488355328) (hbase : base ≤ w.heap.size)
    (h : ∀ v' w', OwB w' base v' (l ++ m) → w.grownBy w' v.ownBlock → (v'.ownBlock = v.ownBlock ∨ v'.ownBlock = some w.heap.size) → K (a.put o.dst v') w') :
    if Region.wanted o (yielded ops a.tmps) = true then Oper.wp Try.prog o a w K Q else E := by
  rw [if_pos hw]
  obtain ⟨i, hi, hz0, hz1, hz2⟩ := info_parts u8_info
  obtain ⟨v', w', hr, h2, h3, h4⟩ := run_append_Own (P := Try.prog) w base _ 25 o.type 5 i _ 1 1 Try.underlying25 hi hz0 hz1 hz2 rfl v l.length (bvs l) hown vx m.length (bvs m) (Rd.src w Try.underlying25 (by omega) hr.rd (bvs_one m)) (by omega) hsm hbase
  unfold Oper.wp execOp
  simp only [ho, resolve, invoke, builtin, Sem.run_bind, Sem.run_pure, Result.andThen_ok, List.map_toArray, List.map_cons, List.map_nil, hs, hx, hr]
  refine h v' w' ?_ h3 h4
  unfold OwB
  rw [List.length_append, bvs_append]
  exact h2
end laws
theorem step_append_B {w : World} {ops : Array Oper} {o : Oper} {a : Act} {Q : Exit → Act → World → Prop} {K : Act → World → Prop} {E : Prop} (hgd : o.guard = none) (s x : Operand)
    (ho : o.op = .call { callee := .builtin .append, args := #[s, x], argTypes := #[25, 25] })
    (base : Nat) (v : Value) (l : List UInt8) (hs : a.eval s = v) (hown : OwB w base v l)
    (vx : Value) (m : List UInt8) (hx : a.eval x = vx) (hr : RdB w vx m) (hsm : l.length + m.length ≤ 140737488355328) (hbase : base ≤ w.heap.size)
    (h : ∀ v' w', OwB w' base v' (l ++ m) → w.grownBy w' v.ownBlock → (v'.ownBlock = v.ownBlock ∨ v'.ownBlock = some w.heap.size) → K (a.put o.dst v') w') :
    if Region.wanted o (yielded ops a.tmps) = true then Oper.wp Try.prog o a w K Q else E :=
  step_append_B_w s x ho (by simp [Region.wanted, hgd]) base v l hs hown vx m hx hr hsm hbase h
end Go.Proofs.Ytgnhakgfgdelpaa

-- A bench's memory: laws of make([]byte, 0, n), of stores into its map; what a bench is.
namespace Go.Proofs.Ytgnhakgfgdelpaa
open Go.RowKit Go.Maps
section laws
variable {w : World} {ops : Array Oper} {rest : List Oper} {o : Oper} {a : Act} {Q : Exit → Act → World → Prop} {K : Act → World → Prop} {E : Prop}
/-- make([]byte, 0, n). -/
theorem run_make_0 (w : World) (n : Nat) (hn : n ≤ 281474976710656) : (Instr.makeSlice 25 (.int .i64 0) (.int .i64 (n : Int))).run Try.prog w = .ok (.slice (some ⟨w.heap.size, 0, none⟩) 0 n) (w.alloc (.cells (bvs (List.replicate n 0)).toArray 5)) := by
  obtain ⟨i, hi, hz0, hz1, hz2⟩ := info_parts u8_info
  have hr := run_make (P := Try.prog) w 25 5 i _ Try.underlying25 hi hz0 .i64 .i64 0 n (by omega) (by omega) (by rw [hz2]; omega) (by omega)
  simp at hr
  rw [hr]
  have e := toList_madeCells_one (.int .u8 0) n
  rw [bvs_replicate, ← e]
  simp [Value.cells, hz1]
theorem run_make_n (w : World) (n : Nat) (hn : n ≤ 281474976710656) : (Instr.makeSlice 25 (.int .i64 (n : Int)) (.int .i64 (n : Int))).run Try.prog w = .ok (.slice (some ⟨w.heap.size, 0, none⟩) n n) (w.alloc (.cells (bvs (List.replicate n 0)).toArray 5)) := by
  obtain ⟨i, hi, hz0, hz1, hz2⟩ := info_parts u8_info
  have hr := run_make (P := Try.prog) w 25 5 i _ Try.underlying25 hi hz0 .i64 .i64 n n (by omega) (by omega) (by rw [hz2]; omega) (by omega)
  rw [hr]
  have e := toList_madeCells_one (.int .u8 0) n
  rw [bvs_replicate, ← e]
  simp [Value.cells, hz1]
theorem made_0 (w : World) (n base : Nat) (hb : base ≤ w.heap.size) (hn : n ≤ 140737488355328) : OwB (w.alloc (.cells (bvs (List.replicate n 0)).toArray 5)) base (.slice (some ⟨w.heap.size, 0, none⟩) 0 n) [] := by
  have := (OBlk.new' w 5 (bvs (List.replicate n 0))).owB (base := base) hb (by simp only [maxLen, List.length_replicate]; omega) (n := 0) (by omega)
  rw [List.length_replicate] at this
  exact this
theorem made_n (w : World) (n base : Nat) (hb : base ≤ w.heap.size) (hn : n ≤ 140737488355328) : OwB (w.alloc (.cells (bvs (List.replicate n 0)).toArray 5)) base (.slice (some ⟨w.heap.size, 0, none⟩) n n) (List.replicate n 0) := by
  have := (OBlk.new' w 5 (bvs (List.replicate n 0))).owB' (base := base) hb (by simp only [maxLen, List.length_replicate]; omega)
  rw [List.length_replicate] at this
  exact this
theorem step_make_0 (hgd : o.guard = none) (l c : Operand) (hop : o.op = Op.makeSlice 25 l c) (n : Nat) (hl : a.eval l = .int .i64 0) (hc : a.eval c = .int .i64 (n : Int)) (hn : n ≤ 140737488355328)
    (h : ∀ w', OwB w' w.heap.size (.slice (some ⟨w.heap.size, 0, none⟩) 0 n) [] → Below w.heap.size w w' → w'.heap.size = w.heap.size + 1 → K (a.put o.dst (.slice (some ⟨w.heap.size, 0, none⟩) 0 n)) w') :
    if Region.wanted o (yielded ops a.tmps) = true then Oper.wp Try.prog o a w K Q else E := by
  have hw : Region.wanted o (yielded ops a.tmps) = true := by simp [Region.wanted, hgd]
  rw [if_pos hw]
  have hrun := run_make_0 w n (by omega)
  unfold Oper.wp
  simp [execOp, hop, hl, hc, hrun, Result.andThen, Oper.upon]
  exact h _ (made_0 w n _ (Nat.le_refl _) hn) ((Below.refl _ _).alloc (Nat.le_refl _) _) (by simp)
theorem step_make_n (hgd : o.guard = none) (l c : Operand) (hop : o.op = Op.makeSlice 25 l c) (n : Nat) (hl : a.eval l = .int .i64 (n : Int)) (hc : a.eval c = .int .i64 (n : Int)) (hn : n ≤ 140737488355328)
    (h : ∀ w', OwB w' w.heap.size (.slice (some ⟨w.heap.size, 0, none⟩) n n) (List.replicate n 0) → Below w.heap.size w w' → w'.heap.size = w.heap.size + 1 → K (a.put o.dst (.slice (some ⟨w.heap.size, 0, none⟩) n n)) w') :
    if Region.wanted o (yielded ops a.tmps) = true then Oper.wp Try.prog o a w K Q else E := by
  have hw : Region.wanted o (yielded ops a.tmps) = true := by simp [Region.wanted, hgd]
  rw [if_pos hw]
  have hrun := run_make_n w n (by omega)
  unfold Oper.wp
  simp [execOp, hop, hl, hc, hrun, Result.andThen, Oper.upon]
  exact h _ (made_n w n _ (Nat.le_refl _) hn) ((Below.refl _ _).alloc (Nat.le_refl _) _) (by simp)
theorem wp_make_0 (hg : o.guard = none) (l c : Operand) (hop : o.op = Op.makeSlice 25 l c) (n : Nat) (hl : a.eval l = .int .i64 0) (hc : a.eval c = .int .i64 (n : Int)) (hn : n ≤ 140737488355328)
    (hK : ∀ w', OwB w' w.heap.size (.slice (some ⟨w.heap.size, 0, none⟩) 0 n) [] → Below w.heap.size w w' → w'.heap.size = w.heap.size + 1 → wpList Try.prog ops Q rest (a.put o.dst (.slice (some ⟨w.heap.size, 0, none⟩) 0 n)) w') :
    wpList Try.prog ops Q (o :: rest) a w := by
  refine wpList_plain hg fun K hK' => ?_
  have hr := run_make_0 w n (by omega)
  unfold Oper.wp
  simp [execOp, hop, hl, hc, hr, Result.andThen]
  exact hK' _ _ (hK _ (made_0 w n _ (Nat.le_refl _) hn) ((Below.refl _ _).alloc (Nat.le_refl _) _) (by simp))
set_option maxRecDepth 20000 in
/-- m[k] = v, where the walk has come to its run. -/
theorem upon_store {b cnt : Nat} {pv : Int → Option Value} {f : Unit → World → Result Next} (hM : MapAt w b pv cnt) (hc : cnt < maxLen) (n : Int) (hn : i64w n) (u : Value) (hf : f = fun _ w' => Result.ok Next.skip w')
    (h : ∀ w', MapAt w' b (putM pv n (some u)) (if (pv n).isSome then cnt else cnt + 1) → w.mapTurned w' b → K (a.put o.dst undef) w') :
    Oper.upon Try.prog o a K Q ((Sem.run Try.prog (Instr.mapUpdate 74 (.map (some b)) (.int .i64 n) u) w).andThen f) := by
  subst hf
  have hst := hM.store hc n hn u
  refine hst.elim fun w' hh => ?_
  have hrun := hh.1
  have k1 := hh.2.1
  have k2 := hh.2.2
  have e : Sem.run Try.prog (Instr.mapUpdate 74 (.map (some b)) (.int .i64 n) u) w = .ok () w' := hrun
  have e2 : Oper.upon Try.prog o a K Q ((Result.ok () w').andThen fun _ w' => Result.ok Next.skip w') = K (a.put o.dst undef) w' := rfl
  rw [e, e2]
  exact h w' k1 k2
/-- m[k] = v in a region. -/
theorem step_store {b cnt : Nat} {pv : Int → Option Value} (hgd : o.guard = none) (m x v : Operand) (hop : o.op = Op.mapUpdate 74 m x v) (hM : MapAt w b pv cnt) (hc : cnt < maxLen) (hm : a.eval m = .map (some b)) (n : Int) (hn : i64w n) (hx : a.eval x = .int .i64 n) (u : Value) (hv : a.eval v = u)
    (h : ∀ w', MapAt w' b (putM pv n (some u)) (if (pv n).isSome then cnt else cnt + 1) → w.mapTurned w' b → K (a.put o.dst undef) w') :
    if Region.wanted o (yielded ops a.tmps) = true then Oper.wp Try.prog o a w K Q else E := by
  have hw : Region.wanted o (yielded ops a.tmps) = true := by simp [Region.wanted, hgd]
  rw [if_pos hw]
  obtain ⟨w', hrun, k1, k2⟩ := hM.store hc n hn u
  unfold Oper.wp
  simp [execOp, hop, hm, hx, hv, hrun, Result.andThen, Oper.upon]
  exact h w' k1 k2
end laws
/-! ### what a bench is -/
structure BS where
  eng : Int
  page : Nat
  pages : Nat
  reads : Int
  held : Int → Option (List UInt8)
def BS.put (S : BS) (n : Int) (l : Option (List UInt8)) : BS := { S with held := fun m => if m = n then l else S.held m }
def BS.read (S : BS) : BS := { S with reads := wrap64 (S.reads + 1) }
def cntB (S : BS) : Nat := ((List.range S.pages).filter fun (n : Nat) => (S.held n).isSome).length
structure okB (S : BS) : Prop where
  page : isPowB S.page = true
  lo : 2 ≤ S.pages
  hi : S.pages ≤ 65536
  dom : ∀ n, (S.held n).isSome = true → 2 ≤ n ∧ n < S.pages
  len : ∀ n l, S.held n = some l → l.length ≤ 200000
theorem filter_upd (p : Nat → Bool) (n : Nat) (b : Bool) : ∀ N, n < N → ((List.range N).filter fun m => if m = n then b else p m).length + (if p n then 1 else 0) = ((List.range N).filter p).length + (if b then 1 else 0)
  | 0, h => absurd h (Nat.not_lt_zero _)
  | N + 1, h => by
    rw [List.range_succ, List.filter_append, List.filter_append, List.length_append, List.length_append]
    rcases Nat.lt_or_ge n N with h1 | h1
    · have h2 := filter_upd p n b N h1
      have e : ([N].filter fun m => if m = n then b else p m) = [N].filter p := by
        simp only [List.filter_cons, List.filter_nil, if_neg (show ¬ N = n by omega)]
      rw [e]; omega
    · obtain rfl : n = N := by omega
      have e : ((List.range n).filter fun m => if m = n then b else p m) = (List.range n).filter p := by
        apply List.filter_congr
        intro x hx
        rw [List.mem_range] at hx
        rw [if_neg (by omega)]
      rw [e]
      simp only [List.filter_cons, List.filter_nil, if_true]
      cases b <;> cases p n <;> simp
theorem cntB_put {S : BS} {n : Int} (l : Option (List UInt8)) (h1 : 0 ≤ n) (h2 : n < S.pages) : cntB (S.put n l) + (if (S.held n).isSome then 1 else 0) = cntB S + (if l.isSome then 1 else 0) := by
  obtain ⟨k, rfl⟩ : ∃ k : Nat, n = (k : Int) := ⟨n.toNat, by omega⟩
  have h := filter_upd (fun m => (S.held m).isSome) k l.isSome S.pages (by omega)
  unfold cntB
  rw [← h]
  have e : (fun m : Nat => ((S.put k l).held m).isSome) = fun m => if m = k then l.isSome else (S.held m).isSome := by
    funext m
    unfold BS.put
    by_cases hm : m = k
    · simp [hm]
    · simp only [if_neg hm, if_neg (show ¬ ((m : Int) = (k : Int)) by omega)]
  show ((List.range S.pages).filter fun m : Nat => ((S.put k l).held m).isSome).length + _ = _
  rw [e]
theorem cntB_le (S : BS) : cntB S ≤ S.pages := by
  unfold cntB
  exact Nat.le_trans (List.length_filter_le _ _) (by rw [List.length_range]; exact Nat.le_refl _)
theorem okB.put {S : BS} (h : okB S) {n : Int} {l : Option (List UInt8)} (hn : l.isSome = true → 2 ≤ n ∧ n < S.pages) (hl : ∀ l', l = some l' → l'.length ≤ 200000) : okB (S.put n l) := by
  refine ⟨h.page, h.lo, h.hi, fun m hm => ?_, fun m l' hm => ?_⟩
  · unfold BS.put at hm
    by_cases e : m = n
    · subst e; simp at hm; exact hn hm
    · simp only [if_neg e] at hm; exact h.dom m hm
  · unfold BS.put at hm
    by_cases e : m = n
    · subst e; simp at hm; exact hl l' hm
    · simp only [if_neg e] at hm; exact h.len m l' hm
theorem okB.read {S : BS} (h : okB S) : okB S.read := ⟨h.page, h.lo, h.hi, h.dom, h.len⟩
/-- A bench: its struct, its map, its pages. -/
def benchE (gb gm : Nat) (pv : Int → Option Value) (S : BS) : Ent where
  F g := g = gb ∨ g = gm ∨ ∃ n v, pv n = some v ∧ v.ownBlock = some g
  p w := OBlk w gb 76 [.int .i64 S.eng, .int .i64 S.page, .int .i64 S.pages, .map (some gm), .int .i64 S.reads] ∧ MapAt w gm pv (cntB S) ∧ okB S ∧ gb ≠ gm ∧
    (∀ n, S.held n = none ↔ pv n = none) ∧ ∀ n v, pv n = some v → v.ownBlock ≠ some gb ∧ v.ownBlock ≠ some gm ∧ ∃ l, S.held n = some l ∧ OwB w 0 v l
  loc := fun h ⟨h1, h2, h3, h4, h5, h6⟩ => ⟨h1.of_heap (h _ (.inl rfl)), h2.heap (h _ (.inr (.inl rfl))), h3, h4, h5, fun n v hv => ⟨(h6 n v hv).1, (h6 n v hv).2.1, by
    obtain ⟨l, k1, k2⟩ := (h6 n v hv).2.2
    exact ⟨l, k1, Own.heap k2 (fun g hg => h g (.inr (.inr ⟨n, v, hv, hg⟩)))⟩⟩⟩
end Go.Proofs.Ytgnhakgfgdelpaa

-- A region that draws its order, whose head only reads and calls quietly, and whose tail stands in one forced order: the head is walked once in the order of the text, then the tail.
namespace Go.Proofs.Ytgnhakgfgdelpaa
section
variable {P : Program} {ops : Array Oper} {md : Region.Mode} {C : World → Prop}
/-- Whatever order is picked for the head (places below n); then L. -/
def headAny (P : Program) (md : Region.Mode) (ops : Array Oper) (C : World → Prop) (n : Nat) (L : Array Bool → Act → Prop) : Nat → Array Bool → Act → Prop
  | 0, listed, a => L listed a
  | f + 1, listed, a => Region.ready md ops listed ≠ [] ∧ ∀ i ∈ Region.ready md ops listed, i < n ∧ qOp P ops C i (headAny P md ops C n L f (listed.setIfInBounds i true)) a
theorem any_of_headAny {n g : Nat} {L : Array Bool → Act → Prop} {Q' : Exit → Act → World → Prop} (hL : ∀ listed a w, C w → L listed a → wpAny P md ops Q' g listed a w) :
    ∀ (f : Nat) (listed : Array Bool) (a : Act) (w : World), C w → headAny P md ops C n L f listed a → wpAny P md ops Q' (f + g) listed a w
  | 0, listed, a, w, hw, h => by rw [Nat.zero_add]; exact hL _ _ _ hw h
  | f + 1, listed, a, w, hw, h => by
    rw [show f + 1 + g = (f + g) + 1 by omega]
    exact ⟨fun e => absurd e h.1, fun i hi => wpOp_of_qOp hw (fun a' w' hw' k => any_of_headAny hL f _ a' w' hw' k) (h.2 i hi).2⟩
theorem headAny_first {n i : Nat} {oi : Oper} {v : Value} {L : Array Bool → Act → Prop} (hi : ops[i]? = some oi) (hsel : ∀ (j : Nat) (o : Oper) cs b, ops[j]? = some o → o.op ≠ .select cs b)
    (hs : Region.sinkB md ops n = true) (hc : Region.chainB md ops n = true) (hn : n < ops.size) (hin : i < n)
    (hdone : ∀ listed a, L listed a → ∀ j ∈ Region.ready md ops listed, n ≤ j) :
    ∀ (f : Nat) (listed : Array Bool) (a : Act), HeadInv md ops n listed →
      (∀ j oj, ops[j]? = some oj → j ≠ i → listed.getD j true = false → (∀ e ∈ oj.after, Region.binds md e = true → e.on ≠ i) → oi.apart ops oj = true) →
      i ∈ Region.ready md ops listed → YieldsIn P ops C oi v a →
      headAny P md ops C n L f (listed.setIfInBounds i true) (a.put oi.dst v) → headAny P md ops C n L (f + 1) listed a
  | 0, listed, a, inv, _, hr, hy, H => by
    have hun := (mem_ready.1 hr).1
    refine ⟨fun e => (by rw [e] at hr; cases hr), fun j hj => ?_⟩
    have hjn : j < n := (Nat.lt_or_ge j n).elim id fun h => absurd hj (tail_waits hs hc hn inv _ i rfl hin hun j h)
    refine ⟨hjn, ?_⟩
    by_cases e : j = i
    · subst e; exact hy.qOp hi H
    · have := hdone _ _ H j (ready_mono hj e); omega
  | f + 1, listed, a, inv, hfree, hr, hy, H => by
    have hun := (mem_ready.1 hr).1
    refine ⟨fun e => (by rw [e] at hr; cases hr), fun j hj => ?_⟩
    have hjn : j < n := (Nat.lt_or_ge j n).elim id fun h => absurd hj (tail_waits hs hc hn inv _ i rfl hin hun j h)
    refine ⟨hjn, ?_⟩
    by_cases e : j = i
    · subst e; exact hy.qOp hi H
    obtain ⟨hjun, oj, hoj, hall⟩ := mem_ready.1 hj
    have hnot : ∀ e ∈ oj.after, Region.binds md e = true → e.on ≠ i := fun e he hb heq => by
      have := hall e he hb
      rw [heq, getD_both hun] at this
      cases this
    have h2 := qOp_put hoj (hfree j oj hoj e hjun hnot) (fun cs b => hsel i oi cs b hi) (fun cs b => hsel j oj cs b hoj) hy (H.2 j (ready_mono hj e)).2
    refine qOp_mono (fun a' h3 => ?_) h2
    refine headAny_first hi hsel hs hc hn hin hdone f _ a' (inv.set hj hjn) ?_ (ready_mono hr (Ne.symm e)) h3.1 ?_
    · intro k ok hk hki hku hno
      refine hfree k ok hk hki ?_ hno
      by_cases hjk : j = k
      · subst hjk; exact hjun
      · rwa [getD_set_ne true hjk] at hku
    · rw [Array.setIfInBounds_comm _ _ e]
      exact h3.2
theorem headAny_lex {n g : Nat} {Lq : Act → Prop} (hsel : Region.noSelect ops = true) (hs : Region.sinkB md ops n = true) (hc : Region.chainB md ops n = true) (hn : n < ops.size) :
    ∀ (l : List Oper) (k : Nat) (listed : Array Bool) (a : Act), (∀ j, j < l.length → l[j]? = ops[k + j]?) → k + l.length = n → HeadInv md ops n listed →
    Region.lexHead md ops g l.length k listed = true → wpQuiet P ops C Lq l a →
    headAny P md ops C n (fun listed' a' => Region.seqB md ops g n listed' = true ∧ Lq a') l.length listed a
  | [], k, listed, a, _, hk, _, hB, h => by
    obtain rfl : k = n := by simpa using hk
    exact ⟨by simpa [Region.lexHead] using hB, h⟩
  | o :: l, k, listed, a, hl, hk, inv, hB, h => by
    have h0 : ops[k]? = some o := by simpa using (hl 0 (by simp)).symm
    simp only [List.length_cons, Region.lexHead, Bool.and_eq_true] at hB
    obtain ⟨⟨hr, hf⟩, hB'⟩ := hB
    have hkn : k < n := by simp only [List.length_cons] at hk; omega
    have hr' : k ∈ Region.ready md ops listed := by simpa using hr
    have hst : qOp P ops C k (wpQuiet P ops C Lq l) a := by unfold qOp; simp only [h0]; exact h
    obtain ⟨v, hy, hK⟩ := yieldsIn_of_qOp h0 hst
    exact headAny_first h0 (Region.noSelect_spec hsel) hs hc hn hkn (fun listed' a' hL => seqB_ready hL.1) l.length listed a inv (Region.free_spec h0 hf) hr' hy
      (headAny_lex hsel hs hc hn l (k + 1) _ _ (fun j hj => by have := hl (j + 1) (by simp; omega); simpa [Nat.add_assoc, Nat.add_comm 1 j] using this) (by simp only [List.length_cons] at hk; omega) (inv.set hr' hkn) hB' hK)
/-- The head is walked once, from any world of the class; the tail in its order. -/
theorem wp_region_qtail {id : Nat} {Q : Exit → Act → World → Prop} {a : Act} {w : World} {l : List Oper} (n : Nat) (C : World → Prop) (hC : C w.drew) (hm : P.follows .mixedOrders = true) (hB : Region.lexTailB .any l.toArray n = true)
    (h : wpQuiet P l.toArray C (fun a' => ∀ w', C w' → wpList P l.toArray Q (l.drop n) a' w') (l.take n) a) : (Code.region id l.toArray true).wp P Q a w := by
  simp only [Region.lexTailB, Bool.and_eq_true, decide_eq_true_eq] at hB
  obtain ⟨⟨⟨⟨hsel, hn⟩, hs⟩, hc⟩, hlex⟩ := hB
  have hn' : n < l.length := by simpa using hn
  have htl : (l.take n).length = n := by simp; omega
  have hdl : (l.drop n).length = l.toArray.size - n := by simp
  have inv0 : HeadInv .any l.toArray n (Array.replicate l.toArray.size false) :=
    ⟨by simp, fun j oj _ hl => (by rw [getD_replicate_false] at hl; cases hl), fun t _ ht => getD_in (by simpa using ht) (getD_replicate_false _ _)⟩
  have H := headAny_lex (md := .any) (g := l.toArray.size - n) hsel hs hc hn (l.take n) 0 _ a (fun j hj => by
    have hj' : j < n := by rw [htl] at hj; exact hj
    simp [hj']) (by simpa using htl) inv0 (by rw [htl]; exact hlex) h
  refine wp_region_any hm ?_
  have := any_of_headAny (Q' := Q) (g := l.toArray.size - n) (fun listed a' w' hw' hL => by
    have := wpAny_of_seq (md := .any) (Q' := Q) (l.drop n) n listed a' w' (fun j => by simp [List.getElem?_drop]) (by rw [hdl]; exact hL.1) (hL.2 w' hw')
    rwa [hdl] at this) _ _ _ _ hC H
  rw [htl, show n + (l.toArray.size - n) = l.toArray.size by omega] at this
  exact this
/-- .. at the class of worlds after some draws. -/
theorem wp_region_dtail {id : Nat} {Q : Exit → Act → World → Prop} {a : Act} {w : World} {l : List Oper} (n : Nat) (hm : P.follows .mixedOrders = true) (hB : Region.lexTailB .any l.toArray n = true)
    (h : wpQuiet P l.toArray (fun w' => ∃ k, w' = w.drewN k) (fun a' => ∀ w', (∃ k, w' = w.drewN k) → wpList P l.toArray Q (l.drop n) a' w') (l.take n) a) : (Code.region id l.toArray true).wp P Q a w :=
  wp_region_qtail n _ ⟨1, rfl⟩ hm hB h
end
end Go.Proofs.Ytgnhakgfgdelpaa

-- api.Bench: Size, Reads, Spare, Read, Write, Free, Lay.
namespace Go.Proofs.Ytgnhakgfgdelpaa
open Go.RowKit Go.Maps
section
variable {w0 w : World} {gb gm : Nat} {pv : Int → Option Value} {S : BS} {L : List Ent}
theorem benchE_some {n : Int} {l : List UInt8} (hE : (benchE gb gm pv S).p w) (hl : S.held n = some l) : ∃ v, pv n = some v ∧ OwB w 0 v l := by
  obtain ⟨h1, h2, h3, h4, h5, h6⟩ := hE
  cases e : pv n with
  | none => rw [(h5 n).2 e] at hl; cases hl
  | some v =>
    obtain ⟨l', k1, k2⟩ := (h6 n v e).2.2
    rw [hl] at k1
    obtain rfl := Option.some.inj k1
    exact ⟨v, rfl, k2⟩
theorem benchE_isSome {n : Int} (hE : (benchE gb gm pv S).p w) : (pv n).isSome = (S.held n).isSome := by
  have := hE.2.2.2.2.1 n
  cases h1 : pv n <;> cases h2 : S.held n <;> simp_all
/-- A page is put: what was written into the struct stays. -/
theorem benchE_put {w' : World} {n : Int} {u : Value} {l : List UInt8} (hS : Sep w0 w (bytesE u l :: benchE gb gm pv S :: L)) (hn : 2 ≤ n ∧ n < S.pages) (hl : l.length ≤ 200000) (hM : MapAt w' gm (putM pv n (some u)) (if (pv n).isSome then cntB S else cntB S + 1)) (ht : w.mapTurned w' gm) :
    Sep w0 w' (benchE gb gm (putM pv n (some u)) (S.put n (some l)) :: L) := by
  have hE : (benchE gb gm pv S).p w := hS.tail.head
  have his := benchE_isSome (n := n) hE
  obtain ⟨h1, h2, h3, h4, h5, h6⟩ := hE
  have hu : OwB w 0 u l := hS.head
  have hgm : gm < w.heap.size := h2.lt
  have T := Turn.of_map ht
  have hlt := hS.lt
  have hfar : ∀ g, u.ownBlock = some g → ¬ (benchE gb gm pv S).F g := fun g hg => hS.far (List.mem_cons_self ..) g hg
  have hu1 : u.ownBlock ≠ some gb := fun e => hfar gb e (.inl rfl)
  have hu2 : u.ownBlock ≠ some gm := fun e => hfar gm e (.inr (.inl rfl))
  have hk : ∀ g, g < w.heap.size → g ≠ gm → w'.heap[g]? = w.heap[g]? := fun g hg hne => T.block g hg hne
  have hc := cntB_put (S := S) (n := n) (some l) (by omega) hn.2
  have hcc : (if (pv n).isSome then cntB S else cntB S + 1) = cntB (S.put n (some l)) := by
    rw [his]
    cases hq : (S.held n).isSome <;> rw [hq] at hc <;> simp at hc ⊢ <;> omega
  rw [hcc] at hM
  refine Sep.upd (E := (bytesE u l).star (benchE gb gm pv S)) hS.join (T.mono (fun g hg => by subst hg; exact .inr (.inr (.inl rfl)))) ⟨?_, hM, h3.put (fun _ => hn) (fun l' e => by obtain rfl := Option.some.inj e; exact hl), h4, fun m => ?_, fun m v hv => ?_⟩ (fun g hg => ?_)
  · exact h1.of_heap (hk gb h1.lt h4)
  · unfold BS.put putM
    by_cases e : m = n
    · simp [e]
    · simp only [if_neg e]; exact h5 m
  · unfold putM at hv
    unfold BS.put
    by_cases e : m = n
    · simp only [if_pos e, Option.some.injEq] at hv ⊢
      subst hv
      exact ⟨hu1, hu2, l, rfl, Own.heap hu (fun g hg => hk g (hlt g hg) (fun e => hu2 (by rw [hg, e])))⟩
    · simp only [if_neg e] at hv ⊢
      obtain ⟨k1, k2, l', k3, k4⟩ := h6 m v hv
      exact ⟨k1, k2, l', k3, Own.heap k4 (fun g hg => hk g (Own.lt k4 g hg).2 (fun e => k2 (by rw [hg, e])))⟩
  · have hsz := T.size
    rcases hg with rfl | rfl | ⟨m, v, hv, hg⟩
    · exact ⟨.inl (.inr (.inl rfl)), by have := h1.lt; omega⟩
    · exact ⟨.inl (.inr (.inr (.inl rfl))), by omega⟩
    · unfold putM at hv
      by_cases e : m = n
      · simp only [if_pos e, Option.some.injEq] at hv
        subst hv
        exact ⟨.inl (.inl hg), by have := hlt g hg; omega⟩
      · simp only [if_neg e] at hv
        exact ⟨.inl (.inr (.inr (.inr ⟨m, v, hv, hg⟩))), by obtain ⟨_, _, l', _, k4⟩ := h6 m v hv; have := (Own.lt k4 g hg).2; omega⟩
theorem benchE_del {w' : World} {n : Int} (hS : Sep w0 w (benchE gb gm pv S :: L)) (hn : 2 ≤ n ∧ n < S.pages) (hM : MapAt w' gm (putM pv n none) (if (pv n).isSome then cntB S - 1 else cntB S)) (ht : w.mapTurned w' gm) :
    Sep w0 w' (benchE gb gm (putM pv n none) (S.put n none) :: L) := by
  have hE : (benchE gb gm pv S).p w := hS.head
  have his := benchE_isSome (n := n) hE
  obtain ⟨h1, h2, h3, h4, h5, h6⟩ := hE
  have hgm : gm < w.heap.size := h2.lt
  have T := Turn.of_map ht
  have hk : ∀ g, g < w.heap.size → g ≠ gm → w'.heap[g]? = w.heap[g]? := fun g hg hne => T.block g hg hne
  have hc := cntB_put (S := S) (n := n) none (by omega) hn.2
  have hcc : (if (pv n).isSome then cntB S - 1 else cntB S) = cntB (S.put n none) := by
    rw [his]
    cases hq : (S.held n).isSome <;> rw [hq] at hc <;> simp at hc ⊢ <;> omega
  rw [hcc] at hM
  refine Sep.upd hS (T.mono (fun g hg => by subst hg; exact .inr (.inl rfl))) ⟨?_, hM, h3.put (fun h => by cases h) (fun l' e => by cases e), h4, fun m => ?_, fun m v hv => ?_⟩ (fun g hg => ?_)
  · exact h1.of_heap (hk gb h1.lt h4)
  · unfold BS.put putM
    by_cases e : m = n
    · simp [e]
    · simp only [if_neg e]; exact h5 m
  · unfold putM at hv
    unfold BS.put
    by_cases e : m = n
    · simp [if_pos e] at hv
    · simp only [if_neg e] at hv ⊢
      obtain ⟨k1, k2, l', k3, k4⟩ := h6 m v hv
      exact ⟨k1, k2, l', k3, Own.heap k4 (fun g hg => hk g (Own.lt k4 g hg).2 (fun e => k2 (by rw [hg, e])))⟩
  · have hsz := T.size
    rcases hg with rfl | rfl | ⟨m, v, hv, hg⟩
    · exact ⟨.inl (.inl rfl), by have := h1.lt; omega⟩
    · exact ⟨.inl (.inr (.inl rfl)), by omega⟩
    · unfold putM at hv
      by_cases e : m = n
      · simp [if_pos e] at hv
      · simp only [if_neg e] at hv
        exact ⟨.inl (.inr (.inr ⟨m, v, hv, hg⟩)), by obtain ⟨_, _, l', _, k4⟩ := h6 m v hv; have := (Own.lt k4 g hg).2; omega⟩
/-- The count of reads is raised. -/
theorem benchE_read (hS : Sep w0 w (benchE gb gm pv S :: L)) : Sep w0 (w.setCell ⟨gb, 4, none⟩ (.int .i64 (wrap64 (S.reads + 1)))) (benchE gb gm pv S.read :: L) := by
  obtain ⟨h1, h2, h3, h4, h5, h6⟩ := (hS.head : (benchE gb gm pv S).p w)
  have hg := grownBy_setCell w ⟨gb, 4, none⟩ (.int .i64 (wrap64 (S.reads + 1)))
  have T : Turn (fun g => g = gb) w (w.setCell ⟨gb, 4, none⟩ (.int .i64 (wrap64 (S.reads + 1)))) := Turn.of_grown hg (fun k e => (Option.some.inj e).symm)
  refine Sep.upd hS (T.mono (fun g hg => by subst hg; exact .inl rfl)) ⟨?_, h2.heap (T.block gm h2.lt (fun e => h4 e.symm)), h3.read, h4, h5, fun m v hv => ?_⟩ (fun g hg => ?_)
  · exact h1.set 4 _
  · obtain ⟨k1, k2, l', k3, k4⟩ := h6 m v hv
    exact ⟨k1, k2, l', k3, Own.heap k4 (fun g hg => T.block g (Own.lt k4 g hg).2 (fun e => k1 (by rw [hg, e])))⟩
  · have := hS.lt g hg
    have hsz := T.size
    exact ⟨.inl hg, by omega⟩
/-- The struct's cells. -/
theorem benchE_cells (hE : (benchE gb gm pv S).p w) : w.cell? ⟨gb, 0, none⟩ = some (.int .i64 S.eng) ∧ w.cell? ⟨gb, 1, none⟩ = some (.int .i64 S.page) ∧ w.cell? ⟨gb, 2, none⟩ = some (.int .i64 S.pages) ∧ w.cell? ⟨gb, 3, none⟩ = some (.map (some gm)) ∧ w.cell? ⟨gb, 4, none⟩ = some (.int .i64 S.reads) ∧ w.frozen? ⟨gb, 4, none⟩ = false :=
  ⟨hE.1.cell' rfl, hE.1.cell' rfl, hE.1.cell' rfl, hE.1.cell' rfl, hE.1.cell' rfl, hE.1.frozen (by simp)⟩
end
set_option maxRecDepth 20000 in
theorem BSize_any {w : World} {gb gm : Nat} {pv : Int → Option Value} {S : BS} (hE : (benchE gb gm pv S).p w) :
    Calls Try.prog 65 #[.pointer (some ⟨gb, 0, none⟩)] w fun e w' => e = .returned (.int .i64 S.page) ∧ w' = w := by
  obtain ⟨c0, c1, c2, c3, c4, f4⟩ := benchE_cells hE
  go_enter Try.func65, Try.ntmps65
  go_wp2_with fail
  go_ret
  exact ⟨rfl, rfl⟩
set_option maxRecDepth 20000 in
theorem BReads_any {w : World} {gb gm : Nat} {pv : Int → Option Value} {S : BS} (hE : (benchE gb gm pv S).p w) :
    Calls Try.prog 57 #[.pointer (some ⟨gb, 0, none⟩)] w fun e w' => e = .returned (.int .i64 S.reads) ∧ w' = w := by
  obtain ⟨c0, c1, c2, c3, c4, f4⟩ := benchE_cells hE
  go_enter Try.func57, Try.ntmps57
  go_wp2_with fail
  go_ret
  exact ⟨rfl, rfl⟩
def spareF (S : BS) (n : Int) : Bool := decide (n ≤ (S.pages : Int) - 2 - (cntB S : Int))
set_option maxRecDepth 20000 in
set_option maxHeartbeats 1000000 in
theorem BSpare_any {w : World} {gb gm : Nat} {pv : Int → Option Value} {S : BS} (hE : (benchE gb gm pv S).p w) (n : Int) (hn : i64w n) :
    Calls Try.prog 69 #[.pointer (some ⟨gb, 0, none⟩), .int .i64 n] w fun e w' => e = .returned (.bool (spareF S n)) ∧ ∃ nq, w' = w.drewN nq := by
  obtain ⟨c0, c1, c2, c3, c4, f4⟩ := benchE_cells hE
  have hlen : ∀ ty nq, (Builtin.len_ #[74] ty #[.map (some gm)]).run Try.prog (w.drewN nq) = .ok (.int .i64 (cntB S)) (w.drewN nq) := fun ty nq => run_len (MapAt.heap (w' := w.drewN nq) hE.2.1 rfl) ty
  have hc := cntB_le S
  have h3 := hE.2.2.1
  have b1 := h3.hi
  have b2 := h3.lo
  have e1 : IntKind.i64.wrap ((S.pages : Int) - 2) = (S.pages : Int) - 2 := by rw [IntKind.wrap_i64]; omega
  have e2 : IntKind.i64.wrap ((S.pages : Int) - 2 - (cntB S : Int)) = (S.pages : Int) - 2 - (cntB S : Int) := by rw [IntKind.wrap_i64]; omega
  go_enter Try.func69, Try.ntmps69
  go_upto_region 1 with (fail)
  go_quiet (fail)
  go_wp2_with fail
  go_ret
  exact ⟨rfl, _, rfl⟩
end Go.Proofs.Ytgnhakgfgdelpaa

-- api.Bench: Read, Write, Free, Lay.
namespace Go.Proofs.Ytgnhakgfgdelpaa
open Go.RowKit Go.Maps
section
variable {w0 w : World} {gb gm : Nat} {pv : Int → Option Value} {S : BS} {L : List Ent}
set_option maxRecDepth 20000 in
set_option maxHeartbeats 2000000 in
theorem BRead_none (hE : (benchE gb gm pv S).p w) (n : Int) (hn : i64w n) (hh : S.held n = none) :
    Calls Try.prog 31 #[.pointer (some ⟨gb, 0, none⟩), .int .i64 n] w fun e w' => e = .returned (.tuple #[nilV, .int .i64 30]) ∧ w' = w := by
  obtain ⟨c0, c1, c2, c3, c4, f4⟩ := benchE_cells hE
  have hM := hE.2.1
  have hp : pv n = none := (hE.2.2.2.2.1 n).1 hh
  go_enter Try.func31, Try.ntmps31
  go_wp2_with (first | (at_lookup; refine wp_look rfl _ _ rfl hM rfl n hn rfl none hp ?_) | fail)
  go_ret2
  exact ⟨rfl, rfl⟩
set_option maxRecDepth 20000 in
set_option maxHeartbeats 2000000 in
theorem BRead_some (hS : Sep w0 w (benchE gb gm pv S :: L)) (n : Int) (hn : i64w n) (l : List UInt8) (hh : S.held n = some l) :
    Calls Try.prog 31 #[.pointer (some ⟨gb, 0, none⟩), .int .i64 n] w fun e w' => ∃ u, e = .returned (.tuple #[u, .int .i64 0]) ∧ Sep w0 w' (bytesE u l :: benchE gb gm pv S.read :: L) := by
  have hE : (benchE gb gm pv S).p w := hS.head
  obtain ⟨c0, c1, c2, c3, c4, f4⟩ := benchE_cells hE
  have hM := hE.2.1
  obtain ⟨v, hp, hv⟩ := benchE_some hE hh
  obtain ⟨A, c, rfl, hm⟩ := hv.rd.form
  have hS1 := benchE_read hS
  have hll : l.length ≤ 200000 := hE.2.2.1.len n l hh
  have hv1 : OwB (w.setCell ⟨gb, 4, none⟩ (.int .i64 (wrap64 (S.reads + 1)))) 0 (.slice A l.length c) l := by
    obtain ⟨v', hp', hv'⟩ := benchE_some (S := S.read) (n := n) hS1.head hh
    rw [hp] at hp'
    obtain rfl := Option.some.inj hp'
    exact hv'
  go_enter Try.func31, Try.ntmps31
  go_upto_region 5 with (first | (at_lookup; refine wp_look rfl _ _ rfl hM rfl n hn rfl (some _) hp ?_) | fail)
  generalize w.setCell ⟨gb, 4, none⟩ (.int .i64 (wrap64 (S.reads + 1))) = w1 at *
  go_wp2_with (first
    | (at_make; refine wp_make_0 rfl _ _ rfl l.length rfl rfl (by omega) ?_; intro w2 ho2 hw2 hs2)
    | (refine wp_append_B rfl _ _ rfl w1.heap.size _ _ rfl ho2 _ _ rfl (hv1.rd.below hw2 (Nat.le_refl _)) (by simp; omega) hw2.size ?_; intro u w3 ho3 hg3 hb3)
    | fail)
  go_ret2
  rw [List.nil_append] at ho3
  exact ⟨_, rfl, hS1.bytes (hw2.grown hg3 hw2.size (fun k hk => by have := (Own.lt ho2 k hk).1; exact this)) ho3 (Nat.le_refl _)⟩
def writeZ (S : BS) (n : Int) (d : List UInt8) : Int := if S.held n = none then 30 else if d.length ≠ S.page then 31 else 0
def writeS (S : BS) (n : Int) (d : List UInt8) : BS := if writeZ S n d = 0 then S.put n (some d) else S
set_option maxRecDepth 20000 in
set_option maxHeartbeats 4000000 in
theorem BWrite_any (hS : Sep w0 w (benchE gb gm pv S :: L)) (n : Int) (hn : i64w n) (x : Value) (d : List UInt8) (hx : RdB w x d) :
    Calls Try.prog 71 #[.pointer (some ⟨gb, 0, none⟩), .int .i64 n, x] w fun e w' => e = .returned (.int .i64 (writeZ S n d)) ∧ ∃ pv', Sep w0 w' (benchE gb gm pv' (writeS S n d) :: L) := by
  have hE : (benchE gb gm pv S).p w := hS.head
  obtain ⟨A, c, rfl, hm⟩ := hx.form
  obtain ⟨c0, c1, c2, c3, c4, f4⟩ := benchE_cells hE
  have hM := hE.2.1
  cases hh : S.held n with
  | none =>
    have HZ : Hid (writeZ S n d = 30) := by show _ = _; unfold writeZ; rw [if_pos hh]
    have HS : Hid (writeS S n d = S) := by show _ = _; unfold writeS; rw [HZ.out, if_neg (by decide)]
    have hp : pv n = none := (hE.2.2.2.2.1 n).1 hh
    go_enter Try.func71, Try.ntmps71
    go_wp2_with (first | (at_lookup; refine wp_look rfl _ _ rfl hM rfl n hn rfl none hp ?_) | fail)
    go_ret
    rw [HZ.out, HS.out]
    exact ⟨rfl, _, hS⟩
  | some l =>
    obtain ⟨v, hp, hv⟩ := benchE_some hE hh
    obtain ⟨A', c', rfl, hm'⟩ := hv.rd.form
    by_cases hd : d.length = S.page
    · have HZ : Hid (writeZ S n d = 0) := by show _ = _; unfold writeZ; rw [hh, if_neg (by simp), if_neg (by simpa using hd)]
      have HS : Hid (writeS S n d = S.put n (some d)) := by show _ = _; unfold writeS; rw [HZ.out, if_pos rfl]
      have hpg := isPowB_range hE.2.2.1.page
      have hdl : d.length ≤ 65536 := by omega
      have e1 : ((d.length : Int) != (S.page : Int)) = false := by rw [hd]; simp
      have hdm := hE.2.2.1.dom n (by rw [hh]; rfl)
      have hcl := cntB_le S
      have hph := hE.2.2.1.hi
      have hgs := hE.1.lt
      have HD := Lib.hid hd
      clear hd
      have hmk := fun w => run_make_0 w d.length (by omega)
      go_enter Try.func71, Try.ntmps71
      go_upto_region 6 with (first | (at_lookup; refine wp_look rfl _ _ rfl hM rfl n hn rfl (some _) hp ?_) | fail)
      have ho2 := made_0 w.drew d.length w.drew.heap.size (Nat.le_refl _) (by omega)
      have hw2 : Below w.drew.heap.size w.drew _ := (Below.refl _ _).alloc (Nat.le_refl _) (.cells (bvs (List.replicate d.length 0)).toArray 5)
      go_region_held3 (fun w' => w'.cell? ⟨gb, 3, none⟩ = some (.map (some gm)))
        (first | exact c3 | exact (hw2.cell (p := ⟨gb, 3, none⟩) hgs).trans c3 | exact (hw3.cell (p := ⟨gb, 3, none⟩) hgs).trans c3 | exact (World.cell?_of_block ((Turn.of_map ht4).block gb (Nat.lt_of_lt_of_le hgs hw3.size) hE.2.2.2.1)).trans ((hw3.cell (p := ⟨gb, 3, none⟩) hgs).trans c3))
        (first
          | (refine step_append_B (by rfl) _ _ (by rfl) w.drew.heap.size _ _ (by rfl) ho2 _ _ (by rfl) (hx.drew.below hw2 (Nat.le_refl _)) (by simp; omega) hw2.size ?_; intro u w3 ho3 hg3 hb3; rw [List.nil_append] at ho3; have hw3 := hw2.grown hg3 hw2.size (fun k hk => (Own.lt ho2 k hk).1))
          | (refine upon_store (MapAt.heap hM (hw3.block gm hM.lt)) (by simp only [maxLen]; omega) n hn _ rfl ?_; intro w4 hM4 ht4)
          | fail)
      go_wp2_with fail
      go_ret
      rw [HZ.out, HS.out]
      exact ⟨rfl, _, benchE_put (hS.drew.bytes hw3 ho3 (Nat.le_refl _)) hdm (by omega) hM4 ht4⟩
    · have HZ : Hid (writeZ S n d = 31) := by show _ = _; unfold writeZ; rw [hh, if_neg (by simp), if_pos hd]
      have HS : Hid (writeS S n d = S) := by show _ = _; unfold writeS; rw [HZ.out, if_neg (by decide)]
      have e1 : ((d.length : Int) != (S.page : Int)) = true := by simp only [bne, beq_eq_false_iff_ne.2 (show (d.length : Int) ≠ (S.page : Int) by omega)]; rfl
      go_enter Try.func71, Try.ntmps71
      go_wp2_with (first | (at_lookup; refine wp_look rfl _ _ rfl hM rfl n hn rfl (some _) hp ?_) | fail)
      go_ret
      rw [HZ.out, HS.out]
      exact ⟨rfl, _, hS⟩
end
end Go.Proofs.Ytgnhakgfgdelpaa
