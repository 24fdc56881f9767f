/- Lists of integers: read, owned, appended. -/
import Derived.Test.YtgnhakgfgdelpaaSep
import Derived.Test.YtgnhakgfgdelpaaMem2
namespace Go.Proofs.Ytgnhakgfgdelpaa
open Go.RowKit
def ivs (ks : List Int) : List Value := ks.map (Value.int .i64)
theorem ivs_length (ks : List Int) : (ivs ks).length = ks.length := by simp [ivs]
theorem ivs_append (a b : List Int) : ivs (a ++ b) = ivs a ++ ivs b := by simp [ivs]
def RdI (w : World) (v : Value) (ks : List Int) : Prop := Rd w 1 v ks.length (ivs ks)
def OwI (w : World) (base : Nat) (v : Value) (ks : List Int) : Prop := Own w base 3 1 v ks.length (ivs ks)
def intsE (v : Value) (ks : List Int) : Ent := ⟨fun g => v.ownBlock = some g, fun w => OwI w 0 v ks, fun h k => Own.heap k h⟩
theorem int_info : (Try.prog.info? 3).map (fun i => (i.zero, i.size, i.bytes)) = some (some (.int .i64 0), 1, 8) := by kernel_rfl
theorem ivs_one (ks : List Int) : ∀ u ∈ ivs ks, u.oneCell' = true := by
  intro u hu
  obtain ⟨k, _, rfl⟩ := List.mem_map.mp hu
  rfl
theorem RdI.nil (w : World) : RdI w (.slice none 0 0) [] := Rd.nil
theorem RdI.form {w : World} {v : Value} {ks : List Int} (h : RdI w v ks) : ∃ A c, v = .slice A ks.length c ∧ ks.length ≤ c ∧ c ≤ 9223372036854775807 := by
  obtain ⟨_, A, c, hv, h1, h2, _⟩ := h
  exact ⟨A, c, hv, h1, h2⟩
theorem RdI.at_ {w : World} {A : Option Addr} {n c j : Nat} {ks : List Int} (h : RdI w (.slice A n c) ks) (hj : j < ks.length) : ∃ ad, A = some ad ∧ w.cell? (ad.add j) = some (.int .i64 ks[j]) := by
  obtain ⟨_, A', c', hv, _, _, h3⟩ := h
  injection hv with hA
  subst hA
  exact h3 j _ (by simp [ivs, hj])
theorem OwI.rd {w : World} {b : Nat} {v : Value} {ks : List Int} (h : OwI w b v ks) : RdI w v ks := Own.rd h
section laws
variable {w : World} {ops : Array Oper} {rest : List Oper} {o : Oper} {a : Act} {Q : Exit → Act → World → Prop}
theorem wp_append_I (hgd : o.guard = none) (s x : Operand)
    (ho : o.op = .call { callee := .builtin .append, args := #[s, x], argTypes := #[45, 45] })
    (base : Nat) (v : Value) (l : List Int) (hs : a.eval s = v) (hown : OwI w base v l)
    (vx : Value) (m : List Int) (hx : a.eval x = vx) (hr : RdI w vx m) (hsm : (l.length + m.length) * 8 ≤ 140737488355328) (hbase : base ≤ w.heap.size)
    (h : ∀ v' w', OwI w' base v' (l ++ m) → w.grownBy w' v.ownBlock → (v'.ownBlock = v.ownBlock ∨ v'.ownBlock = some w.heap.size) → wpList Try.prog ops Q rest (a.put o.dst v') w') :
    wpList Try.prog ops Q (o :: rest) a w := by
  obtain ⟨i, hi, hz0, hz1, hz2⟩ := info_parts int_info
  refine wp_append hgd s x _ _ ho base 3 i _ 1 8 Try.underlying45 hi hz0 hz1 hz2 rfl v l.length (ivs l) hs hown vx m.length (ivs m) hx (Rd.src w Try.underlying45 (by omega) hr (ivs_one m)) (by omega) (by omega) hbase ?_
  intro v' w' h1 h2 h3
  refine h v' w' ?_ h2 h3
  unfold OwI
  rw [List.length_append, ivs_append]
  exact h1
/-- append(l, n) of one integer that has just been laid. -/
theorem wp_append_I1 (hgd : o.guard = none) (s x : Operand)
    (ho : o.op = .call { callee := .builtin .append, args := #[s, x], argTypes := #[45, 45] })
    (base : Nat) (v : Value) (l : List Int) (hs : a.eval s = v) (hown : OwI w base v l)
    (y : Int) (T : TypeId) (hx : a.eval x = .slice (some ⟨w.heap.size, 0, none⟩) 1 1) (hsm : (l.length + 1) * 8 ≤ 140737488355328) (hbase : base ≤ w.heap.size)
    (h : ∀ v' w', OwI w' base v' (l ++ [y]) → w.grownBy w' v.ownBlock → (v'.ownBlock = v.ownBlock ∨ (v'.ownBlock = some (w.heap.size + 1))) → wpList Try.prog ops Q rest (a.put o.dst v') w') :
    wpList Try.prog ops Q (o :: rest) a (w.alloc (.cells #[.int .i64 y] T)) := by
  refine wp_append_I hgd s x ho base v l hs (Own.alloc hown _) (.slice (some ⟨w.heap.size, 0, none⟩) 1 1) [y] hx ?_ (by simpa using hsm) (by simp; omega) ?_
  · show Rd _ 1 _ 1 [.int .i64 y]
    exact Rd.one w (.int .i64 y) T
  · intro v' w' h1 h2 h3
    refine h v' w' h1 ⟨h2.os, h2.tape, h2.output, ?_, fun k hk hne => (h2.block k (by simp; omega) hne).trans (Below.heap_alloc _ _ _ hk)⟩ (by simpa using h3)
    have := h2.size
    simp at this; omega
/-- make([]int, n, c). -/
theorem wp_make_I (hg : o.guard = none) (l c : Operand) (hop : o.op = Op.makeSlice 45 l c)
    (n m : Nat) (hl : a.eval l = .int .i64 (n : Int)) (hc : a.eval c = .int .i64 (m : Int)) (hnm : n ≤ m) (hn : m ≤ 1099511627776)
    (hK : ∀ w', OBlk w' w.heap.size 3 (ivs (List.replicate m 0)) → Below w.heap.size w w' → w'.heap.size = w.heap.size + 1 → wpList Try.prog ops Q rest (a.put o.dst (.slice (some ⟨w.heap.size, 0, none⟩) n m)) w') :
    wpList Try.prog ops Q (o :: rest) a w := by
  obtain ⟨i, hi, hz0, hz1, hz2⟩ := info_parts int_info
  refine wpList_plain hg fun K hK' => ?_
  have hr := run_make (P := Try.prog) w 45 3 i _ Try.underlying45 hi hz0 .i64 .i64 n m (by omega) (by omega) (by rw [hz2]; omega) (by omega)
  unfold Oper.wp
  simp [execOp, hop, hl, hc, hr, Result.andThen]
  refine hK' _ _ (hK _ ?_ ((Below.refl _ _).alloc (Nat.le_refl _) _) (by simp))
  have e := toList_madeCells_one (.int .i64 0) m
  have := OBlk.new w 3 (madeCells #[.int .i64 0] m)
  rw [e] at this
  simpa [Value.cells, hz1, ivs] using this
end laws
section
variable {w0 w w' : World} {L : List Ent}
theorem Sep.ints {b : Nat} {v : Value} {l : List Int} (h : Sep w0 w L) (hb : Below w.heap.size w w') (ho : OwI w' b v l) (hB : w.heap.size ≤ b) : Sep w0 w' (intsE v l :: L) :=
  h.new hb (Own.low ho (Nat.zero_le _)) (fun g hg => ⟨Nat.le_trans hB (Own.lt ho g hg).1, (Own.lt ho g hg).2⟩)
end
end Go.Proofs.Ytgnhakgfgdelpaa
