/- Step laws for regions that draw: string(bytes). -/
import Derived.Test.YtgnhakgfgdelpaaMem2
namespace Go.Proofs.Ytgnhakgfgdelpaa
open Go.RowKit
section laws
variable {w : World} {ops : Array Oper} {o : Oper} {a : Act} {Q : Exit → Act → World → Prop}
theorem step_B_string {K : Act → World → Prop} {E : Prop} (hgd : o.guard = none) (x : Operand) (ho : o.op = .convert 25 9 x) (v : Value) (l : List UInt8) (hx : a.eval x = v) (hr : RdB w v l)
    (h : K (a.put o.dst (.string ⟨l.toArray⟩)) w) :
    if Region.wanted o (yielded ops a.tmps) = true then Oper.wp Try.prog o a w K Q else E := by
  have hw : Region.wanted o (yielded ops a.tmps) = true := by simp [Region.wanted, hgd]
  rw [if_pos hw]
  have hrun := run_B_string hr
  unfold Oper.wp
  simp [execOp, ho, hx, hrun, Result.andThen, Oper.upon]
  exact h
/-- .. of an operation that is guarded, where it is wanted. -/
theorem step_B_string_w {K : Act → World → Prop} {E : Prop} (x : Operand) (ho : o.op = .convert 25 9 x) (hw : Region.wanted o (yielded ops a.tmps) = true) (v : Value) (l : List UInt8) (hx : a.eval x = v) (hr : RdB w v l)
    (h : K (a.put o.dst (.string ⟨l.toArray⟩)) w) :
    if Region.wanted o (yielded ops a.tmps) = true then Oper.wp Try.prog o a w K Q else E := by
  rw [if_pos hw]
  have hrun := run_B_string hr
  unfold Oper.wp
  simp [execOp, ho, hx, hrun, Result.andThen, Oper.upon]
  exact h
/-- append(l, m...) of bytes in a region, where it is wanted. -/
theorem step_append_B_w {K : Act → World → Prop} {E : Prop} (s x : Operand)
    (ho : o.op = .call { callee := .builtin .append, args := #[s, x], argTypes := #[25, 25] }) (hw : Region.wanted o (yielded ops a.tmps) = true)
    (base : Nat) (v : Value) (l : List UInt8) (hs : a.eval s = v) (hown : OwB w base v l)
    (vx : Value) (m : List UInt8) (hx : a.eval x = vx) (hr : RdB w vx m) (hsm : l.length + m.length ≤ 140737488355328) (hbase : base ≤ w.heap.size)
    (h : ∀ v' w', OwB w' base v' (l ++ m) → w.grownBy w' v.ownBlock → (v'.ownBlock = v.ownBlock ∨ v'.ownBlock = some w.heap.size) → K (a.put o.dst v') w') :
    if Region.wanted o (yielded ops a.tmps) = true then Oper.wp Try.prog o a w K Q else E := by
  rw [if_pos hw]
  obtain ⟨i, hi, hz0, hz1, hz2⟩ := info_parts u8_info
  obtain ⟨v', w', hr, h2, h3, h4⟩ := run_append_Own (P := Try.prog) w base _ 25 o.type 5 i _ 1 1 Try.underlying25 hi hz0 hz1 hz2 rfl v l.length (bvs l) hown vx m.length (bvs m) (Rd.src w Try.underlying25 (by omega) hr.rd (bvs_one m)) (by omega) hsm hbase
  unfold Oper.wp execOp
  simp only [ho, resolve, invoke, builtin, Sem.run_bind, Sem.run_pure, Result.andThen_ok, List.map_toArray, List.map_cons, List.map_nil, hs, hx, hr]
  refine h v' w' ?_ h3 h4
  unfold OwB
  rw [List.length_append, bvs_append]
  exact h2
end laws
theorem step_append_B {w : World} {ops : Array Oper} {o : Oper} {a : Act} {Q : Exit → Act → World → Prop} {K : Act → World → Prop} {E : Prop} (hgd : o.guard = none) (s x : Operand)
    (ho : o.op = .call { callee := .builtin .append, args := #[s, x], argTypes := #[25, 25] })
    (base : Nat) (v : Value) (l : List UInt8) (hs : a.eval s = v) (hown : OwB w base v l)
    (vx : Value) (m : List UInt8) (hx : a.eval x = vx) (hr : RdB w vx m) (hsm : l.length + m.length ≤ 140737488355328) (hbase : base ≤ w.heap.size)
    (h : ∀ v' w', OwB w' base v' (l ++ m) → w.grownBy w' v.ownBlock → (v'.ownBlock = v.ownBlock ∨ v'.ownBlock = some w.heap.size) → K (a.put o.dst v') w') :
    if Region.wanted o (yielded ops a.tmps) = true then Oper.wp Try.prog o a w K Q else E :=
  step_append_B_w s x ho (by simp [Region.wanted, hgd]) base v l hs hown vx m hx hr hsm hbase h
end Go.Proofs.Ytgnhakgfgdelpaa
