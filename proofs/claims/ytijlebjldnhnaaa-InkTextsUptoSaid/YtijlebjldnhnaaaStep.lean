/- Step laws for regions that draw: string(bytes). -/
import Derived.Test.YtijlebjldnhnaaaMem2
namespace Go.Proofs.Ytijlebjldnhnaaa
open Go.RowKit
section laws
variable {w : World} {ops : Array Oper} {o : Oper} {a : Act} {Q : Exit → Act → World → Prop}
theorem step_B_string {K : Act → World → Prop} {E : Prop} (hgd : o.guard = none) (x : Operand) (ho : o.op = .convert 24 9 x) (v : Value) (l : List UInt8) (hx : a.eval x = v) (hr : RdB w v l)
    (h : K (a.put o.dst (.string ⟨l.toArray⟩)) w) :
    if Region.wanted o (yielded ops a.tmps) = true then Oper.wp Try.prog o a w K Q else E := by
  have hw : Region.wanted o (yielded ops a.tmps) = true := by simp [Region.wanted, hgd]
  rw [if_pos hw]
  have hrun := run_B_string hr
  unfold Oper.wp
  simp [execOp, ho, hx, hrun, Result.andThen, Oper.upon]
  exact h
end laws
end Go.Proofs.Ytijlebjldnhnaaa
