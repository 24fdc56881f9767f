/- Bytes that grow, as pieces. -/
import Derived.Test.YtgnhakgfgdelpaaSep
namespace Go.Proofs.Ytgnhakgfgdelpaa
open Go.RowKit
/-- An append to bytes of the call's own, in the words of pieces. -/
theorem Sep.appended {w0 w w' : World} {v v' : Value} {l m : List UInt8} {L : List Ent} (h : Sep w0 w (bytesE v l :: L)) (ho : OwB w' 0 v' m) (hg : w.grownBy w' v.ownBlock) (hk : v'.ownBlock = v.ownBlock ∨ v'.ownBlock = some w.heap.size) : Sep w0 w' (bytesE v' m :: L) :=
  h.upd (Turn.of_grown hg (fun _ e => e)) ho (fun g hg' => ⟨by
    rcases hk with e | e
    · exact .inl (e.symm.trans hg' : v.ownBlock = some g)
    · right
      have := e.symm.trans hg'
      injection this with this
      omega, (Own.lt ho g hg').2⟩)
theorem Sep.nil {w0 w : World} {L : List Ent} (h : Sep w0 w L) : Sep w0 w (bytesE (.slice none 0 0) [] :: L) :=
  h.cons (OwB.nil w 0) (fun g hg => by cases hg) (fun _ _ g hg => by cases hg)
end Go.Proofs.Ytgnhakgfgdelpaa
