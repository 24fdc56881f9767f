/- Lists of integers as pieces: new ones, cells set, appended. -/
import Derived.Test.YtgnhakgfgdelpaaInts
namespace Go.Proofs.Ytgnhakgfgdelpaa
open Go.RowKit
theorem ivs_take (l : List Int) (n : Nat) : ivs (l.take n) = (ivs l).take n := by simp [ivs]
theorem ivs_set (l : List Int) (j : Nat) (x : Int) : ivs (l.set j x) = (ivs l).set j (.int .i64 x) := by simp [ivs, List.map_set]
theorem OBlk.owI {w : World} {g base n : Nat} {m : List Int} (h : OBlk w g 3 (ivs m)) (hb : base ≤ g) (hm : m.length ≤ maxLen) (hn : n ≤ m.length) : OwI w base (.slice (some ⟨g, 0, none⟩) n m.length) (m.take n) := by
  have e : (m.take n).length = n := by simp; omega
  refine ⟨by simp [ivs_length], .inr ⟨g, m.length, ivs m, by rw [e], hb, h, by rw [e]; exact hn, hm, by simp [ivs_length], ?_⟩⟩
  rw [ivs_take, e, Nat.mul_one]
theorem Own.some_ {w : World} {b n sz : Nat} {T : TypeId} {v : Value} {xs : List Value} (h : Own w b T sz v n xs) (h0 : 0 < n) : ∃ g c, v = .slice (some ⟨g, 0, none⟩) n c := by
  rcases h.form with ⟨_, rfl⟩ | ⟨g, c, rfl, _⟩
  · omega
  · exact ⟨_, _, rfl⟩
theorem OwI.cell {w : World} {base g n cap j : Nat} {l : List Int} (h : OwI w base (.slice (some ⟨g, 0, none⟩) n cap) l) (hj : j < l.length) : w.cell? ⟨g, j, none⟩ = some (.int .i64 l[j]) := by
  have hn : n = l.length := by obtain ⟨A, c, hv⟩ := Own.slice h; injection hv
  subst hn
  exact Own.cells h j _ (by simp [ivs, hj])
theorem OwI.frozen {w : World} {base g n cap j : Nat} {l : List Int} (h : OwI w base (.slice (some ⟨g, 0, none⟩) n cap) l) (hj : j < l.length) : w.frozen? ⟨g, j, none⟩ = false := by
  have hn : n = l.length := by obtain ⟨A, c, hv⟩ := Own.slice h; injection hv
  subst hn
  exact Own.frozen h (by simpa [ivs] using hj)
theorem OwI.set {w : World} {base g n cap : Nat} {l : List Int} (h : OwI w base (.slice (some ⟨g, 0, none⟩) n cap) l) (j : Nat) (x : Int) : OwI (w.setCell ⟨g, j, none⟩ (.int .i64 x)) base (.slice (some ⟨g, 0, none⟩) n cap) (l.set j x) := by
  have hn : n = l.length := by obtain ⟨A, c, hv⟩ := Own.slice h; injection hv
  subst hn
  unfold OwI
  rw [List.length_set, ivs_set]
  exact Own.set h j _
section
variable {w0 w w' : World} {L : List Ent}
theorem Sep.setInt {g n cap : Nat} {l : List Int} (h : Sep w0 w (intsE (.slice (some ⟨g, 0, none⟩) n cap) l :: L)) (j : Nat) (x : Int) : Sep w0 (w.setCell ⟨g, j, none⟩ (.int .i64 x)) (intsE (.slice (some ⟨g, 0, none⟩) n cap) (l.set j x) :: L) :=
  h.upd (Turn.of_grown (grownBy_setCell w ⟨g, j, none⟩ _) (fun _ e => e)) (OwI.set h.head j x) (fun b hb => ⟨.inl hb, by have h' := h.lt b hb; simpa using h'⟩)
theorem Sep.nilI (h : Sep w0 w L) : Sep w0 w (intsE (.slice none 0 0) [] :: L) :=
  h.cons (Own.nil w 0 _ _) (fun g hg => by cases hg) (fun _ _ g hg => by cases hg)
theorem Sep.appI {v v' : Value} {l m : List Int} (h : Sep w0 w (intsE v l :: L)) (ho : OwI w' 0 v' m) (hg : w.grownBy w' v.ownBlock) (hk : v'.ownBlock = v.ownBlock ∨ ∃ k, v'.ownBlock = some k ∧ w.heap.size ≤ k) : Sep w0 w' (intsE v' m :: L) :=
  h.upd (Turn.of_grown hg (fun _ e => e)) ho (fun g hg' => ⟨by
    rcases hk with e | ⟨k, e, hk⟩
    · exact .inl (e.symm.trans hg' : v.ownBlock = some g)
    · right
      have := e.symm.trans hg'
      injection this with this
      omega, (Own.lt ho g hg').2⟩)
end
end Go.Proofs.Ytgnhakgfgdelpaa
