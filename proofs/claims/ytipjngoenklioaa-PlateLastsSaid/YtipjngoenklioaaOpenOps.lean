/- Scripts over devices (espalierlaw03.Op): an argument of type []Op. -/
import Derived.Test.YtipjngoenklioaaOpenTrod
import Derived.Test.YtipjngoenklioaaPlaClone
namespace Go.Proofs.Ytipjngoenklioaa
open Go.RowKit Go.WideShapes Go.ChangeShapes Go.Deep
structure OpV where
  kind : Int
  on : Int
  n : Int
  byte : UInt8
  dv : Value
  data : List UInt8
  kv : Value
  keep : List Int
  torn : Int
  at_ : Int
instance : Inhabited OpV := ⟨⟨0, 0, 0, 0, .slice none 0 0, [], .slice none 0 0, [], 0, 0⟩⟩
def OpV.cells (o : OpV) : List Value := [.int .i64 o.kind, .int .i64 o.on, .int .i64 o.n, .int .u8 (o.byte.toNat : Int), o.dv, o.kv, .int .i64 o.torn, .int .i64 o.at_]
def i64r (n : Int) : Prop := -9223372036854775808 ≤ n ∧ n ≤ 9223372036854775807
structure OpV.ok (W : World) (o : OpV) : Prop where
  d : RdB W o.dv o.data
  k : RdI W o.kv o.keep
  kr : ∀ x ∈ o.keep, i64r x
  r0 : i64r o.kind
  r1 : i64r o.on
  r2 : i64r o.n
  r3 : i64r o.torn
  r4 : i64r o.at_
structure RdOps (W : World) (v : Value) (l : List OpV) : Prop where
  form : ∃ A c, v = .slice A l.length c ∧ l.length ≤ c ∧ c ≤ maxLen ∧ ∀ i (h : i < l.length), ∃ ad, A = some ad ∧ ∀ r u, l[i].cells[r]? = some u → W.cell? (ad.add (i * 8 + r)) = some u
  ok : ∀ o ∈ l, o.ok W
section
variable {H : Type} {enc : TypeId × Value → H} {W : World}
theorem cells_Op : Try.prog.cellsOf 33 = 8 := by kernel_rfl
theorem bytes_Op : Try.prog.bytesOf 33 = 96 := by kernel_rfl
theorem open_op {fuel : Nat} {cs : List Value} {x : DataW H × List MemPlace} (h : DataW.trod enc Try.prog W 0 (fun _ => true) true fuel 33 cs = some x) :
    ∃ o : OpV, cs = o.cells ∧ o.ok W ∧ ∃ y0 y1 y2 y3 y4 y5 y6 y7, x.1 = .agg [y0, y1, y2, y3, y4, .agg [y5, y6, y7]] ∧ ((y4 = .nil ∧ o.data = []) ∨ ∃ e s, y4 = .slice e s ∧ o.data.length ≤ e.length + s.length) ∧ ((y5 = .nil ∧ o.keep = []) ∨ ∃ e s, y5 = .slice e s ∧ o.keep.length ≤ e.length + s.length) := by
  obtain ⟨xs, n, _, rfl, hcl, hxl, hg⟩ := DataW.trod_struct Try.underlying33 h
  rw [cells_Op] at hcl
  match cs, hcl with
  | [c0, c1, c2, c3, c4, c5, c6, c7], _ =>
    match xs, hxl with
    | [z0, z1, z2, z3, z4, z5], _ =>
      have g0 := hg 0 _ rfl
      have g1 := hg 1 _ rfl
      have g2 := hg 2 _ rfl
      have g3 := hg 3 _ rfl
      have g4 := hg 4 _ rfl
      have g5 := hg 5 _ rfl
      obtain ⟨k, e0, r0⟩ := trod_i64 (cs := [c0]) g0
      obtain ⟨on, e1, r1⟩ := trod_i64 (cs := [c1]) g1
      obtain ⟨nn, e2, r2⟩ := trod_i64 (cs := [c2]) g2
      obtain ⟨b, e3⟩ := trod_u8 (cs := [c3]) g3
      obtain ⟨dv, data, e4, hd, w4⟩ := trod_bytes (cs := [c4]) g4
      obtain ⟨ys, m, _, e5, _, hyl, hh⟩ := DataW.trod_struct (cs := [c5, c6, c7]) Try.underlying31 g5
      match ys, hyl with
      | [q0, q1, q2], _ =>
        have f0 := hh 0 _ rfl
        have f1 := hh 1 _ rfl
        have f2 := hh 2 _ rfl
        obtain ⟨kv, keep, e6, hk, kr, w6⟩ := trod_ints (cs := [c5]) f0
        obtain ⟨tn, e7, r3⟩ := trod_i64 (cs := [c6]) f1
        obtain ⟨at_, e8, r4⟩ := trod_i64 (cs := [c7]) f2
        injection e0 with e0
        injection e1 with e1
        injection e2 with e2
        injection e3 with e3
        injection e4 with e4
        injection e6 with e6
        injection e7 with e7
        injection e8 with e8
        subst e0 e1 e2 e3 e4 e6 e7 e8
        refine ⟨⟨k, on, nn, b, c4, data, c5, keep, tn, at_⟩, rfl, ⟨hd, hk, kr, r0, r1, r2, r3, r4⟩, z0.1, z1.1, z2.1, z3.1, z4.1, q0.1, q1.1, q2.1, ?_, w4, w6⟩
        rw [e5]
        rfl
theorem open_ops {base : Nat} {v : Value} {d : DataW H} {p : List MemPlace} {ts : List TypeId} {ds : List (DataW H)} {j : Nat} (hv : Value.okWide Try.prog W .any base 23 v) (h : DataW.Trod enc Try.prog W 0 (fun _ => true) true 23 v d p)
    (hsz : (DataW.weightsEach Try.prog ts ds).all (· ≤ reachBytes) = true) (ht : ts[j]? = some 23) (hd : ds[j]? = some d) :
    ∃ l : List OpV, RdOps W v l ∧ l.length * 96 ≤ 140737488351232 ∧ ∀ o ∈ l, o.data.length ≤ 140737488351232 ∧ o.keep.length * 8 ≤ 140737488351232 := by
  obtain ⟨a0, len, cap, rfl⟩ := okWide_slice Try.underlying23 hv
  obtain ⟨fuel, hf⟩ := h
  rcases open_slice Try.underlying23 hf with ⟨hcs, _⟩ | ⟨a, len', cap', m, n, D, Pl, hcs, _, hl, hm, hmm, hx, hi⟩
  · simp [Value.cells] at hcs
    obtain ⟨rfl, rfl, rfl⟩ := hcs
    exact ⟨[], ⟨⟨none, 0, rfl, by simp, by simp, fun i hi => by simp at hi⟩, by simp⟩, by simp, by simp⟩
  · simp [Value.cells] at hcs
    obtain ⟨rfl, rfl, rfl⟩ := hcs
    simp only [if_true] at hmm
    subst hmm
    simp only [Prod.mk.injEq] at hx
    obtain ⟨rfl, _⟩ := hx
    have key : ∀ i, i < m → ∃ o : OpV, (∀ r u, o.cells[r]? = some u → W.cell? (a.add (i * 8 + r)) = some u) ∧ o.ok W ∧ ∃ y0 y1 y2 y3 y4 y5 y6 y7, D i = .agg [y0, y1, y2, y3, y4, .agg [y5, y6, y7]] ∧ ((y4 = .nil ∧ o.data = []) ∨ ∃ e s, y4 = .slice e s ∧ o.data.length ≤ e.length + s.length) ∧ ((y5 = .nil ∧ o.keep = []) ∨ ∃ e s, y5 = .slice e s ∧ o.keep.length ≤ e.length + s.length) := fun i him => by
      obtain ⟨cs', hc, ht'⟩ := hi i him
      obtain ⟨o, rfl, hok, hy⟩ := open_op ht'
      refine ⟨o, fun r u hu => ?_, hok, hy⟩
      obtain ⟨_, hcl, hat⟩ := World.cells?_some hc
      have hr : r < Try.prog.cellsOf 33 := by
        have := (List.getElem?_eq_some_iff.1 hu).1
        rw [← hcl]; exact this
      have := hat r hr
      rw [cells_Op] at this
      rw [← add_of_add, this, hu]
    obtain ⟨f, hf'⟩ := choose_lt key
    refine ⟨(List.range len).map f, ⟨⟨some a, m, by simp, by simpa using hl, hm, fun i hi' => ⟨a, rfl, ?_⟩⟩, ?_⟩, ?_, ?_⟩
    · have hil : i < len := by simpa using hi'
      simpa using (hf' i (by omega)).1
    · intro o ho
      obtain ⟨i, hi', rfl⟩ := List.mem_map.1 ho
      have := List.mem_range.1 hi'
      exact (hf' i (by omega)).2.1
    · have hs := sized_slice hsz ht hd Try.underlying23
      rw [bytes_Op] at hs
      simp only [List.length_map, List.length_range, reachBytes] at hs
      simp only [List.length_map, List.length_range]
      omega
    · intro o ho
      obtain ⟨i, hi', rfl⟩ := List.mem_map.1 ho
      have hil := List.mem_range.1 hi'
      obtain ⟨_, _, y0, y1, y2, y3, y4, y5, y6, y7, hD, w4, w5⟩ := hf' i (by omega)
      have hin : ∀ k ∈ (D i).weights Try.prog 33, k ≤ reachBytes := fun k hk => by
        have h1 := weightsAll_in (P := Try.prog) (e := 33) (List.mem_map.2 ⟨i, hi', rfl⟩ : D i ∈ (List.range len).map D) k hk
        have h2 := List.all_eq_true.1 hsz k (DataW.weights_mem_each ht hd _ (by
          simp only [DataW.weights, Try.underlying23]
          exact List.mem_cons.2 (.inr (List.mem_append.2 (.inl h1)))))
        simpa using h2
      rw [hD] at hin
      constructor
      · rcases w4 with ⟨_, e⟩ | ⟨e, s, rfl, hle⟩
        · rw [e]; simp
        · have := hin ((e.length + s.length) * Try.prog.bytesOf 5) (by
            simp only [DataW.weights, Try.underlying33]
            refine DataW.weights_mem_each (j := 4) rfl rfl _ ?_
            simp only [DataW.weights, Try.underlying28]
            exact List.mem_cons.2 (.inl rfl))
          rw [bytes_u8] at this
          simp only [reachBytes] at this
          omega
      · rcases w5 with ⟨_, e⟩ | ⟨e, s, rfl, hle⟩
        · rw [e]; simp
        · have := hin ((e.length + s.length) * Try.prog.bytesOf 3) (by
            simp only [DataW.weights, Try.underlying33]
            refine DataW.weights_mem_each (j := 5) rfl rfl _ ?_
            simp only [DataW.weights, Try.underlying31]
            refine DataW.weights_mem_each (j := 0) rfl rfl _ ?_
            simp only [DataW.weights, Try.underlying29]
            exact List.mem_cons.2 (.inl rfl))
          rw [bytes_int] at this
          simp only [reachBytes] at this
          omega
end
end Go.Proofs.Ytipjngoenklioaa
