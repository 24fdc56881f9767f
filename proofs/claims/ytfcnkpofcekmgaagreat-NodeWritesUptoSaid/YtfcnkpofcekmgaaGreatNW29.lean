/- espalierlaw08.NodeWrites: the statement 'NodeWritesUptoSaid' is proved: whatever the input of bulk at most 1048576, the law returns true and the input reads as it did. -/
import Derived.Test.YtfcnkpofcekmgaaGreatNW11
import Derived.Test.YtfcnkpofcekmgaaGreatNW28
import Derived.Test.YtfcnkpofcekmgaaGreatRows
import Derived.Carry
import Derived.JoinedCond
-- An argument of type []api.Cell, of bulk at most the bound.
namespace Go.Proofs.YtfcnkpofcekmgaaGreat
open Go.RowKit Go.WideShapes Go.ChangeShapes Go.Deep
section
variable {H : Type} {enc : TypeId × Value → H} {W : World}
set_option maxRecDepth 100000 in
theorem open_cells_upto {base : Nat} {v : Value} {d : DataW H} {p : List MemPlace} {ds : List (DataW H)} {j : Nat} (hv : Value.okWide Tryz.prog W .any base 32 v) (h : DataW.Trod enc Tryz.prog W 0 (fun _ => true) true 32 v d p)
    (hk : Rows.uptoBulkAll ds ≤ 1048576) (hd : ds[j]? = some d) :
    ∃ l : List CV, RdCs W v l ∧ l.length ≤ 1048576 ∧ ∀ o ∈ l, o.c.key.length ≤ 1048576 ∧ o.c.val.length ≤ 1048576 := by
  obtain ⟨a0, len, cap, rfl⟩ := okWide_slice Tryz.underlying32 hv
  have hbd := bulkU_mem (List.mem_of_getElem? hd)
  obtain ⟨fuel, hf⟩ := h
  rcases open_slice Tryz.underlying32 hf with ⟨hcs, _⟩ | ⟨a, len', cap', m, n, D, Pl, hcs, _, hl, hm, hmm, hx, hi⟩
  · simp [Value.cells] at hcs
    obtain ⟨rfl, rfl, rfl⟩ := hcs
    exact ⟨[], ⟨Rd.nil, by simp⟩, by simp, by simp⟩
  · simp [Value.cells] at hcs
    obtain ⟨rfl, rfl, rfl⟩ := hcs
    simp only [if_true] at hmm
    subst hmm
    simp only [Prod.mk.injEq] at hx
    obtain ⟨rfl, _⟩ := hx
    have key : ∀ i, i < m → ∃ o : CV, (∀ r u, o.cells[r]? = some u → W.cell? (a.add (i * 5 + r)) = some u) ∧ o.ok W ∧ ∃ y0 y1 y2 y3 y4, D i = .agg [y0, y1, y2, y3, y4] ∧ ((y0 = .nil ∧ o.c.key = []) ∨ ∃ e s, y0 = .slice e s ∧ o.c.key.length ≤ e.length + s.length) ∧ ((y2 = .nil ∧ o.c.val = []) ∨ ∃ e s, y2 = .slice e s ∧ o.c.val.length ≤ e.length + s.length) := fun i him => by
      obtain ⟨cs', hc, ht'⟩ := hi i him
      obtain ⟨o, rfl, hok, hy⟩ := open_cell ht'
      refine ⟨o, fun r u hu => ?_, hok, hy⟩
      obtain ⟨_, hcl, hat⟩ := World.cells?_some hc
      have hr : r < Tryz.prog.cellsOf 43 := by
        have := (List.getElem?_eq_some_iff.1 hu).1
        rw [← hcl]; exact this
      have := hat r hr
      rw [cells_Cell] at this
      rw [← add_of_add, this, hu]
    obtain ⟨f, hf'⟩ := choose_lt key
    have hlen : ((List.range len).map f).length = len := by simp
    refine ⟨(List.range len).map f, ⟨⟨by rw [flatC_length], some a, m, by rw [hlen], by rw [hlen]; exact hl, hm, fun j u hj => ⟨a, rfl, ?_⟩⟩, ?_⟩, ?_, ?_⟩
    · have hjl : j < len * 5 := by
        have := (List.getElem?_eq_some_iff.1 hj).1
        rw [flatC_length, hlen] at this; exact this
      have hil : j / 5 < len := Nat.div_lt_of_lt_mul (by omega)
      have hjj : j = j / 5 * 5 + j % 5 := by omega
      rw [hjj, flatC_at _ (j / 5) (j % 5) (by rw [hlen]; exact hil) (Nat.mod_lt _ (by omega))] at hj
      rw [hjj]
      refine (hf' (j / 5) (by omega)).1 (j % 5) u ?_
      simpa using hj
    · intro o ho
      obtain ⟨i, hi', rfl⟩ := List.mem_map.1 ho
      have := List.mem_range.1 hi'
      exact (hf' i (by omega)).2.1
    · have hs := Nat.le_trans (bulk_places _ _) hbd
      simp only [List.length_map, List.length_range] at hs
      simp only [List.length_map, List.length_range]
      omega
    · intro o ho
      obtain ⟨i, hi', rfl⟩ := List.mem_map.1 ho
      have hil := List.mem_range.1 hi'
      obtain ⟨_, _, y0, y1, y2, y3, y4, hD, w4, w5⟩ := hf' i (by omega)
      have hmem : D i ∈ (List.range len).map D := List.mem_map.2 ⟨i, hi', rfl⟩
      have h7 := bulkU_mem hmem
      simp only [Rows.uptoBulk] at hbd
      rw [hD] at h7
      simp only [Rows.uptoBulk, Rows.uptoBulkAll] at h7
      constructor
      · rcases w4 with ⟨_, e⟩ | ⟨e, s, rfl, hle⟩
        · rw [e]; simp
        · have := bulk_places e s
          omega
      · rcases w5 with ⟨_, e⟩ | ⟨e, s, rfl, hle⟩
        · rw [e]; simp
        · have := bulk_places e s
          omega
end
theorem bigK_of_each : ∀ {l : List CV} (_ : ∀ o ∈ l, o.c.key.length ≤ 1048576 ∧ o.c.val.length ≤ 1048576), bigK (pcs l) ≤ l.length * 2100000
  | [], _ => by simp [pcs, bigK]
  | x :: r, h => by
    have h1 := bigK_of_each (l := r) (fun o ho => h o (List.mem_cons_of_mem _ ho))
    have h2 := h x (List.mem_cons_self ..)
    have e : bigK (pcs (x :: r)) = 33 + x.c.key.length + x.c.val.length + bigK (pcs r) := rfl
    rw [e, List.length_cons]
    omega
end Go.Proofs.YtfcnkpofcekmgaaGreat

-- espalierlaw08.NodeWrites: the statement 'NodeWritesUptoSaid' is proved: whatever the input of bulk at most 1048576, the law returns true and the input reads as it did.
namespace Go.Proofs.YtfcnkpofcekmgaaGreat.nodeWrites
open Go.ChangeShapes Go.WideShapes Go.ChangeAt Go.RowKit
theorem own : ownKnob Tryz.prog.godebug = none := by kernel_rfl
theorem laidOut : laidOutB Tryz.prog = true := by kernel_rfl
set_option maxRecDepth 100000 in
theorem lifted (os : Os) (started : os.Started) (H : Type) (enc : TypeId × Value → H) (F : Stop.Interp) :
    ReturnsInHanded {} Tryz.checked os 6 .any ((Rows.OpenSpec.upto Rows.nodeWritesSpec).pre6 enc Tryz.prog Tryz.f6 Rows.nodeWritesUptoRow.domain false) (((Rows.OpenSpec.upto Rows.nodeWritesSpec).at F).post enc Tryz.prog Tryz.f6 false true false false) := by
  refine law_lifts_upto (s := Rows.nodeWritesSpec) (C := Tryz.checked) (tb := 4) own started (by kernel_rfl) Tryz.func6
    (OpenSpec.witness (enc := enc) (C := Tryz.checked) (s := Rows.OpenSpec.upto Rows.nodeWritesSpec) (k := Rows.uptoSmall) rfl false ⟨#[], #[.int .i64 0, .int .i64 0, .slice none 0 0, .int .i64 0], []⟩ 8 (by kernel_rfl) (by kernel_rfl) (by kernel_rfl)
      (x := ([.lit (.int .i64 0), .lit (.int .i64 0), .nil, .lit (.int .i64 0)], [], [])) (by kernel_rfl) rfl (by kernel_rfl))
    rfl rfl Tryz.underlying4 laidOut (by kernel_rfl) (fun ds hd => ?_) ?_
  · match ds, hd with
    | [d0, d1, d2, d3], _ => rfl
  · intro W base args ds p hval0 hA0 hsz0
    have hval : ∀ (j : Nat) t v, Tryz.f6.params[j]? = some t → args[j]? = some v → Value.okWide Tryz.prog W .any base t v := hval0
    have hA : DataW.TrodAll enc Tryz.prog W 0 (fun _ => true) true Tryz.f6.params.toList args.toList ds p := hA0
    have hk : Rows.uptoBulkAll ds ≤ 1048576 := hsz0
    clear hval0 hA0 hsz0
    rw [Tryz.params6] at hA hval
    obtain ⟨v0, v1, v2, v3, d0, d1, d2, d3, p0, p1, p2, p3, rfl, rfl, rfl, h0, h1, h2, h3⟩ := trodAll_four hA
    obtain ⟨n0, rfl, _, _, _⟩ := open_int Tryz.underlying3 (hval 0 _ v0 rfl rfl) h0
    obtain ⟨n1, rfl, _, _, _⟩ := open_int Tryz.underlying3 (hval 1 _ v1 rfl rfl) h1
    obtain ⟨l, hl, hn, hs⟩ := open_cells_upto (j := 2) (hval 2 _ v2 rfl rfl) h2 hk rfl
    obtain ⟨n3, rfl, _, _, hw3⟩ := open_int Tryz.underlying3 (hval 3 _ v3 rfl rfl) h3
    exact nwrites_any n0 n1 v2 l n3 (wf_i64 hw3) W hl hn (by have := bigK_of_each hs; omega)
theorem proved : Rows.NodeWritesUptoSaid :=
  OpenClaim.holds_of_cond 6 Tryz.f6 rfl rfl rfl rfl rfl rfl rfl ⟨rfl, rfl, rfl, rfl, rfl⟩ rfl rfl rfl rfl rfl (by kernel_rfl) Tryz.func6 (by kernel_rfl)
    (of_decide_eq_true (by kernel_rfl)) (by unfold Func.isWrapper; first | (rw [if_pos (by decide +kernel)]; kernel_rfl) | (rw [if_neg (by decide +kernel)]; exact ⟨rfl, rfl⟩))
    (fun os started H enc _ F => lifted os started H enc F)
end Go.Proofs.YtfcnkpofcekmgaaGreat.nodeWrites
