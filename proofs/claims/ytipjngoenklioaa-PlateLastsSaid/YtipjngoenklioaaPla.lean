/- Devices of pages: the state, and where it lies. -/
import Derived.Test.YtipjngoenklioaaFoot
namespace Go.Proofs.Ytipjngoenklioaa
open Go.RowKit Go.WideShapes
/-! ### the last loose write to a page -/
def lastA : Nat → List (Nat × List UInt8) → Int → Option Nat
  | _, [], _ => none
  | k, x :: r, n => match lastA (k + 1) r n with
    | some i => some i
    | none => if (x.1 : Int) = n then some k else none
def lastI (ws : List (Nat × List UInt8)) (n : Int) : Option Nat := lastA 0 ws n
theorem lastA_snoc (x : Nat × List UInt8) (n : Int) : ∀ (ws : List (Nat × List UInt8)) (k : Nat), lastA k (ws ++ [x]) n = if (x.1 : Int) = n then some (k + ws.length) else lastA k ws n
  | [], k => by simp [lastA]
  | y :: r, k => by
    rw [List.cons_append, lastA, lastA_snoc x n r (k + 1)]
    by_cases h : (x.1 : Int) = n
    · rw [if_pos h, if_pos h]
      simp; omega
    · rw [if_neg h, if_neg h, lastA]
theorem lastI_snoc (ws : List (Nat × List UInt8)) (x : Nat × List UInt8) (n : Int) : lastI (ws ++ [x]) n = if (x.1 : Int) = n then some ws.length else lastI ws n := by
  unfold lastI; rw [lastA_snoc]; simp
theorem lastA_some {n : Int} {i : Nat} : ∀ {ws : List (Nat × List UInt8)} {k : Nat}, lastA k ws n = some i → k ≤ i ∧ ∃ h : i - k < ws.length, (ws[i - k].1 : Int) = n
  | [], k, h => by simp [lastA] at h
  | y :: r, k, h => by
    rw [lastA] at h
    split at h
    · rename_i j hj
      injection h with h
      subst h
      obtain ⟨h1, h2, h3⟩ := lastA_some hj
      refine ⟨by omega, by simp; omega, ?_⟩
      have e : j - k = (j - (k + 1)) + 1 := by omega
      simp only [e, List.getElem_cons_succ]
      exact h3
    · split at h
      · rename_i hx
        injection h with h
        subst h
        refine ⟨Nat.le_refl _, by simp, ?_⟩
        simpa using hx
      · cases h
theorem lastI_some {ws : List (Nat × List UInt8)} {n : Int} {i : Nat} (h : lastI ws n = some i) : ∃ h : i < ws.length, (ws[i].1 : Int) = n := by
  have := (lastA_some h).2
  simpa using this
/-- The map reads as the last writes. -/
def LastD (D : DataW Unit) (ws : List (Nat × List UInt8)) : Prop :=
  Maps.IsMap D ∧ ∀ n : Int, Maps.has D (.int .i64 n) = (lastI ws n).isSome ∧ ∀ i, lastI ws n = some i → ∀ z, D.atKey (.int .i64 n) z = .lit (.int .i64 (i : Int))
theorem LastD.nil : LastD (.map []) [] := ⟨Maps.isMap_empty, fun n => ⟨rfl, fun i h => by simp [lastI, lastA] at h⟩⟩
def MapAt (w : World) (mb : Nat) (ws : List (Nat × List UInt8)) : Prop := ∃ D : DataW Unit, w.ownsMap Try.prog 3 (plainElem Try.prog 3) mb ws.length D ∧ LastD D ws
theorem intKeyed : Maps.Keyed Try.prog 3 := Maps.int_keyed Try.underlying3
theorem wf_nat {n : Nat} (h : n < 9223372036854775808) : (Lit.int .i64 (n : Int)).wf = true := by
  simp [Lit.wf, IntKind.min, IntKind.max, IntKind.signed, IntKind.bits]; omega
theorem key_nat {n : Nat} (h : n < 9223372036854775808) : keyOf Try.prog 3 (.int .i64 (n : Int)) = some (.int .i64 (n : Int)) := Maps.keyOf_int_mk Try.underlying3 (wf_nat h)
theorem LastD.put {D : DataW Unit} {ws : List (Nat × List UInt8)} (h : LastD D ws) (p : Nat) (l : List UInt8) (hp : p < 9223372036854775808) : LastD (D.put (.int .i64 (p : Int)) (.lit (.int .i64 (ws.length : Int)))) (ws ++ [(p, l)]) := by
  refine ⟨h.1.put _ _, fun n => ?_⟩
  rw [lastI_snoc]
  have hk : WideAt.IsKeyLit (.int .i64 (p : Int)) := intKeyed.key (key_nat hp)
  by_cases e : (p : Int) = n
  · subst e
    rw [if_pos rfl]
    refine ⟨Maps.has_put_same h.1 hk _, fun i hi z => ?_⟩
    injection hi with hi
    subst hi
    exact Maps.atKey_put_same h.1 hk _ _
  · rw [if_neg e]
    have hne : (Lit.int .i64 n) ≠ .int .i64 (p : Int) := fun h => by injection h with _ h; exact e h.symm
    rw [Maps.has_put_other hne]
    refine ⟨(h.2 n).1, fun i hi z => ?_⟩
    rw [Maps.atKey_put_other hne]
    exact (h.2 n).2 i hi z
theorem MapAt.lt {w : World} {mb : Nat} {ws : List (Nat × List UInt8)} (h : MapAt w mb ws) : mb < w.heap.size := by
  obtain ⟨D, h, _⟩ := h; exact h.lt
theorem MapAt.heap {w w' : World} {mb : Nat} {ws : List (Nat × List UInt8)} (h : MapAt w mb ws) (hk : w'.heap[mb]? = w.heap[mb]?) : MapAt w' mb ws := by
  obtain ⟨D, ⟨es, clock, hb, r⟩, hl⟩ := h
  exact ⟨D, ⟨es, clock, hk.trans hb, r⟩, hl⟩
theorem MapAt.ne {w : World} {mb g : Nat} {ws : List (Nat × List UInt8)} {T : TypeId} {cs : List Value} (h : MapAt w mb ws) (hg : OBlk w g T cs) : mb ≠ g := by
  rintro rfl
  obtain ⟨D, ⟨es, clock, hb, _⟩, _⟩ := h
  obtain ⟨fr, h1, _⟩ := hg
  rw [h1] at hb
  cases hb
/-! ### the state of a device -/
structure PS where
  page : Nat
  np : Nat
  sz : Nat
  pg : List (List UInt8)
  wild : List (Nat × List UInt8)
  down : Bool
  acts : Int
  keep : List Int
  torn : Int
  at_ : Int
  cr : Int
  cw : Int
  cs : Int
structure PS.ok (S : PS) : Prop where
  p1 : 512 ≤ S.page
  p2 : S.page ≤ 65536
  n1 : 4 ≤ S.np
  n2 : S.np ≤ 65536
  pn : S.sz ≤ 67108864
  sn : S.sz = S.page * S.np
  pl : S.pg.length = S.np
  pe : ∀ l ∈ S.pg, l.length = S.page
  we : ∀ x ∈ S.wild, x.1 < S.np ∧ x.2.length = S.page
  a1 : -1 ≤ S.acts
  a2 : S.acts ≤ 9223372036854775807
  c1 : -9223372036854775808 ≤ S.cr ∧ S.cr ≤ 9223372036854775807
  c2 : -9223372036854775808 ≤ S.cw ∧ S.cw ≤ 9223372036854775807
  c3 : -9223372036854775808 ≤ S.cs ∧ S.cs ≤ 9223372036854775807
  t1 : -9223372036854775808 ≤ S.torn ∧ S.torn ≤ 9223372036854775807
  t2 : -9223372036854775808 ≤ S.at_ ∧ S.at_ ≤ 9223372036854775807
def wcells : List (Nat × List UInt8) → List Value → List Value
  | x :: r, v :: s => .int .i64 (x.1 : Int) :: v :: wcells r s
  | _, _ => []
theorem wcells_length : ∀ (ws : List (Nat × List UInt8)) (vs : List Value), vs.length = ws.length → (wcells ws vs).length = ws.length * 2
  | [], [], _ => rfl
  | x :: r, v :: s, h => by
    have := wcells_length r s (by simpa using h)
    simp [wcells, this]; omega
theorem wcells_snoc (x : Nat × List UInt8) (v : Value) : ∀ (ws : List (Nat × List UInt8)) (vs : List Value), vs.length = ws.length → wcells (ws ++ [x]) (vs ++ [v]) = wcells ws vs ++ [.int .i64 (x.1 : Int), v]
  | [], [], _ => rfl
  | y :: r, u :: s, h => by
    have := wcells_snoc x v r s (by simpa using h)
    simp [wcells, this]
theorem wcells_page : ∀ (ws : List (Nat × List UInt8)) (vs : List Value) (i : Nat) (_ : vs.length = ws.length) (h : i < ws.length), (wcells ws vs)[i * 2]? = some (.int .i64 (ws[i].1 : Int))
  | x :: r, v :: s, 0, _, _ => rfl
  | x :: r, v :: s, i + 1, h, hi => by
    have := wcells_page r s i (by simpa using h) (by simpa using hi)
    rw [show (i + 1) * 2 = i * 2 + 2 by omega]
    simpa [wcells] using this
theorem wcells_data : ∀ (ws : List (Nat × List UInt8)) (vs : List Value) (i : Nat) (_ : vs.length = ws.length) (_ : i < ws.length), (wcells ws vs)[i * 2 + 1]? = vs[i]?
  | x :: r, v :: s, 0, _, _ => rfl
  | x :: r, v :: s, i + 1, h, hi => by
    have := wcells_data r s i (by simpa using h) (by simpa using hi)
    rw [show (i + 1) * 2 + 1 = i * 2 + 1 + 2 by omega]
    simpa [wcells] using this
/-- Where it lies. -/
structure Raw where
  pb : Nat
  sb : Nat
  mb : Nat
  vl : Value
  vk : Value
  dv : List Value
def plCells (r : Raw) (S : PS) : List Value :=
  [.int .i64 (S.page : Int), .slice (some ⟨r.sb, 0, none⟩) S.sz S.sz, r.vl, .map (some r.mb), .bool S.down, .int .i64 S.acts, r.vk, .int .i64 S.torn, .int .i64 S.at_, .int .i64 S.cr, .int .i64 S.cw, .int .i64 S.cs]
structure PlRaw (w : World) (F : Nat → Prop) (r : Raw) (S : PS) : Prop where
  ok : S.ok
  blk : OBlk w r.pb 66 (plCells r S)
  safe : OBlk w r.sb 5 (bvs S.pg.flatten)
  loose : Own w 0 69 2 r.vl S.wild.length (wcells S.wild r.dv)
  dlen : r.dv.length = S.wild.length
  data : ∀ (i : Nat) (h : i < S.wild.length) (v : Value), r.dv[i]? = some v → OwB w 0 v S.wild[i].2 ∧ ∀ g, v.ownBlock = some g → F g ∧ g ≠ r.sb
  map : MapAt w r.mb S.wild
  keep : Own w 0 3 1 r.vk S.keep.length (S.keep.map (Value.int .i64))
  fp : F r.pb
  fs : F r.sb
  fm : F r.mb
  fl : ∀ g, r.vl.ownBlock = some g → F g
  fk : ∀ g, r.vk.ownBlock = some g → F g
  lt : ∀ k, F k → k < w.heap.size
def plPtr (r : Raw) : Value := .pointer (some ⟨r.pb, 0, none⟩)
section
variable {w w' : World} {F G : Nat → Prop} {r : Raw} {S : PS}
theorem PlRaw.heap (h : PlRaw w F r S) (hs : w.heap.size ≤ w'.heap.size) (hk : ∀ k, F k → w'.heap[k]? = w.heap[k]?) : PlRaw w' F r S :=
  { h with
    blk := h.blk.of_heap (hk _ h.fp)
    safe := h.safe.of_heap (hk _ h.fs)
    loose := h.loose.heap fun g hg => hk g (h.fl g hg)
    data := fun i hi v hv => ⟨Own.heap (h.data i hi v hv).1 fun g hg => hk g ((h.data i hi v hv).2 g hg).1, (h.data i hi v hv).2⟩
    map := h.map.heap (hk _ h.fm)
    keep := h.keep.heap fun g hg => hk g (h.fk g hg)
    lt := fun k hf => Nat.lt_of_lt_of_le (h.lt k hf) hs }
theorem PlRaw.turn (h : PlRaw w F r S) (ht : Turn G w w') (hd : ∀ k, F k → ¬ G k) : PlRaw w' F r S := h.heap ht.size fun k hf => ht.block k (h.lt k hf) (hd k hf)
theorem PlRaw.below (h : PlRaw w F r S) (hb : Below w.heap.size w w') : PlRaw w' F r S := h.heap hb.size fun k hf => hb.block k (h.lt k hf)
theorem PlRaw.drew (h : PlRaw w F r S) : PlRaw w.drew F r S := h.heap (Nat.le_refl _) fun _ _ => rfl
theorem PlRaw.mono (h : PlRaw w F r S) (hs : ∀ k, F k → G k) (hl : ∀ k, G k → k < w.heap.size) : PlRaw w G r S :=
  { h with data := fun i hi v hv => ⟨(h.data i hi v hv).1, fun g hg => ⟨hs _ ((h.data i hi v hv).2 g hg).1, ((h.data i hi v hv).2 g hg).2⟩⟩, fp := hs _ h.fp, fs := hs _ h.fs, fm := hs _ h.fm, fl := fun g hg => hs _ (h.fl g hg), fk := fun g hg => hs _ (h.fk g hg), lt := hl }
theorem Own.ne_T {b n size : Nat} {v : Value} {xs : List Value} {T T' : TypeId} {g : Nat} {cs : List Value} (h : Own w b T size v n xs) (hg : OBlk w g T' cs) (hT : T ≠ T') : some g ≠ v.ownBlock := by
  rcases h.2 with ⟨rfl, _⟩ | ⟨g', cap, cs', rfl, _, hg', _⟩
  · simp [Value.ownBlock]
  · intro e
    simp [Value.ownBlock] at e
    subst e
    exact (hg'.ne hg hT) rfl
theorem OwB.ne_T {b : Nat} {v : Value} {l : List UInt8} {T' : TypeId} {g : Nat} {cs : List Value} (h : OwB w b v l) (hg : OBlk w g T' cs) (hT : 5 ≠ T') : some g ≠ v.ownBlock := Own.ne_T h hg hT
theorem OwB.ne_map {b : Nat} {v : Value} {l : List UInt8} {mb : Nat} {ws : List (Nat × List UInt8)} (h : OwB w b v l) (hm : MapAt w mb ws) : some mb ≠ v.ownBlock := by
  rcases h.2 with ⟨rfl, _⟩ | ⟨g', cap, cs', rfl, _, hg', _⟩
  · simp [Value.ownBlock]
  · intro e
    simp [Value.ownBlock] at e
    exact hm.ne hg' e
theorem Own.ne_map {b n size : Nat} {v : Value} {xs : List Value} {T : TypeId} {mb : Nat} {ws : List (Nat × List UInt8)} (h : Own w b T size v n xs) (hm : MapAt w mb ws) : some mb ≠ v.ownBlock := by
  rcases h.2 with ⟨rfl, _⟩ | ⟨g', cap, cs', rfl, _, hg', _⟩
  · simp [Value.ownBlock]
  · intro e
    simp [Value.ownBlock] at e
    exact hm.ne hg' e
/-- The device's own block is written. -/
theorem PlRaw.pb_write {S' : PS} (h : PlRaw w F r S) (hg : w.grownBy w' (some r.pb)) (hb : OBlk w' r.pb 66 (plCells r S')) (hok : S'.ok) (e1 : S'.pg = S.pg) (e2 : S'.wild = S.wild) (e3 : S'.keep = S.keep) : PlRaw w' F r S' :=
  { ok := hok, blk := hb
    safe := by rw [e1]; exact h.safe.grown hg (fun e => h.safe.ne h.blk (by decide) (Option.some.inj e))
    loose := by rw [e2]; exact h.loose.grown hg (fun g hg' e => h.loose.ne_T h.blk (by decide) (by rw [hg', e]))
    dlen := by rw [e2]; exact h.dlen
    data := by
      rw [e2]
      exact fun i hi v hv => ⟨Own.grown (h.data i hi v hv).1 hg (fun g hg' e => OwB.ne_T (h.data i hi v hv).1 h.blk (by decide) (by rw [hg', e])), (h.data i hi v hv).2⟩
    map := by rw [e2]; exact h.map.heap (hg.block _ h.map.lt (fun e => h.map.ne h.blk (Option.some.inj e)))
    keep := by rw [e3]; exact h.keep.grown hg (fun g hg' e => h.keep.ne_T h.blk (by decide) (by rw [hg', e]))
    fp := h.fp, fs := h.fs, fm := h.fm, fl := h.fl, fk := h.fk, lt := fun k hk => Nat.lt_of_lt_of_le (h.lt k hk) hg.size }
end
end Go.Proofs.Ytipjngoenklioaa
