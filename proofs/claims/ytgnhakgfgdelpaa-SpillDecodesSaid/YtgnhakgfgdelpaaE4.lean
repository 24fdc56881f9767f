/- Texts joined: api.Bench; Lists of integers; api.Bench; ink.half; ink.Sum; copy into bytes that the call owns, at a place.; spill.isPage, Pages, Encode; slices.Clone of bytes. -/
import Derived.Test.YtgnhakgfgdelpaaE1
import Derived.Test.YtgnhakgfgdelpaaE2
import Derived.Test.YtgnhakgfgdelpaaE3
import Derived.Outline
import Derived.Deep.CutRange
import Derived.Deep.DeepCutAuto
import Derived.Deep.RegionHeld3
import Derived.Deep.RegionLaw
import Derived.Lib.SlBytesConst
-- api.Bench: Free, Lay, Alloc.
namespace Go.Proofs.Ytgnhakgfgdelpaa
open Go.RowKit Go.Maps
section
variable {w0 w : World} {gb gm : Nat} {pv : Int → Option Value} {S : BS} {L : List Ent}
def freeZ (S : BS) (n : Int) : Int := if S.held n = none then 30 else 0
def freeS (S : BS) (n : Int) : BS := if S.held n = none then S else S.put n none
set_option maxRecDepth 20000 in
set_option maxHeartbeats 4000000 in
theorem BFree_any (hS : Sep w0 w (benchE gb gm pv S :: L)) (n : Int) (hn : i64w n) :
    Calls Try.prog 66 #[.pointer (some ⟨gb, 0, none⟩), .int .i64 n] w fun e w' => e = .returned (.int .i64 (freeZ S n)) ∧ ∃ pv', Sep w0 w' (benchE gb gm pv' (freeS S n) :: L) := by
  have hE : (benchE gb gm pv S).p w := hS.head
  obtain ⟨c0, c1, c2, c3, c4, f4⟩ := benchE_cells hE
  have hM := hE.2.1
  cases hh : S.held n with
  | none =>
    have HZ : Hid (freeZ S n = 30) := by show _ = _; unfold freeZ; rw [if_pos hh]
    have HS : Hid (freeS S n = S) := by show _ = _; unfold freeS; rw [if_pos hh]
    have hp : pv n = none := (hE.2.2.2.2.1 n).1 hh
    go_enter Try.func66, Try.ntmps66
    go_wp2_with (first | (at_lookup; refine wp_look rfl _ _ rfl hM rfl n hn rfl none hp ?_) | fail)
    go_ret
    rw [HZ.out, HS.out]
    exact ⟨rfl, _, hS⟩
  | some l =>
    obtain ⟨v, hp, hv⟩ := benchE_some hE hh
    obtain ⟨A', c', rfl, hm'⟩ := hv.rd.form
    have HZ : Hid (freeZ S n = 0) := by show _ = _; unfold freeZ; rw [hh, if_neg (by simp)]
    have HS : Hid (freeS S n = S.put n none) := by show _ = _; unfold freeS; rw [hh, if_neg (by simp)]
    have hdm := hE.2.2.1.dom n (by rw [hh]; rfl)
    go_enter Try.func66, Try.ntmps66
    go_wp2_with (first | (at_lookup; refine wp_look rfl _ _ rfl hM rfl n hn rfl (some _) hp ?_) | (at_delete; refine wp_del rfl _ _ rfl hM rfl n hn rfl ?_; intro w1 hM1 ht1) | fail)
    go_ret
    rw [HZ.out, HS.out]
    exact ⟨rfl, _, benchE_del hS hdm hM1 ht1⟩
def layZ (S : BS) (n : Int) : Int := if n < 2 ∨ (S.pages : Int) ≤ n then 30 else 0
def layS (S : BS) (n : Int) (d : List UInt8) : BS := if n < 2 ∨ (S.pages : Int) ≤ n then S else S.put n (some d)
set_option maxRecDepth 20000 in
set_option maxHeartbeats 4000000 in
theorem BLay_any (hS : Sep w0 w (benchE gb gm pv S :: L)) (n : Int) (hn : i64w n) (x : Value) (d : List UInt8) (hx : RdB w x d) (hdl : d.length ≤ 200000) :
    Calls Try.prog 55 #[.pointer (some ⟨gb, 0, none⟩), .int .i64 n, x] w fun e w' => e = .returned (.int .i64 (layZ S n)) ∧ ∃ pv', Sep w0 w' (benchE gb gm pv' (layS S n d) :: L) := by
  have hE : (benchE gb gm pv S).p w := hS.head
  obtain ⟨A, c, rfl, hm⟩ := hx.form
  obtain ⟨c0, c1, c2, c3, c4, f4⟩ := benchE_cells hE
  have hM := hE.2.1
  by_cases h1 : n < 2 ∨ (S.pages : Int) ≤ n
  · have HZ : Hid (layZ S n = 30) := by show _ = _; unfold layZ; rw [if_pos h1]
    have HS : Hid (layS S n d = S) := by show _ = _; unfold layS; rw [if_pos h1]
    by_cases h2 : n < 2
    · clear h1
      go_enter Try.func55, Try.ntmps55
      go_wp2_with fail
      go_ret
      rw [HZ.out, HS.out]
      exact ⟨rfl, _, hS⟩
    · have h3 : (S.pages : Int) ≤ n := by omega
      clear h1
      go_enter Try.func55, Try.ntmps55
      go_wp2_with fail
      go_ret
      rw [HZ.out, HS.out]
      exact ⟨rfl, _, hS⟩
  · have HZ : Hid (layZ S n = 0) := by show _ = _; unfold layZ; rw [if_neg h1]
    have HS : Hid (layS S n d = S.put n (some d)) := by show _ = _; unfold layS; rw [if_neg h1]
    have hdm : 2 ≤ n ∧ n < S.pages := by omega
    have h2 : ¬ n < 2 := by omega
    have h3 : ¬ (S.pages : Int) ≤ n := by omega
    have hcl := cntB_le S
    have hph := hE.2.2.1.hi
    have hgs := hE.1.lt
    have hmk := fun w => run_make_0 w d.length (by omega)
    clear h1
    go_enter Try.func55, Try.ntmps55
    go_upto_region 3 with (fail)
    have ho2 := made_0 w.drew d.length w.drew.heap.size (Nat.le_refl _) (by omega)
    have hw2 : Below w.drew.heap.size w.drew _ := (Below.refl _ _).alloc (Nat.le_refl _) (.cells (bvs (List.replicate d.length 0)).toArray 5)
    go_region_held3 (fun w' => w'.cell? ⟨gb, 3, none⟩ = some (.map (some gm)))
      (first | exact c3 | exact (hw2.cell (p := ⟨gb, 3, none⟩) hgs).trans c3 | exact (hw3.cell (p := ⟨gb, 3, none⟩) hgs).trans c3 | exact (World.cell?_of_block ((Turn.of_map ht4).block gb (Nat.lt_of_lt_of_le hgs hw3.size) hE.2.2.2.1)).trans ((hw3.cell (p := ⟨gb, 3, none⟩) hgs).trans c3))
      (first
        | (refine step_append_B (by rfl) _ _ (by rfl) w.drew.heap.size _ _ (by rfl) ho2 _ _ (by rfl) (hx.drew.below hw2 (Nat.le_refl _)) (by simp; omega) hw2.size ?_; intro u w3 ho3 hg3 hb3; rw [List.nil_append] at ho3; have hw3 := hw2.grown hg3 hw2.size (fun k hk => (Own.lt ho2 k hk).1))
        | (refine upon_store (MapAt.heap hM (hw3.block gm hM.lt)) (by simp only [maxLen]; omega) n hn _ rfl ?_; intro w4 hM4 ht4)
        | fail)
    go_wp2_with fail
    go_ret
    rw [HZ.out, HS.out]
    exact ⟨rfl, _, benchE_put (hS.drew.bytes hw3 ho3 (Nat.le_refl _)) hdm hdl hM4 ht4⟩
end
/-! ### the least page that is not there -/
def freeAt (S : BS) (n : Nat) : Bool := decide (2 ≤ n) && (S.held n).isNone
def allocF (S : BS) : Option Nat := (List.range S.pages).find? (freeAt S)
def allocZ (S : BS) : Int × Int := match allocF S with | some n => ((n : Int), 0) | none => (0, 5)
def allocS (S : BS) : BS := match allocF S with | some n => S.put n (some (List.replicate S.page 0)) | none => S
theorem find_range (p : Nat → Bool) (n : Nat) (hp : p n = true) (hq : ∀ m, m < n → p m = false) : ∀ N, n < N → (List.range N).find? p = some n := by
  intro N hN
  obtain ⟨d, rfl⟩ : ∃ d, N = n + 1 + d := ⟨N - n - 1, by omega⟩
  rw [List.range_add, List.find?_append, List.range_succ, List.find?_append]
  have : (List.range n).find? p = none := by
    rw [List.find?_eq_none]
    intro x hx
    rw [hq x (List.mem_range.1 hx)]; simp
  rw [this]
  simp [hp]
theorem allocF_some {S : BS} {n : Nat} (h1 : 2 ≤ n) (h2 : n < S.pages) (h3 : S.held n = none) (h4 : ∀ m : Nat, 2 ≤ m → m < n → S.held m ≠ none) : allocF S = some n := by
  unfold allocF
  refine find_range _ n (by simp [freeAt, h1, h3]) (fun m hm => ?_) _ h2
  by_cases e : 2 ≤ m
  · have := h4 m e hm
    simp [freeAt]; intro _; exact Option.isSome_iff_ne_none.2 this
  · simp [freeAt, e]
theorem allocF_none {S : BS} (h4 : ∀ m : Nat, 2 ≤ m → m < S.pages → S.held m ≠ none) : allocF S = none := by
  unfold allocF
  rw [List.find?_eq_none]
  intro m hm
  have hm := List.mem_range.1 hm
  simp [freeAt]
  intro e; exact h4 m e hm
section
variable {w0 w : World} {gb gm : Nat} {pv : Int → Option Value} {S : BS} {L : List Ent}
set_option maxRecDepth 20000 in
set_option maxHeartbeats 4000000 in
theorem BAlloc_any (hS : Sep w0 w (benchE gb gm pv S :: L)) :
    Calls Try.prog 70 #[.pointer (some ⟨gb, 0, none⟩)] w fun e w' => e = .returned (.tuple #[.int .i64 (allocZ S).1, .int .i64 (allocZ S).2]) ∧ ∃ pv', Sep w0 w' (benchE gb gm pv' (allocS S) :: L) := by
  have hE : (benchE gb gm pv S).p w := hS.head
  obtain ⟨c0, c1, c2, c3, c4, f4⟩ := benchE_cells hE
  have hM := hE.2.1
  have hph := hE.2.2.1.hi
  have hpl := hE.2.2.1.lo
  have hgs := hE.1.lt
  have hpg := isPowB_range hE.2.2.1.page
  have hmk := fun w => run_make_n w S.page (by omega)
  go_enter Try.func70, Try.ntmps70
  go_upto_region 2 with (fail)
  go_loopw [4] (fun i wr => ∃ k : Nat, 2 ≤ k ∧ k ≤ S.pages ∧ i = .int .i64 (k : Int) ∧ w = wr ∧ Hid (∀ m : Nat, 2 ≤ m → m < k → S.held m ≠ none)) (fun i _ => S.pages - (intOf i).toNat)
  case atStart => exact ⟨2, by omega, hpl, rfl, rfl, Lib.hid (fun m h1 h2 => absurd h2 (by omega))⟩
  case round =>
    obtain ⟨k, hk1, hk2, rfl, rfl, HB⟩ := hrel
    by_cases hlt : k < S.pages
    · have i1 : (k : Int) < (S.pages : Int) := by omega
      have hkn : i64w (k : Int) := by unfold i64w; omega
      cases hh : S.held (k : Int) with
      | none =>
        have HA : Hid (allocF S = some k) := Lib.hid (allocF_some hk1 hlt hh HB.out)
        have HZ : Hid (allocZ S = ((k : Int), 0)) := by show _ = _; unfold allocZ; rw [HA.out]
        have HS : Hid (allocS S = S.put (k : Int) (some (List.replicate S.page 0))) := by show _ = _; unfold allocS; rw [HA.out]
        have hp : pv (k : Int) = none := (hE.2.2.2.2.1 (k : Int)).1 hh
        have hdm : 2 ≤ (k : Int) ∧ (k : Int) < S.pages := by omega
        have hcl := cntB_le S
        go_upto_region 6 with (first | (at_lookup; refine wp_look rfl _ _ rfl hM rfl (k : Int) hkn rfl none hp ?_) | fail)
        have ho2 := made_n w.drew S.page w.drew.heap.size (Nat.le_refl _) (by omega)
        have hw2 : Below w.drew.heap.size w.drew _ := (Below.refl _ _).alloc (Nat.le_refl _) (.cells (bvs (List.replicate S.page 0)).toArray 5)
        go_region_held3 (fun w' => w'.cell? ⟨gb, 3, none⟩ = some (.map (some gm)) ∧ w'.cell? ⟨gb, 1, none⟩ = some (.int .i64 S.page))
          (first | exact ⟨c3, c1⟩ | exact ⟨(hw2.cell (p := ⟨gb, 3, none⟩) hgs).trans c3, (hw2.cell (p := ⟨gb, 1, none⟩) hgs).trans c1⟩ | exact ⟨(World.cell?_of_block ((Turn.of_map ht4).block gb (Nat.lt_of_lt_of_le hgs hw2.size) hE.2.2.2.1)).trans ((hw2.cell (p := ⟨gb, 3, none⟩) hgs).trans c3), (World.cell?_of_block ((Turn.of_map ht4).block gb (Nat.lt_of_lt_of_le hgs hw2.size) hE.2.2.2.1)).trans ((hw2.cell (p := ⟨gb, 1, none⟩) hgs).trans c1)⟩)
          (first
            | (refine upon_store (MapAt.heap hM (hw2.block gm hM.lt)) (by simp only [maxLen]; omega) (k : Int) hkn _ rfl ?_; intro w4 hM4 ht4)
            | fail)
        go_wp2_with fail
        go_ret2
        rw [HZ.out, HS.out]
        exact ⟨rfl, _, benchE_put (hS.drew.bytes hw2 ho2 (Nat.le_refl _)) hdm (by simp; omega) hM4 ht4⟩
      | some l =>
        obtain ⟨v, hp, hv⟩ := benchE_some hE hh
        obtain ⟨A', c', rfl, hm'⟩ := hv.rd.form
        go_wp2_with (first | (at_lookup; refine wp_look rfl _ _ rfl hM rfl (k : Int) hkn rfl (some _) hp ?_) | fail)
        go_roundw
        case rel => exact ⟨k + 1, by omega, by omega, by go_num, by trivial, Lib.hid (fun m h1 h2 => by rcases (by omega : m < k ∨ m = k) with h3 | rfl; exact HB.out m h1 h3; rw [hh]; simp)⟩
        case measure => simp [intOf]; omega
    · obtain rfl : k = S.pages := by omega
      have HA : Hid (allocF S = none) := Lib.hid (allocF_none HB.out)
      have HZ : Hid (allocZ S = (0, 5)) := by show _ = _; unfold allocZ; rw [HA.out]
      have HS : Hid (allocS S = S) := by show _ = _; unfold allocS; rw [HA.out]
      have i1 : ¬ (S.pages : Int) < (S.pages : Int) := by omega
      go_wp2_with fail
      go_ret2
      rw [HZ.out, HS.out]
      exact ⟨rfl, _, hS⟩
end
end Go.Proofs.Ytgnhakgfgdelpaa

-- Lists of integers: read, owned, appended.
namespace Go.Proofs.Ytgnhakgfgdelpaa
open Go.RowKit
def ivs (ks : List Int) : List Value := ks.map (Value.int .i64)
theorem ivs_length (ks : List Int) : (ivs ks).length = ks.length := by simp [ivs]
theorem ivs_append (a b : List Int) : ivs (a ++ b) = ivs a ++ ivs b := by simp [ivs]
def RdI (w : World) (v : Value) (ks : List Int) : Prop := Rd w 1 v ks.length (ivs ks)
def OwI (w : World) (base : Nat) (v : Value) (ks : List Int) : Prop := Own w base 3 1 v ks.length (ivs ks)
def intsE (v : Value) (ks : List Int) : Ent := ⟨fun g => v.ownBlock = some g, fun w => OwI w 0 v ks, fun h k => Own.heap k h⟩
theorem int_info : (Try.prog.info? 3).map (fun i => (i.zero, i.size, i.bytes)) = some (some (.int .i64 0), 1, 8) := by kernel_rfl
theorem ivs_one (ks : List Int) : ∀ u ∈ ivs ks, u.oneCell' = true := by
  intro u hu
  obtain ⟨k, _, rfl⟩ := List.mem_map.mp hu
  rfl
theorem RdI.nil (w : World) : RdI w (.slice none 0 0) [] := Rd.nil
theorem RdI.form {w : World} {v : Value} {ks : List Int} (h : RdI w v ks) : ∃ A c, v = .slice A ks.length c ∧ ks.length ≤ c ∧ c ≤ 9223372036854775807 := by
  obtain ⟨_, A, c, hv, h1, h2, _⟩ := h
  exact ⟨A, c, hv, h1, h2⟩
theorem RdI.at_ {w : World} {A : Option Addr} {n c j : Nat} {ks : List Int} (h : RdI w (.slice A n c) ks) (hj : j < ks.length) : ∃ ad, A = some ad ∧ w.cell? (ad.add j) = some (.int .i64 ks[j]) := by
  obtain ⟨_, A', c', hv, _, _, h3⟩ := h
  injection hv with hA
  subst hA
  exact h3 j _ (by simp [ivs, hj])
theorem OwI.rd {w : World} {b : Nat} {v : Value} {ks : List Int} (h : OwI w b v ks) : RdI w v ks := Own.rd h
section laws
variable {w : World} {ops : Array Oper} {rest : List Oper} {o : Oper} {a : Act} {Q : Exit → Act → World → Prop}
theorem wp_append_I (hgd : o.guard = none) (s x : Operand)
    (ho : o.op = .call { callee := .builtin .append, args := #[s, x], argTypes := #[45, 45] })
    (base : Nat) (v : Value) (l : List Int) (hs : a.eval s = v) (hown : OwI w base v l)
    (vx : Value) (m : List Int) (hx : a.eval x = vx) (hr : RdI w vx m) (hsm : (l.length + m.length) * 8 ≤ 140737488355328) (hbase : base ≤ w.heap.size)
    (h : ∀ v' w', OwI w' base v' (l ++ m) → w.grownBy w' v.ownBlock → (v'.ownBlock = v.ownBlock ∨ v'.ownBlock = some w.heap.size) → wpList Try.prog ops Q rest (a.put o.dst v') w') :
    wpList Try.prog ops Q (o :: rest) a w := by
  obtain ⟨i, hi, hz0, hz1, hz2⟩ := info_parts int_info
  refine wp_append hgd s x _ _ ho base 3 i _ 1 8 Try.underlying45 hi hz0 hz1 hz2 rfl v l.length (ivs l) hs hown vx m.length (ivs m) hx (Rd.src w Try.underlying45 (by omega) hr (ivs_one m)) (by omega) (by omega) hbase ?_
  intro v' w' h1 h2 h3
  refine h v' w' ?_ h2 h3
  unfold OwI
  rw [List.length_append, ivs_append]
  exact h1
/-- append(l, n) of one integer that has just been laid. -/
theorem wp_append_I1 (hgd : o.guard = none) (s x : Operand)
    (ho : o.op = .call { callee := .builtin .append, args := #[s, x], argTypes := #[45, 45] })
    (base : Nat) (v : Value) (l : List Int) (hs : a.eval s = v) (hown : OwI w base v l)
    (y : Int) (T : TypeId) (hx : a.eval x = .slice (some ⟨w.heap.size, 0, none⟩) 1 1) (hsm : (l.length + 1) * 8 ≤ 140737488355328) (hbase : base ≤ w.heap.size)
    (h : ∀ v' w', OwI w' base v' (l ++ [y]) → w.grownBy w' v.ownBlock → (v'.ownBlock = v.ownBlock ∨ (v'.ownBlock = some (w.heap.size + 1))) → wpList Try.prog ops Q rest (a.put o.dst v') w') :
    wpList Try.prog ops Q (o :: rest) a (w.alloc (.cells #[.int .i64 y] T)) := by
  refine wp_append_I hgd s x ho base v l hs (Own.alloc hown _) (.slice (some ⟨w.heap.size, 0, none⟩) 1 1) [y] hx ?_ (by simpa using hsm) (by simp; omega) ?_
  · show Rd _ 1 _ 1 [.int .i64 y]
    exact Rd.one w (.int .i64 y) T
  · intro v' w' h1 h2 h3
    refine h v' w' h1 ⟨h2.os, h2.tape, h2.output, ?_, fun k hk hne => (h2.block k (by simp; omega) hne).trans (Below.heap_alloc _ _ _ hk)⟩ (by simpa using h3)
    have := h2.size
    simp at this; omega
/-- make([]int, n, c). -/
theorem wp_make_I (hg : o.guard = none) (l c : Operand) (hop : o.op = Op.makeSlice 45 l c)
    (n m : Nat) (hl : a.eval l = .int .i64 (n : Int)) (hc : a.eval c = .int .i64 (m : Int)) (hnm : n ≤ m) (hn : m ≤ 1099511627776)
    (hK : ∀ w', OBlk w' w.heap.size 3 (ivs (List.replicate m 0)) → Below w.heap.size w w' → w'.heap.size = w.heap.size + 1 → wpList Try.prog ops Q rest (a.put o.dst (.slice (some ⟨w.heap.size, 0, none⟩) n m)) w') :
    wpList Try.prog ops Q (o :: rest) a w := by
  obtain ⟨i, hi, hz0, hz1, hz2⟩ := info_parts int_info
  refine wpList_plain hg fun K hK' => ?_
  have hr := run_make (P := Try.prog) w 45 3 i _ Try.underlying45 hi hz0 .i64 .i64 n m (by omega) (by omega) (by rw [hz2]; omega) (by omega)
  unfold Oper.wp
  simp [execOp, hop, hl, hc, hr, Result.andThen]
  refine hK' _ _ (hK _ ?_ ((Below.refl _ _).alloc (Nat.le_refl _) _) (by simp))
  have e := toList_madeCells_one (.int .i64 0) m
  have := OBlk.new w 3 (madeCells #[.int .i64 0] m)
  rw [e] at this
  simpa [Value.cells, hz1, ivs] using this
end laws
section
variable {w0 w w' : World} {L : List Ent}
theorem Sep.ints {b : Nat} {v : Value} {l : List Int} (h : Sep w0 w L) (hb : Below w.heap.size w w') (ho : OwI w' b v l) (hB : w.heap.size ≤ b) : Sep w0 w' (intsE v l :: L) :=
  h.new hb (Own.low ho (Nat.zero_le _)) (fun g hg => ⟨Nat.le_trans hB (Own.lt ho g hg).1, (Own.lt ho g hg).2⟩)
end
end Go.Proofs.Ytgnhakgfgdelpaa

-- api.Bench: Taken, NewBench.
namespace Go.Proofs.Ytgnhakgfgdelpaa
open Go.RowKit Go.Maps
def takenTo (S : BS) (k : Nat) : List Int := ((List.range k).filter fun (n : Nat) => decide (2 ≤ n) && (S.held n).isSome).map Int.ofNat
def takenF (S : BS) : List Int := takenTo S S.pages
theorem takenTo_len (S : BS) (k : Nat) : (takenTo S k).length ≤ k := by
  unfold takenTo
  rw [List.length_map]
  exact Nat.le_trans (List.length_filter_le _ _) (by rw [List.length_range]; exact Nat.le_refl _)
theorem takenTo_some {S : BS} {k : Nat} {l : List UInt8} (h : 2 ≤ k) (hh : S.held (k : Int) = some l) : takenTo S (k + 1) = takenTo S k ++ [(k : Int)] := by
  unfold takenTo
  rw [List.range_succ, List.filter_append, List.map_append]
  congr 1
  simp [h, hh]
theorem takenTo_none {S : BS} {k : Nat} (hh : S.held (k : Int) = none) : takenTo S (k + 1) = takenTo S k := by
  unfold takenTo
  rw [List.range_succ, List.filter_append, List.map_append]
  simp [hh]
theorem takenTo_two (S : BS) : takenTo S 2 = [] := by
  unfold takenTo
  have e : List.range 2 = [0, 1] := rfl
  rw [e]; simp
section
variable {w0 w : World} {gb gm : Nat} {pv : Int → Option Value} {S : BS} {L : List Ent}
set_option maxRecDepth 20000 in
set_option maxHeartbeats 4000000 in
theorem BTaken_any (hS : Sep w0 w (benchE gb gm pv S :: L)) :
    Calls Try.prog 23 #[.pointer (some ⟨gb, 0, none⟩)] w fun e w' => ∃ u, e = .returned u ∧ Sep w0 w' (intsE u (takenF S) :: benchE gb gm pv S :: L) := by
  have hE : (benchE gb gm pv S).p w := hS.head
  obtain ⟨c0, c1, c2, c3, c4, f4⟩ := benchE_cells hE
  have hph := hE.2.2.1.hi
  have hpl := hE.2.2.1.lo
  have hgs := hE.1.lt
  go_enter Try.func23, Try.ntmps23
  go_upto_region 3 with (fail)
  go_loopw [4, 3] (fun i v wr => ∃ k : Nat, 2 ≤ k ∧ k ≤ S.pages ∧ i = .int .i64 (k : Int) ∧ OwI wr w.heap.size v (takenTo S k) ∧ Below w.heap.size w wr) (fun i _ _ => S.pages - (intOf i).toNat)
  case atStart => exact ⟨2, by omega, hpl, rfl, by rw [takenTo_two]; exact Own.nil _ _ _ _, Below.refl _ _⟩
  case round =>
    obtain ⟨k, hk1, hk2, rfl, hO, hB⟩ := hrel
    have hEr : (benchE gb gm pv S).p wr := (benchE gb gm pv S).loc (fun g hg => hB.block g (hS.lt g hg)) hE
    obtain ⟨c0, c1, c2, c3, c4, f4⟩ := benchE_cells hEr
    have hM := hEr.2.1
    by_cases hlt : k < S.pages
    · have i1 : (k : Int) < (S.pages : Int) := by omega
      have hkn : i64w (k : Int) := by unfold i64w; omega
      cases hh : S.held (k : Int) with
      | none =>
        have hp : pv (k : Int) = none := (hE.2.2.2.2.1 (k : Int)).1 hh
        have HT := Lib.hid (takenTo_none hh)
        go_wp2_with (first | (at_lookup; refine wp_look rfl _ _ rfl hM rfl (k : Int) hkn rfl none hp ?_) | fail)
        go_roundw
        case rel => exact ⟨k + 1, by omega, by omega, by go_num, by rw [HT.out]; exact hO, hB⟩
        case measure => simp [intOf]; omega
      | some l =>
        obtain ⟨v, hp, hv⟩ := benchE_some hEr hh
        obtain ⟨A', c', rfl, hm'⟩ := hv.rd.form
        have HT := Lib.hid (takenTo_some hk1 hh)
        have hlen := takenTo_len S k
        go_wp2_with (first
          | (at_lookup; refine wp_look rfl _ _ rfl hM rfl (k : Int) hkn rfl (some _) hp ?_)
          | (at_builtin; refine wp_append_I1 rfl (.tmp 25) (.tmp 27) rfl w.heap.size _ _ rfl hO (k : Int) _ rfl (by omega) hB.size ?_; intro u w2 hO2 hg2 hb2)
          | fail)
        go_roundw
        case rel => exact ⟨k + 1, by omega, by omega, by go_num, by rw [HT.out]; exact hO2, hB.grown hg2 hB.size (fun j hj => (Own.lt hO j hj).1)⟩
        case measure => simp [intOf]; omega
    · obtain rfl : k = S.pages := by omega
      have i1 : ¬ (S.pages : Int) < (S.pages : Int) := by omega
      go_wp2_with fail
      go_ret
      exact ⟨_, rfl, hS.ints hB hO (Nat.le_refl _)⟩
end
def newB (page pages : Int) : Bool := isPowB page && (decide (2 ≤ pages) && decide (pages ≤ 65536))
def emptyB (eng page pages : Int) : BS := ⟨eng, page.toNat, pages.toNat, 0, fun _ => none⟩
set_option maxRecDepth 20000 in
set_option maxHeartbeats 4000000 in
theorem NewB_bad (eng page pages : Int) (he : eng = 1 ∨ eng = 2) (hb : newB page pages = false) (w : World) :
    Calls Try.prog 21 #[.int .i64 eng, .int .i64 page, .int .i64 pages] w fun e w' => e = .returned (.pointer none) ∧ w' = w := by
  have hb' : isPowB page = false ∨ pages < 2 ∨ 65536 < pages := by
    unfold newB at hb
    cases h1 : isPowB page with
    | false => exact .inl rfl
    | true =>
      rw [h1] at hb
      simp at hb
      omega
  clear hb
  go_enter Try.func21, Try.ntmps21
  go_upto_region 1 with (fail)
  go_cut [35] (fun s wx => s = .bool true ∧ w = wx)
  case first =>
    by_cases h1 : page < 512
    · rcases he with rfl | rfl
      · go_wp2_with fail
        go_meet
        exact ⟨rfl, rfl⟩
      · go_wp2_with fail
        go_meet
        exact ⟨rfl, rfl⟩
    by_cases h2 : 65536 < page
    · rcases he with rfl | rfl
      · go_wp2_with fail
        go_meet
        exact ⟨rfl, rfl⟩
      · go_wp2_with fail
        go_meet
        exact ⟨rfl, rfl⟩
    have ht := pow_test page (by omega) (by omega)
    have hww : IntKind.i64.wrap (page - 1) = page - 1 := by rw [IntKind.wrap_i64]; omega
    cases hpw : isPowB page with
    | false =>
      rw [hpw] at ht
      clear hb' hpw
      rcases he with rfl | rfl
      · go_wp2_with fail
        go_meet
        exact ⟨rfl, rfl⟩
      · go_wp2_with fail
        go_meet
        exact ⟨rfl, rfl⟩
    | true =>
      rw [hpw] at hb' ht
      by_cases h3 : pages < 2
      · clear hb' hpw
        rcases he with rfl | rfl
        · go_wp2_with fail
          go_meet
          exact ⟨rfl, rfl⟩
        · go_wp2_with fail
          go_meet
          exact ⟨rfl, rfl⟩
      · have h4 : 65536 < pages := by
          rcases hb' with h | h | h
          · cases h
          · omega
          · exact h
        clear hb' hpw
        rcases he with rfl | rfl
        · go_wp2_with fail
          go_meet
          exact ⟨rfl, rfl⟩
        · go_wp2_with fail
          go_meet
          exact ⟨rfl, rfl⟩
  case rest =>
    obtain ⟨rfl, rfl⟩ := hcut
    clear hb' he
    go_wp2_with fail
    go_ret
    exact ⟨rfl, rfl⟩
theorem newB_sep {w0 w : World} {L : List Ent} (eng : Int) (p n : Nat) (hp : isPowB (p : Int) = true) (h1 : 2 ≤ n) (h2 : n ≤ 65536) (hS : Sep w0 w L) :
    Sep w0 ((w.alloc (.map #[] 0)).alloc (.cells #[.int .i64 eng, .int .i64 (p : Int), .int .i64 (n : Int), .map (some w.heap.size), .int .i64 0] 76)) (benchE (w.heap.size + 1) w.heap.size (fun _ => none) (emptyB eng p n) :: L) := by
  have hB : Below w.heap.size w ((w.alloc (.map #[] 0)).alloc (.cells #[.int .i64 eng, .int .i64 (p : Int), .int .i64 (n : Int), .map (some w.heap.size), .int .i64 0] 76)) := ((Below.refl _ _).alloc (Nat.le_refl _) _).alloc (by simp) _
  have hM := MapAt.made w
  refine hS.new hB ⟨?_, ?_, ?_, by omega, fun _ => ⟨fun _ => rfl, fun _ => rfl⟩, fun _ _ h => by cases h⟩ (fun g hg => ?_)
  · have := OBlk.new' (w.alloc (.map #[] 0)) 76 [.int .i64 eng, .int .i64 (p : Int), .int .i64 (n : Int), .map (some w.heap.size), .int .i64 0]
    rw [World.size_alloc] at this
    exact this
  · have e : cntB (emptyB eng p n) = 0 := by
      unfold cntB emptyB
      simp
    rw [e]
    exact hM.heap (Below.heap_alloc _ _ _ (by simp))
  · exact ⟨hp, h1, h2, fun _ h => by simp [emptyB] at h, fun _ _ h => by simp [emptyB] at h⟩
  · rcases hg with rfl | rfl | ⟨m, v, hv, _⟩
    · constructor <;> simp <;> omega
    · constructor <;> simp <;> omega
    · cases hv
set_option maxRecDepth 20000 in
set_option maxHeartbeats 4000000 in
theorem NewB_ok (eng page pages : Int) (he : eng = 1 ∨ eng = 2) (hb : newB page pages = true) (w0 w : World) (L : List Ent) (hS : Sep w0 w L) :
    Calls Try.prog 21 #[.int .i64 eng, .int .i64 page, .int .i64 pages] w fun e w' => ∃ gb gm, e = .returned (.pointer (some ⟨gb, 0, none⟩)) ∧ Sep w0 w' (benchE gb gm (fun _ => none) (emptyB eng page pages) :: L) := by
  have hb' : isPowB page = true ∧ 2 ≤ pages ∧ pages ≤ 65536 := by
    unfold newB at hb
    cases h1 : isPowB page with
    | false => rw [h1] at hb; cases hb
    | true =>
      rw [h1] at hb
      simp at hb
      exact ⟨rfl, hb⟩
  clear hb
  obtain ⟨hpw, hl, hh⟩ := hb'
  obtain ⟨hp1, hp2⟩ := isPowB_range hpw
  have hmm := @run_makeMap Try.prog
  go_enter Try.func21, Try.ntmps21
  go_upto_region 1 with (fail)
  go_cut [35] (fun s wx => s = .bool false ∧ w = wx)
  case first =>
    have ht := pow_test page (by omega) (by omega)
    rw [hpw] at ht
    have h1 : ¬ page < 512 := by omega
    have h2 : ¬ 65536 < page := by omega
    have h3 : ¬ pages < 2 := by omega
    have h4 : ¬ 65536 < pages := by omega
    have hww : IntKind.i64.wrap (page - 1) = page - 1 := by rw [IntKind.wrap_i64]; omega
    rcases he with rfl | rfl
    · go_wp2_with fail
      go_meet
      exact ⟨rfl, rfl⟩
    · go_wp2_with fail
      go_meet
      exact ⟨rfl, rfl⟩
  case rest =>
    obtain ⟨rfl, rfl⟩ := hcut
    clear he
    go_wp2_with fail
    go_ret
    obtain ⟨p, rfl⟩ : ∃ p : Nat, page = (p : Int) := ⟨page.toNat, by omega⟩
    obtain ⟨n, rfl⟩ : ∃ n : Nat, pages = (n : Int) := ⟨pages.toNat, by omega⟩
    exact ⟨_, _, rfl, newB_sep eng p n hpw (by omega) (by omega) hS⟩
end Go.Proofs.Ytgnhakgfgdelpaa

-- ink.half: the walk.
namespace Go.Proofs.Ytgnhakgfgdelpaa
open Go.RowKit


/-! ### half, Sum -/
theorem halfTab_at (k : Nat) (h : k < 16) : [Value.int IntKind.u32 0, Value.int IntKind.u32 274646895, Value.int IntKind.u32 549293790,
              Value.int IntKind.u32 820201905, Value.int IntKind.u32 1098587580, Value.int IntKind.u32 1361435347,
              Value.int IntKind.u32 1640403810, Value.int IntKind.u32 1905808397, Value.int IntKind.u32 2197175160,
              Value.int IntKind.u32 2460548119, Value.int IntKind.u32 2722870694, Value.int IntKind.u32 2987750089,
              Value.int IntKind.u32 3280807620, Value.int IntKind.u32 3553878443, Value.int IntKind.u32 3811616794,
              Value.int IntKind.u32 4084100981][k]? = some (.int .u32 (halfTab.getD k 0 : Nat)) := by
  match k, h with
  | 0, _ | 1, _ | 2, _ | 3, _ | 4, _ | 5, _ | 6, _ | 7, _ | 8, _ | 9, _ | 10, _ | 11, _ | 12, _ | 13, _ | 14, _ | 15, _ => rfl
  | k + 16, h => omega
set_option maxHeartbeats 400000 in
theorem half_any (r : Nat) (h : r < 4294967296) (w : World) :
    Calls Try.prog 59 #[.int .u32 r] w fun e w' => e = .returned (.int .u32 (halfF r : Nat)) ∧ Below w.heap.size w w' := by
  have hb : bits .and .u32 (r : Int) 15 = ((r % 16 : Nat) : Int) := by rw [← nat_mask4]; exact u32_and_nat r 15 h (by omega)
  have h1 : (0 : Int) ≤ ((r % 16 : Nat) : Int) := by omega
  have h2 : ((r % 16 : Nat) : Int) < 16 := by omega
  have ht := halfTab_at (r % 16) (by omega)
  rw [show halfTab.getD (r % 16) 0 = halfF r from rfl] at ht
  go_enter Try.func59, Try.ntmps59
  go_wp2
  go_ret
  exact ⟨rfl, (Below.refl _ _).alloc (Nat.le_refl _) _⟩
end Go.Proofs.Ytgnhakgfgdelpaa

-- ink.Sum: the walk.
namespace Go.Proofs.Ytgnhakgfgdelpaa
open Go.RowKit
def halfC (r : Nat) : Nat := halfF r ^^^ r / 16
theorem halfC_lt (r : Nat) (h : r < 4294967296) : halfC r < 4294967296 := Nat.xor_lt_two_pow (n := 32) (halfF_lt r) (by omega)
theorem crcByte_half (r : Nat) (x : UInt8) : crcByte r x = halfC (halfC (r ^^^ x.toNat)) := crcByte_eq r x
theorem xor_half (r : Nat) (h : r < 4294967296) : bits .xor .u32 (halfF r : Nat) ((r : Int) / 16) = (halfC r : Nat) := by
  exact u32_xor_nat (halfF r) (r / 16) (halfF_lt r) (by omega)
theorem not_u32 (r : Nat) (h : r < 4294967296) : bits .xor .u32 IntKind.u32.max (r : Int) = ((r ^^^ 4294967295 : Nat) : Int) := by
  rw [Nat.xor_comm]; exact u32_xor_nat 4294967295 r (by omega) h
set_option maxHeartbeats 400000 in
theorem Sum_any (v : Value) (ls : List (List UInt8)) (w : World) (hv : RdL w v ls) :
    Calls Try.prog 38 #[v] w fun e w' => e = .returned (.int .u32 (sumF ls.flatten : Nat)) ∧ Below w.heap.size w w' := by
  obtain ⟨A, c, rfl, hm⟩ := hv.form
  go_enter Try.func38, Try.ntmps38
  go_wp2
  go_loopw [3, 10] (fun r i wr => ∃ (k : Nat), i = .int .i64 (k : Int) ∧ k ≤ ls.length ∧ r = .int .u32 (crcF 4294967295 (ls.take k).flatten : Nat) ∧ Below w.heap.size w wr)
    (fun _ i _ => ls.length - (intOf i).toNat)
  case atStart => exact ⟨0, rfl, Nat.zero_le _, rfl, Below.refl _ _⟩
  case round =>
    obtain ⟨k, rfl, hk, rfl, hw⟩ := hrel
    by_cases hlt : k < ls.length
    · obtain ⟨ad, A2, c2, rfl, hcell, hru0⟩ := (hv.below hw (Nat.le_refl _)).at_ hlt
      have hm2 := hru0.le
      have hfl := flat_snoc ls k hlt
      have HF := Lib.hid hfl
      generalize ls[k] = l at *
      clear hfl
      go_wp2
      obtain ⟨wo, rfl⟩ : ∃ wo : World, wo = wr := ⟨_, rfl⟩
      go_loopw [3, 16] (fun r i wi => ∃ (j : Nat), i = .int .i64 (j : Int) ∧ j ≤ l.length ∧ r = .int .u32 (crcF (crcF 4294967295 (ls.take k).flatten) (l.take j) : Nat) ∧ Below wo.heap.size wo wi)
        (fun _ i _ => l.length - (intOf i).toNat)
      case atStart => exact ⟨0, rfl, Nat.zero_le _, rfl, Below.refl _ _⟩
      case round =>
        obtain ⟨j, rfl, hj, rfl, hwi⟩ := hrel
        have hr0 : crcF (crcF 4294967295 (ls.take k).flatten) (l.take j) < 4294967296 := crcF_lt _ _ (crcF_lt _ _ (by omega))
        by_cases hjl : j < l.length
        · obtain ⟨ad2, hA2, hcell2⟩ := (hru0.below hwi (Nat.le_refl _)).at_ hjl
          subst hA2
          have hsn : crcF (crcF 4294967295 (ls.take k).flatten) (l.take (j + 1)) = halfC (halfC (crcF (crcF 4294967295 (ls.take k).flatten) (l.take j) ^^^ l[j].toNat)) := by
            rw [List.take_succ_eq_append_getElem hjl, crcF_snoc, crcByte_half]
          have HS := Lib.hid hsn
          clear hsn
          have hx := u32_xor_nat _ l[j].toNat hr0 (by have := l[j].toNat_lt; omega)
          have hx1 : crcF (crcF 4294967295 (ls.take k).flatten) (l.take j) ^^^ l[j].toNat < 4294967296 := Nat.xor_lt_two_pow (n := 32) hr0 (by have := l[j].toNat_lt; omega)
          have hxb : l[j].toNat < 256 := l[j].toNat_lt
          generalize crcF (crcF 4294967295 (ls.take k).flatten) (l.take j) = r at *
          generalize l[j].toNat = x at *
          generalize r ^^^ x = y at *
          have hy1 := xor_half y hx1
          have hy2 := xor_half (halfC y) (halfC_lt y hx1)
          go_wp2_with fail
          refine (half_any y hx1 _).mono ?_
          rintro e w1 ⟨rfl, hb1⟩
          go_wp2_with fail
          refine (half_any (halfC y) (halfC_lt y hx1) _).mono ?_
          rintro e w2 ⟨rfl, hb2⟩
          go_wp2
          go_roundw
          case rel => exact ⟨j + 1, by go_num, by omega, by rw [HS.out], hwi.trans (((hb1.mono hwi.size)).trans (hb2.mono (Nat.le_trans hwi.size hb1.size)))⟩
          case measure => simp [intOf]; omega
        · obtain rfl : j = l.length := by omega
          rw [List.take_length] at *
          have hz : crcF (crcF 4294967295 (ls.take k).flatten) l = crcF 4294967295 (ls.take (k + 1)).flatten := by rw [HF.out, crcF_append]
          rw [hz]
          clear hz
          go_wp2
          go_roundw
          case rel => exact ⟨k + 1, by go_num, by omega, rfl, hw.trans (hwi.mono hw.size)⟩
          case measure => simp [intOf]; omega
    · obtain rfl : k = ls.length := by omega
      rw [List.take_length]
      have hr0 : crcF 4294967295 ls.flatten < 4294967296 := crcF_lt _ _ (by omega)
      have hn := not_u32 _ hr0
      rw [show crcF 4294967295 ls.flatten ^^^ 4294967295 = sumF ls.flatten from rfl] at hn
      go_wp2
      go_ret
      exact ⟨rfl, hw⟩
end Go.Proofs.Ytgnhakgfgdelpaa

-- copy into bytes that the call owns, at a place.
namespace Go.Proofs.Ytgnhakgfgdelpaa
open Go.RowKit
theorem splice_append {α : Type} (a b : List α) (o : Nat) (r : List α) (h : o + r.length ≤ a.length) : splice (a ++ b) o r = splice a o r ++ b := by
  unfold splice
  rw [List.take_append_of_le_length (by omega), List.drop_append_of_le_length h]
  simp [List.append_assoc]
theorem splice_take_n {α : Type} (cs : List α) (o n : Nat) (r : List α) (h : o + r.length ≤ n) (hn : n ≤ cs.length) : (splice cs o r).take n = splice (cs.take n) o r := by
  have hl : (cs.take n).length = n := by simp; omega
  have e := splice_append (cs.take n) (cs.drop n) o r (by omega)
  rw [List.take_append_drop] at e
  have h2 : (splice (cs.take n) o r).length = n := by rw [length_splice _ _ _ (by omega)]; exact hl
  rw [e]
  exact List.take_left' h2
section laws
variable {w : World} {ops : Array Oper} {rest : List Oper} {o : Oper} {a : Act} {Q : Exit → Act → World → Prop}
theorem wp_copy_At (hgd : o.guard = none) (d s : Operand)
    (ho : o.op = .call { callee := .builtin .copy, args := #[d, s], argTypes := #[25, 25] })
    (base g n cap off : Nat) (dA : Option Addr) (dLen dCap : Nat) (hd' : a.eval d = .slice dA dLen dCap) (hd : 0 < dLen → dA = some ⟨g, off, none⟩)
    (l : List UInt8) (hown : OwB w base (.slice (some ⟨g, 0, none⟩) n cap) l) (hl : l.length = n) (hfit : off + dLen ≤ n)
    (vx : Value) (m : List UInt8) (hx : a.eval s = vx) (hr : RdB w vx m)
    (h : ∀ w', OwB w' base (.slice (some ⟨g, 0, none⟩) n cap) (splice l off (m.take (min m.length dLen))) → w.grownBy w' (some g) → wpList Try.prog ops Q rest (a.put o.dst (goInt (min m.length dLen : Nat))) w') : wpList Try.prog ops Q (o :: rest) a w := by
  have hown' := hown
  unfold OwB at hown'
  rw [hl] at hown'
  obtain ⟨h0, h1⟩ := hown'
  rcases h1 with ⟨h1, _⟩ | ⟨g', cap', cs, h1, hb, ho2, h2, h3, h4, h5⟩
  · cases h1
  · injection h1 with hA _ hc
    injection hA with hA
    injection hA with hA
    subst hA; subst hc
    rw [Nat.mul_one] at h4 h5
    refine wp_copy hgd d s _ _ ho 5 Try.underlying25 u8_size dA dLen dCap g off hd' cs _ ho2 hd (by omega) vx m.length (bvs m) hx hr.rd (bvs_one m) ?_
    intro w' hw' hgr
    refine h w' ?_ hgr
    have hlr : (m.take (min m.length dLen)).length ≤ dLen := by simp; omega
    have hlen2 : (splice l off (m.take (min m.length dLen))).length = n := by rw [length_splice _ _ _ (by omega)]; exact hl
    unfold OwB
    rw [hlen2]
    have hlb : ((bvs m).take (min m.length dLen)).length ≤ dLen := by rw [← bvs_take, bvs_length]; exact hlr
    refine ⟨by rw [bvs_length, hlen2]; omega, .inr ⟨g, cap, _, rfl, hb, hw', h2, h3, ?_, ?_⟩⟩
    · rw [length_splice _ _ _ (by omega)]; omega
    · rw [Nat.mul_one, splice_take_n _ _ _ _ (by omega) (by omega), h5, bvs_splice, bvs_take]
end laws
end Go.Proofs.Ytgnhakgfgdelpaa

-- spill.isPage, Pages, Encode: walks.
namespace Go.Proofs.Ytgnhakgfgdelpaa
open Go.RowKit
set_option maxRecDepth 20000 in
set_option maxHeartbeats 1000000 in
theorem SisPage_any (p : Int) (hp : -9223372036854775808 ≤ p ∧ p ≤ 9223372036854775807) (w : World) : Calls Try.prog 33 #[.int .i64 p] w fun e w' => e = .returned (.bool (isPowB p)) ∧ w = w' := by
  by_cases h1 : p < 512
  · have HV := Lib.hid (isPowB_out (.inl h1))
    go_enter Try.func33, Try.ntmps33
    go_wp2_with fail
    go_ret
    rw [HV.out]
    exact ⟨rfl, rfl⟩
  by_cases h2 : 65536 < p
  · have HV := Lib.hid (isPowB_out (.inr h2))
    go_enter Try.func33, Try.ntmps33
    go_wp2_with fail
    go_ret
    rw [HV.out]
    exact ⟨rfl, rfl⟩
  have hq := pow_eq p (by omega) (by omega)
  go_enter Try.func33, Try.ntmps33
  go_wp2_with fail
  go_ret
  exact ⟨rfl, rfl⟩
theorem Equal_any (u v : Value) (a b : List UInt8) (w : World) (hu : RdB w u a) (hv : RdB w v b) :
    Calls Try.prog 43 #[u, v] w fun e w' => e = .returned (.bool (a == b)) ∧ w = w' := by
  have q1 := run_B_string hu
  have q2 := run_B_string hv
  obtain ⟨A, c, rfl, _⟩ := hu.form
  obtain ⟨B, d, rfl, _⟩ := hv.form
  go_enter Try.func43, Try.ntmps43
  go_wp2_with fail
  go_ret
  exact ⟨rfl, rfl⟩
theorem splice_mid (pre mid post new : List UInt8) (o : Nat) (ho : pre.length = o) (h : mid.length = new.length) : splice (pre ++ (mid ++ post)) o new = pre ++ (new ++ post) := by
  unfold splice
  rw [List.take_left' ho, List.drop_append, ho, List.drop_of_length_le (by omega), List.nil_append, show o + new.length - o = new.length by omega, ← h, List.drop_left' rfl]
theorem RdB.slice0 {w : World} {g n c : Nat} {L : List UInt8} (h : OBlk w g 5 (bvs L)) (hn : n ≤ L.length) (hc : L.length = c) (hm : c ≤ 140737488355328) : RdB w (.slice (some ⟨g, 0, none⟩) n c) (L.take n) := by
  have := (h.owB (base := 0) (Nat.zero_le _) (by simp only [maxLen]; omega) (n := n) hn).rd
  rw [hc] at this
  exact this
def s0F (P : Nat) : List UInt8 := (List.replicate P (0 : UInt8)).set 0 4
def s1F (next : Int) (P : Nat) : List UInt8 := 4 :: 0 :: 0 :: 0 :: (fixedF next.toNat 4 ++ List.replicate (P - 8) 0)
def s2F (next : Int) (n P : Nat) : List UInt8 := 4 :: 0 :: 0 :: 0 :: (fixedF next.toNat 4 ++ (fixedF n 4 ++ List.replicate (P - 12) 0))
def s3F (next : Int) (d : List UInt8) (P : Nat) : List UInt8 := preS next d P ++ List.replicate 4 0
theorem s01 {next : Int} {P : Nat} (h : 512 ≤ P) : splice (s0F P) 4 (fixedF next.toNat 4) = s1F next P := by
  obtain ⟨Q, rfl⟩ : ∃ Q, P = Q + 8 := ⟨P - 8, by omega⟩
  have e : s0F (Q + 8) = [4, 0, 0, 0] ++ (List.replicate 4 0 ++ List.replicate Q 0) := by
    unfold s0F; rw [List.replicate_append_replicate, show 4 + Q = Q + 4 by omega]; rfl
  rw [e, splice_mid _ _ _ _ 4 rfl (by rw [fixedF_length]; rfl)]
  unfold s1F
  rw [show Q + 8 - 8 = Q by omega]; rfl
theorem s12 {next : Int} {n P : Nat} (h : 512 ≤ P) : splice (s1F next P) 8 (fixedF n 4) = s2F next n P := by
  have e : s1F next P = (4 :: 0 :: 0 :: 0 :: fixedF next.toNat 4) ++ (List.replicate 4 0 ++ List.replicate (P - 12) 0) := by
    unfold s1F; rw [List.replicate_append_replicate, show 4 + (P - 12) = P - 8 by omega]; rfl
  rw [e, splice_mid _ _ _ _ 8 (by simp [fixedF_length]) (by rw [fixedF_length]; rfl)]
  unfold s2F; simp
theorem s23 {next : Int} {d : List UInt8} {P : Nat} (h : d.length + 16 ≤ P) : splice (s2F next d.length P) 12 d = s3F next d P := by
  have e : s2F next d.length P = (4 :: 0 :: 0 :: 0 :: (fixedF next.toNat 4 ++ fixedF d.length 4)) ++ (List.replicate d.length 0 ++ List.replicate (P - 12 - d.length) 0) := by
    unfold s2F; rw [List.replicate_append_replicate, show d.length + (P - 12 - d.length) = P - 12 by omega]; simp
  rw [e, splice_mid _ _ _ _ 12 (by simp [fixedF_length]) (by rw [List.length_replicate])]
  unfold s3F preS
  simp only [List.cons_append, List.append_assoc, List.replicate_append_replicate]
  rw [show P - 16 - d.length + 4 = P - 12 - d.length by omega]
theorem s3_end {next : Int} {d : List UInt8} {P : Nat} (h : d.length + 16 ≤ P) : (s3F next d P).take (P - 4) = preS next d P ∧ splice (s3F next d P) (P - 4) (fixedF (sumF (preS next d P)) 4) = laidS next d P ∧ (s3F next d P).length = P := by
  refine ⟨by unfold s3F; rw [List.take_left' (preS_length h)], ?_, by unfold s3F; rw [List.length_append, preS_length h, List.length_replicate]; omega⟩
  have e : s3F next d P = preS next d P ++ (List.replicate 4 0 ++ []) := by unfold s3F; simp
  rw [e, splice_mid _ _ _ _ (P - 4) (preS_length h) (by rw [fixedF_length]; rfl)]
  unfold laidS; simp

set_option maxRecDepth 100000 in
set_option maxHeartbeats 8000000 in
theorem SEncode_any (next : Int) (va : Value) (d : List UInt8) (P : Int) (hPr : i64w P) (w : World) (hd : RdB w va d) :
    Calls Try.prog 15 #[.int .i64 next, va, .int .i64 P] w fun e w' => ∃ u, e = .returned (.tuple #[u, .int .i64 (spZ next d P)]) ∧ OwB w' w.heap.size u (spL next d P) ∧ Below w.heap.size w w' := by
  obtain ⟨A, c, rfl, hm⟩ := hd.form
  have hPa := fun W => SisPage_any P hPr W
  by_cases h1 : isPowB P = false ∨ (next ≠ 0 ∧ (next < 2 ∨ 65536 ≤ next))
  · have HZ : Hid (spZ next d P = 1) := by show _ = _; unfold spZ; rw [if_pos h1]
    have HL : Hid (spL next d P = []) := by show _ = _; unfold spL; rw [HZ.out, if_neg (by decide)]
    go_enter Try.func15, Try.ntmps15
    go_upto_region 1 with (fail)
    go_cut [9] (fun s wx => s = .bool true ∧ w = wx)
    case first =>
      cases hp : isPowB P with
      | false =>
        rw [hp] at hPa
        clear h1 hp
        go_wp2_with (first | (go_at_call 33; refine (hPa _).mono ?_; rintro e w1 ⟨rfl, rfl⟩) | fail)
        go_meet
        exact ⟨rfl, rfl⟩
      | true =>
        have h2 : next ≠ 0 ∧ (next < 2 ∨ 65536 ≤ next) := by
          rcases h1 with h | h
          · rw [hp] at h; cases h
          · exact h
        have e0 : (next != 0) = true := by simp only [bne, beq_eq_false_iff_ne.2 h2.1]; rfl
        rw [hp] at hPa
        by_cases h3 : next < 2
        · clear h1 hp h2
          go_wp2_with (first | (go_at_call 33; refine (hPa _).mono ?_; rintro e w1 ⟨rfl, rfl⟩) | fail)
          go_meet
          exact ⟨rfl, rfl⟩
        · have h4 : 65536 ≤ next := by omega
          clear h1 hp h2
          go_wp2_with (first | (go_at_call 33; refine (hPa _).mono ?_; rintro e w1 ⟨rfl, rfl⟩) | fail)
          go_meet
          exact ⟨rfl, rfl⟩
    case rest =>
      obtain ⟨rfl, rfl⟩ := hcut
      clear hPa h1
      go_wp2_with fail
      go_ret2
      rw [HZ.out, HL.out]
      exact ⟨_, rfl, OwB.nil _ _, Below.refl _ _⟩
  · have hp : isPowB P = true := by
      cases e : isPowB P with
      | true => rfl
      | false => exact absurd (.inl e) h1
    obtain ⟨hP1, hP2⟩ := isPowB_range hp
    have hnx : next = 0 ∨ (2 ≤ next ∧ next < 65536) := by
      by_cases h4 : next = 0
      · exact .inl h4
      · exact .inr ⟨by rcases (by omega : next < 2 ∨ 2 ≤ next) with h5 | h5; exact absurd (.inr ⟨h4, .inl h5⟩) h1; exact h5, by rcases (by omega : next < 65536 ∨ 65536 ≤ next) with h5 | h5; exact h5; exact absurd (.inr ⟨h4, .inr h5⟩) h1⟩
    rw [hp] at hPa
    obtain ⟨Q, rfl⟩ : ∃ Q : Nat, P = (Q : Int) := ⟨P.toNat, by omega⟩
    have HH1 := Lib.hid h1
    clear hp h1
    go_enter Try.func15, Try.ntmps15
    go_upto_region 1 with (fail)
    go_cut [9] (fun s wx => s = .bool false ∧ w = wx)
    case first =>
      rcases hnx with rfl | ⟨h2, h3⟩
      · go_wp2_with (first | (go_at_call 33; refine (hPa _).mono ?_; rintro e w1 ⟨rfl, rfl⟩) | fail)
        go_meet
        exact ⟨rfl, rfl⟩
      · have e0 : (next != 0) = true := by simp only [bne, beq_eq_false_iff_ne.2 (show next ≠ 0 by omega)]; rfl
        have e1 : ¬ next < 2 := by omega
        have e2 : ¬ 65536 ≤ next := by omega
        go_wp2_with (first | (go_at_call 33; refine (hPa _).mono ?_; rintro e w1 ⟨rfl, rfl⟩) | fail)
        go_meet
        exact ⟨by first | rfl | simp [e1, e2], rfl⟩
    case rest =>
      obtain ⟨rfl, rfl⟩ := hcut
      clear hPa
      by_cases h2 : d.length = 0 ∨ (Q : Int) - 16 < (d.length : Int)
      · have HZ : Hid (spZ next d (Q : Int) = 31) := by show _ = _; unfold spZ; rw [if_neg HH1.out, if_pos h2]
        have HL : Hid (spL next d (Q : Int) = []) := by show _ = _; unfold spL; rw [HZ.out, if_neg (by decide)]
        go_upto_region 3 with (fail)
        go_cut [25] (fun s wx => s = .bool true ∧ w = wx)
        case first =>
          by_cases h3 : d.length = 0
          · have e1 : ((d.length : Int) == 0) = true := by rw [h3]; rfl
            clear h2 h3
            go_wp2_with fail
            go_meet
            exact ⟨rfl, rfl⟩
          · have e1 : ((d.length : Int) == 0) = false := beq_eq_false_iff_ne.2 (by omega)
            have e2 : (Q : Int) - 12 - 4 < (d.length : Int) := by omega
            clear h2 h3
            go_wp2_with fail
            go_meet
            exact ⟨rfl, rfl⟩
        case rest =>
          obtain ⟨rfl, rfl⟩ := hcut
          clear h2
          go_wp2_with fail
          go_ret2
          rw [HZ.out, HL.out]
          exact ⟨_, rfl, OwB.nil _ _, Below.refl _ _⟩
      · have HZ : Hid (spZ next d (Q : Int) = 0) := by show _ = _; unfold spZ; rw [if_neg HH1.out, if_neg h2]
        have HL : Hid (spL next d (Q : Int) = laidS next d Q) := by show _ = _; unfold spL; rw [HZ.out, if_pos rfl]; rfl
        have e1 : ((d.length : Int) == 0) = false := beq_eq_false_iff_ne.2 (by omega)
        have e2 : ¬ (Q : Int) - 12 - 4 < (d.length : Int) := by omega
        have hfit : d.length + 16 ≤ Q := by omega
        have hdl : 1 ≤ d.length := by omega
        clear h2 HH1
        have p0 : (0 : Int) < (Q : Int) := by omega
        go_upto_region 6 with (first | (at_make; refine wp_make_B rfl (.tmp 37) (.tmp 37) rfl _ Q rfl rfl rfl (by omega) ?_; intro w1 hb1 hw1 hs1) | fail)
        have z0 : w1.cell? ⟨w.heap.size, 0, none⟩ = some (.int .u8 0) := hb1.cell' (by rw [bvs_replicate, List.getElem?_replicate]; simp; omega)
        have f0 : w1.frozen? ⟨w.heap.size, 0, none⟩ = false := hb1.frozen (by rw [bvs_length, List.length_replicate]; omega)
        have hb2 := hb1.set 0 (.int .u8 4)
        rw [show Value.int .u8 4 = Value.int .u8 ((4 : UInt8).toNat : Int) from rfl, ← bvs_set] at hb2
        have hb2 : OBlk (w1.setCell ⟨w.heap.size, 0, none⟩ (.int .u8 4)) w.heap.size 5 (bvs (s0F Q)) := hb2
        have hw2 := hw1.setCell (p := ⟨w.heap.size, 0, none⟩) (Nat.le_refl _) (.int .u8 4)
        go_upto_region 7 with (fail)
        clear hb1 hw1 hs1 z0 f0
        generalize w1.setCell ⟨w.heap.size, 0, none⟩ (.int .u8 4) = w2 at *
        have l0 : (s0F Q).length = Q := by unfold s0F; simp
        have hnn : 0 ≤ next ∧ next < 65536 := by omega
        obtain ⟨nn, rfl⟩ : ∃ nn : Nat, next = (nn : Int) := ⟨next.toNat, by omega⟩
        have hnb : nn < 18446744073709551616 := by omega
        have hdb : d.length < 18446744073709551616 := by omega
        have hwn : IntKind.u64.wrap (nn : Int) = (nn : Int) := IntWalk.u64_in _ (by omega)
        have hwd : IntKind.u64.wrap (d.length : Int) = (d.length : Int) := IntWalk.u64_in _ (by omega)
        have n4 : ¬ Q = 4 := by omega
        have n8 : ¬ Q = 8 := by omega
        have n12 : ¬ Q = 12 := by omega
        have q4 : (4 : Int) ≤ (Q : Int) := by omega
        have q8 : (8 : Int) ≤ (Q : Int) := by omega
        have q12 : (12 : Int) ≤ (Q : Int) := by omega
        have H0 := Lib.hid l0
        have hQ512 : Hid (512 ≤ Q) := by show _ ≤ _; omega
        clear l0 hnx hnn e1 e2
        go_upto_region 7 with (fail)
        go_cut [] (fun wx => OBlk wx w.heap.size 5 (bvs (s1F (nn : Int) Q)) ∧ Below w.heap.size w wx)
        case first =>
          go_region_held3 (fun _ => True) (trivial)
            (first
              | (go_at_call 37; (with_reducible refine (Fixed_4 nn hnb _).mono ?_); rintro e w9 ⟨rfl, hf9, hw9, hs9⟩)
              | (refine step_copy_B (by rfl) (.tmp 42) (.tmp 45) (by rfl) _ (Q - 4) (Q - 4) w.heap.size 4 (by rfl) (s0F Q) (hb2.drew.below hw9 (by have := hb2.lt; simp; omega)) (fun _ => rfl) (by rw [H0.out]; omega) (.slice (some ⟨w2.heap.size, 0, none⟩) 4 4) (fixedF nn 4) (by rfl) (hf9.rdB (fixedF_length _ 4) (by omega)) ?_; intro w8 hb8 hg8)
              | fail)
          go_wp2_with fail
          go_meet
          rw [Nat.min_eq_left (by rw [fixedF_length]; omega), List.take_of_length_le (by rw [fixedF_length]; exact Nat.le_refl _)] at hb8
          rw [show splice (s0F Q) 4 (fixedF nn 4) = s1F (nn : Int) Q from s01 (next := (nn : Int)) hQ512.out] at hb8
          exact ⟨hb8, (hw2.drew.trans (hw9.mono hw2.size)).grown hg8 (Nat.le_trans hw2.size hw9.size) (fun k hk => Nat.le_of_eq (Option.some.inj hk))⟩
        case rest =>
          obtain ⟨hb3, hw3⟩ := hcut
          have H1 : Hid ((s1F (nn : Int) Q).length = Q) := by show _ = _; unfold s1F; simp [fixedF_length]; omega
          clear hb2 hw2 H0
          go_upto_region 8 with (fail)
          go_cut [] (fun wx => OBlk wx w.heap.size 5 (bvs (s2F (nn : Int) d.length Q)) ∧ Below w.heap.size w wx)
          case first =>
            go_region_held3 (fun _ => True) (trivial)
              (first
                | (go_at_call 37; (with_reducible refine (Fixed_4 d.length hdb _).mono ?_); rintro e w9 ⟨rfl, hf9, hw9, hs9⟩)
                | (refine step_copy_B (by rfl) (.tmp 48) (.tmp 52) (by rfl) _ (Q - 8) (Q - 8) w.heap.size 8 (by rfl) (s1F (nn : Int) Q) (hb3.drew.below hw9 (by have := hb3.lt; simp; omega)) (fun _ => rfl) (by rw [H1.out]; omega) (.slice (some ⟨wc.heap.size, 0, none⟩) 4 4) (fixedF d.length 4) (by rfl) (hf9.rdB (fixedF_length _ 4) (by omega)) ?_; intro w8 hb8 hg8)
                | fail)
            go_wp2_with fail
            go_meet
            rw [Nat.min_eq_left (by rw [fixedF_length]; omega), List.take_of_length_le (by rw [fixedF_length]; exact Nat.le_refl _)] at hb8
            rw [show splice (s1F (nn : Int) Q) 8 (fixedF d.length 4) = s2F (nn : Int) d.length Q from s12 hQ512.out] at hb8
            exact ⟨hb8, (hw3.drew.trans (hw9.mono hw3.size)).grown hg8 (Nat.le_trans hw3.size hw9.size) (fun k hk => Nat.le_of_eq (Option.some.inj hk))⟩
          case rest =>
            clear hb3 hw3 H1 hnb hdb hwn hwd
            obtain ⟨hb3, hw3⟩ := hcut
            have H1 : Hid ((s2F (nn : Int) d.length Q).length = Q) := by show _ = _; unfold s2F; simp [fixedF_length]; omega
            have hd3 := hd.below hw3 (Nat.le_refl _)
            have H2 : Hid (splice (s2F (nn : Int) d.length Q) 12 (d.take (min d.length (Q - 12))) = s3F (nn : Int) d Q) := by
              show _ = _
              rw [Nat.min_eq_left (by omega), List.take_length]
              exact s23 hfit
            go_upto_region 10 with (first
              | ((with_reducible refine at_copy ?_); refine wp_copy_B (by rfl) (.tmp 55) (.tmp 56) (by rfl) _ (Q - 12) (Q - 12) w.heap.size 12 (by rfl) (s2F (nn : Int) d.length Q) hb3 (fun _ => rfl) (by rw [H1.out]; omega) (.slice A d.length c) d (by rfl) hd3 ?_; intro w8 hb8 hg8)
              | fail)
            have hw8 : Below w.heap.size w w8 := hw3.grown hg8 hw3.size (fun k hk => Nat.le_of_eq (Option.some.inj hk))
            rw [H2.out] at hb8
            obtain ⟨E1, E2, E3⟩ := s3_end (next := (nn : Int)) hfit
            have HE1 := Lib.hid E1
            have HE2 := Lib.hid E2
            have HE3 := Lib.hid E3
            clear E1 E2 E3 hb3 hw3 H1 H2 hd3 hg8
            have hsl : sumF (preS (nn : Int) d Q) < 4294967296 := sumF_lt _
            obtain ⟨en, hen⟩ : ∃ en : Nat, en + 4 = Q := ⟨Q - 4, by omega⟩
            have he : (Q : Int) - 4 = (en : Int) := by omega
            have hws : IntKind.u64.wrap ((sumF (preS (nn : Int) d Q) : Nat) : Int) = ((sumF (preS (nn : Int) d Q) : Nat) : Int) := IntWalk.u64_in _ (by omega)
            have b1 : (0 : Int) ≤ (en : Int) := by omega
            have b2 : (en : Int) ≤ (Q : Int) := by omega
            have b3 : en ≤ Q := by omega
            have b6 : IntKind.i64.wrap (en : Int) = (en : Int) := by rw [IntKind.wrap_i64]; omega
            have b4 : en < Q := by omega
            have b5 : ¬ (Q = en) := by omega
            rw [show Q - 4 = en by omega] at HE1 HE2
            have hbd : RdB w8 (.slice (some ⟨w.heap.size, 0, none⟩) en Q) (preS (nn : Int) d Q) := by
              have := RdB.slice0 (n := en) hb8 (by rw [HE3.out]; exact b3) HE3.out (by omega)
              rw [HE1.out] at this
              exact this
            generalize s3F (nn : Int) d Q = L at *
            generalize preS (nn : Int) d Q = M at *
            go_region_held3 (fun _ => True) (trivial)
              (first
                | (go_at_call 38; (with_reducible refine (Sum_any _ [M] _ ?_).mono ?_); (exact RdL.one hbd.drew _); rintro e w7 ⟨rfl, hw7⟩)
                | (go_at_call 37; (with_reducible refine (Fixed_4 (sumF M) (by omega) _).mono ?_); rintro e w9 ⟨rfl, hf9, hw9, hs9⟩)
                | (refine step_copy_B (by rfl) (.tmp 61) (.tmp 69) (by rfl) _ (Q - en) (Q - en) w.heap.size en (by rfl) L ((((hb8.alloc _).drew).below hw7 (by have := hb8.lt; simp; omega)).below hw9 (by have := hb8.lt; have := hw7.size; simp at this; omega)) (fun _ => rfl) (by rw [HE3.out]; omega) (.slice (some ⟨w7.heap.size, 0, none⟩) 4 4) (fixedF (sumF M) 4) (by rfl) (hf9.rdB (fixedF_length _ 4) (by omega)) ?_; intro w10 hb10 hg10)
                | fail)
            go_wp2_with fail
            go_ret2
            rw [HZ.out, HL.out]
            rw [Nat.min_eq_left (by rw [fixedF_length]; omega), List.take_of_length_le (by rw [fixedF_length]; exact Nat.le_refl _), HE2.out] at hb10
            have hb7 : Below w.heap.size w w7 := ((hw8.alloc hw8.size _).drew).trans (hw7.mono (by have := hw8.size; simp; omega))
            have hb9 : Below w.heap.size w w9 := hb7.trans (hw9.mono hb7.size)
            refine ⟨_, rfl, ?_, hb9.grown hg10 hb9.size (fun j hj => Nat.le_of_eq (Option.some.inj hj))⟩
            have hLL : (laidS (nn : Int) d Q).length = Q := laidS_length hfit
            have := hb10.owB' (Nat.le_refl _) (by rw [hLL]; simp only [maxLen]; omega)
            rw [hLL] at this
            exact this
end Go.Proofs.Ytgnhakgfgdelpaa

-- slices.Clone of bytes.
namespace Go.Proofs.Ytgnhakgfgdelpaa
open Go.RowKit
set_option maxRecDepth 20000 in
set_option maxHeartbeats 1000000 in
theorem CloneB_any (v : Value) (l : List UInt8) (w : World) (hv : RdB w v l) (hl : l.length ≤ 140737488355328) :
    Calls Try.prog 42 #[v] w fun e w' => ∃ v', e = .returned v' ∧ OwB w' w.heap.size v' l ∧ Below w.heap.size w w' := by
  obtain ⟨A, c, rfl, hm⟩ := hv.form
  have q22 : ∀ (w : World) (a : Option Addr) (n c n' c' : Nat), (binOp .eql 25 (.slice a n c) (.slice none n' c')).run Try.prog w = .ok (.bool a.isNone) w := fun w a n c n' c' => Lib.run_eql_slice_nil w _ _ a n c n' c' Try.underlying25
  cases A with
  | none =>
    have : l = [] := by
      cases l with
      | nil => rfl
      | cons x r => obtain ⟨ad, h, _⟩ := hv.at_ (j := 0) (by simp); cases h
    subst this
    go_enter Try.func42, Try.ntmps42
    go_wp2_with fail
    go_ret
    exact ⟨_, rfl, OwB.nil _ _, Below.refl _ _⟩
  | some ad =>
    go_enter Try.func42, Try.ntmps42
    have hbase : OwB (w.alloc (.cells #[] 5)) w.heap.size (.slice (some ⟨w.heap.size, 0, none⟩) 0 0) [] := by
      have := (OBlk.new' w 5 []).owB' (base := w.heap.size) (m := []) (Nat.le_refl _) (by simp)
      exact this
    go_wp2_with (first
      | (at_builtin; refine wp_append_B rfl (.tmp 5) (.tmp 6) rfl w.heap.size _ [] rfl hbase _ l rfl (hv.alloc _) (by simp; omega) (by simp) ?_; intro v' w' ho hg hbk)
      | fail)
    go_ret
    exact ⟨v', rfl, ho, ((Below.refl w.heap.size w).alloc (Nat.le_refl _) _).grown hg (by simp) (fun k hk => Nat.le_of_eq (Option.some.inj hk))⟩
end Go.Proofs.Ytgnhakgfgdelpaa
