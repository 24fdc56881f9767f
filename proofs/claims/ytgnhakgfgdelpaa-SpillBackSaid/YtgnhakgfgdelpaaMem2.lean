/- append, told more: the slice that was appended to reads as it did. -/
import Derived.Test.YtgnhakgfgdelpaaBytes
namespace Go.Proofs.Ytgnhakgfgdelpaa
open Go.RowKit
section append
variable {P : Program} (w : World)
theorem run_append_keep (base : Nat) (t tx ty T : TypeId) (i : TypeInfo) (z : Value) (size bytes : Nat) (ht : P.underlying t = some (.slice T)) (hi : P.info? T = some i) (hz : i.zero = some z)
    (hsize : i.size = size) (hby : i.bytes = bytes) (hzs : z.cells.size = size)
    (v : Value) (n : Nat) (xs : List Value) (hown : Own w base T size v n xs)
    (vx : Value) (m : Nat) (news : List Value) (hs : Src P size tx vx m news w)
    (hbytes : (n + m) * bytes ≤ 140737488355328) (hsm : n + m ≤ 140737488355328) (hbase : base ≤ w.heap.size) :
    ∃ v' w', (Builtin.append_ #[t, tx] ty #[v, vx]).run P w = .ok v' w' ∧ Own w' base T size v' (n + m) (xs ++ news) ∧ w.grownBy w' v.ownBlock ∧
      (v'.ownBlock = v.ownBlock ∨ v'.ownBlock = some w.heap.size) ∧ Own w' base T size v n xs := by
  subst hsize
  subst hby
  have h63 : n + m ≤ maxLen := by simp only [maxLen]; omega
  have hl := hs.newsLen
  have hlen : (xs ++ news).length = (n + m) * i.size := by rw [List.length_append, hown.1, hl, Nat.add_mul]
  have grown : ∀ (old : Nat), old < n + m → ∀ (row : Option Nat),
      Own (w.drew.alloc (.cells ((xs ++ news).toArray ++ Builtin.zeroCells z.cells (grownCap w (n + m) old T - (n + m))) T)) base T i.size
        (.slice (some ⟨w.heap.size, 0, none⟩) (n + m) (grownCap w (n + m) old T)) (n + m) (xs ++ news) ∧
      w.grownBy (w.drew.alloc (.cells ((xs ++ news).toArray ++ Builtin.zeroCells z.cells (grownCap w (n + m) old T - (n + m))) T)) row := by
    intro old ho row
    have hge := grownCap_ge w (n + m) old T
    have hcm : grownCap w (n + m) old T ≤ maxLen := grownCap_le_maxLen w (n + m) old T h63
    refine ⟨⟨hlen, .inr ⟨w.heap.size, _, _, rfl, hbase, OBlk.new w.drew T _, hge, hcm, ?_, ?_⟩⟩, ⟨rfl, rfl, rfl, by simp, fun k hk _ => heap_alloc_old w.drew _ hk⟩⟩
    · have hs : (Builtin.zeroCells z.cells (grownCap w (n + m) old T - (n + m))).toList.length = (grownCap w (n + m) old T - (n + m)) * i.size := by
        rw [Array.length_toList, size_zeroCells, hzs]
      rw [Array.toList_append, List.length_append, hs]
      simp only [hlen, ← Nat.add_mul]
      congr 1
      omega
    · simp only [Array.toList_append]
      rw [← hlen]
      exact List.take_left
  rcases hown.2 with ⟨rfl, rfl⟩ | ⟨g, cap, cs, rfl, hbg, hg, hnc, hcm, hcs, htake⟩
  · have hx : xs = [] := List.eq_nil_of_length_eq_zero (by simpa using hown.1)
    subst hx
    by_cases hm0 : m = 0
    · subst hm0
      have hn : news = [] := List.eq_nil_of_length_eq_zero (by simpa using hl)
      subst hn
      refine ⟨.slice none 0 0, w, ?_, by simpa using hown, World.grownBy.refl w _, .inl rfl, hown⟩
      rcases hs.kind with ⟨e', hk⟩ | hk <;> simp [Builtin.append_, run_underlying ht, run_underlying hk, sizeOf, typeInfo, hi, hs.len, hs.cells]
    · have hr := run_append_grow_src (P := P) w t tx ty T i z ht hi hz none 0 0 [] (by simp [Builtin.firstCells]) vx m news hs (by omega) (by omega) (by have hb := hbytes; exact growslice_fits (by omega) hb)
      have hgr := grown 0 (by omega) (Value.ownBlock (.slice none 0 0))
      exact ⟨_, _, hr, hgr.1, hgr.2, Or.inr rfl, (hown.drew).alloc _⟩
  · by_cases hroom : n + m ≤ cap
    · have hle : n * i.size + news.length ≤ cs.length := by rw [hl, hcs, ← Nat.add_mul]; exact Nat.mul_le_mul_right _ hroom
      have hr := run_append_room_src (P := P) w t tx ty T i ht hi g 0 n cap vx m news hs hroom (fun j hj => by rw [hg.cell]; simp; omega) (fun j hj => hg.frozen (by omega))
      rw [Nat.zero_add] at hr
      refine ⟨_, _, hr, ⟨hlen, .inr ⟨g, cap, _, rfl, hbg, OBlk.setCells news _ w cs hg hle, hroom, hcm, ?_, ?_⟩⟩, grownBy_setCells _ _ _ _, .inl rfl, ?_⟩
      · rw [length_splice _ _ _ hle, hcs]
      · rw [Nat.add_mul, ← hl, splice_take _ _ _ (by omega), htake]
      · refine ⟨hown.1, .inr ⟨g, cap, _, rfl, hbg, OBlk.setCells news _ w cs hg hle, hnc, hcm, ?_, ?_⟩⟩
        · rw [length_splice _ _ _ hle, hcs]
        · rw [splice_end cs _ news (by omega) _ (Nat.le_refl _), htake]
    · have holds : (Builtin.firstCells i.size n (.slice (some ⟨g, 0, none⟩) n cap)).run P w.drew = .ok xs.toArray w.drew :=
        run_firstCells_some w.drew i.size n ⟨g, 0, none⟩ n cap xs hown.1 (fun j u hj => by rw [add_row]; simpa using hown.cells j u hj)
      have hr := run_append_grow_src (P := P) w t tx ty T i z ht hi hz (some ⟨g, 0, none⟩) n cap xs holds vx m news hs (by omega) (by omega) (growslice_fits (by omega) hbytes)
      have hgr := grown cap (by omega) (Value.ownBlock (.slice (some ⟨g, 0, none⟩) n cap))
      exact ⟨_, _, hr, hgr.1, hgr.2, Or.inr rfl, (hown.drew).alloc _⟩
end append

section laws
variable {P : Program} {w : World} {ops : Array Oper} {rest : List Oper} {o : Oper} {a : Act} {Q : Exit → Act → World → Prop}
theorem wp_append_keep (hgd : o.guard = none) (s x : Operand) (t tx : TypeId)
    (ho : o.op = .call { callee := .builtin .append, args := #[s, x], argTypes := #[t, tx] })
    (base : Nat) (T : TypeId) (i : TypeInfo) (z : Value) (size bytes : Nat) (ht : P.underlying t = some (.slice T)) (hi : P.info? T = some i) (hz : i.zero = some z)
    (hsize : i.size = size) (hby : i.bytes = bytes) (hzs : z.cells.size = size)
    (v : Value) (n : Nat) (xs : List Value) (hs : a.eval s = v) (hown : Own w base T size v n xs)
    (vx : Value) (m : Nat) (news : List Value) (hx : a.eval x = vx) (hr : Src P size tx vx m news w)
    (hbytes : (n + m) * bytes ≤ 140737488355328) (hsm : n + m ≤ 140737488355328) (hbase : base ≤ w.heap.size)
    (h : ∀ v' w', Own w' base T size v' (n + m) (xs ++ news) → w.grownBy w' v.ownBlock → (v'.ownBlock = v.ownBlock ∨ v'.ownBlock = some w.heap.size) → Own w' base T size v n xs → wpList P ops Q rest (a.put o.dst v') w') :
    wpList P ops Q (o :: rest) a w := by
  refine wpList_plain hgd fun K hK => ?_
  obtain ⟨v', w', hr, h2, h3, h4, h5⟩ := run_append_keep (P := P) w base t tx o.type T i z size bytes ht hi hz hsize hby hzs v n xs hown vx m news hr hbytes hsm hbase
  unfold Oper.wp execOp
  simp only [ho, resolve, invoke, builtin, Sem.run_bind, Sem.run_pure, Result.andThen_ok, List.map_toArray, List.map_cons, List.map_nil, hs, hx, hr]
  exact hK _ _ (h v' w' h2 h3 h4 h5)
end laws
section laws
variable {w : World} {ops : Array Oper} {rest : List Oper} {o : Oper} {a : Act} {Q : Exit → Act → World → Prop}
/-- append(l, m...) of bytes. -/
theorem wp_append_keep_B (hgd : o.guard = none) (s x : Operand)
    (ho : o.op = .call { callee := .builtin .append, args := #[s, x], argTypes := #[25, 25] })
    (base : Nat) (v : Value) (l : List UInt8) (hs : a.eval s = v) (hown : OwB w base v l)
    (vx : Value) (m : List UInt8) (hx : a.eval x = vx) (hr : RdB w vx m) (hsm : l.length + m.length ≤ 140737488355328) (hbase : base ≤ w.heap.size)
    (h : ∀ v' w', OwB w' base v' (l ++ m) → w.grownBy w' v.ownBlock → (v'.ownBlock = v.ownBlock ∨ v'.ownBlock = some w.heap.size) → OwB w' base v l → wpList Try.prog ops Q rest (a.put o.dst v') w') :
    wpList Try.prog ops Q (o :: rest) a w := by
  obtain ⟨i, hi, hz0, hz1, hz2⟩ := info_parts u8_info
  refine wp_append_keep hgd s x _ _ ho base 5 i _ 1 1 Try.underlying25 hi hz0 hz1 hz2 rfl v l.length (bvs l) hs hown vx m.length (bvs m) hx (Rd.src w Try.underlying25 (by omega) hr.rd (bvs_one m)) (by omega) hsm hbase ?_
  intro v' w' h1 h2 h3 h4
  refine h v' w' ?_ h2 h3 h4
  unfold OwB
  rw [List.length_append, bvs_append]
  exact h1
/-- append(l, x) of one byte that has just been laid. -/
theorem wp_append_keep_B1 (hgd : o.guard = none) (s x : Operand)
    (ho : o.op = .call { callee := .builtin .append, args := #[s, x], argTypes := #[25, 25] })
    (base : Nat) (v : Value) (l : List UInt8) (hs : a.eval s = v) (hown : OwB w base v l)
    (y : UInt8) (u : Value) (hu : u = .int .u8 (y.toNat : Int)) (T : TypeId) (hx : a.eval x = .slice (some ⟨w.heap.size, 0, none⟩) 1 1) (hsm : l.length + 1 ≤ 140737488355328) (hbase : base ≤ w.heap.size)
    (h : ∀ v' w', OwB w' base v' (l ++ [y]) → w.grownBy w' v.ownBlock → (v'.ownBlock = v.ownBlock ∨ (v'.ownBlock = some (w.heap.size + 1))) → OwB w' base v l → wpList Try.prog ops Q rest (a.put o.dst v') w') :
    wpList Try.prog ops Q (o :: rest) a (w.alloc (.cells #[u] T)) := by
  subst hu
  refine wp_append_keep_B hgd s x ho base v l hs (hown.alloc _) (.slice (some ⟨w.heap.size, 0, none⟩) 1 1) [y] hx (RdB.of_rd (n := 1) ?_) hsm (by simp; omega) ?_
  · simpa [bvs, bv] using Rd.one w (.int .u8 (y.toNat : Int)) T
  · intro v' w' h1 h2 h3 h4
    refine h v' w' h1 ⟨h2.os, h2.tape, h2.output, ?_, fun k hk hne => (h2.block k (by simp; omega) hne).trans (Below.heap_alloc _ _ _ hk)⟩ (by simpa using h3) h4
    have := h2.size
    simp at this; omega
theorem L_info : (Try.prog.info? 25).map (fun i => (i.zero, i.size, i.bytes)) = some (some (.slice none 0 0), 1, 24) := by kernel_rfl
/-- append(vs, u) of one slice that has just been laid. -/
theorem wp_append_L1 (hgd : o.guard = none) (s x : Operand)
    (ho : o.op = .call { callee := .builtin .append, args := #[s, x], argTypes := #[32, 32] })
    (base : Nat) (v : Value) (vs : List Value) (hs : a.eval s = v) (hown : Own w base 25 1 v vs.length vs)
    (u : Value) (hu : u.oneCell' = true) (T : TypeId) (hx : a.eval x = .slice (some ⟨w.heap.size, 0, none⟩) 1 1) (hsm : vs.length + 1 ≤ 1000000) (hbase : base ≤ w.heap.size)
    (h : ∀ v' w', Own w' base 25 1 v' (vs.length + 1) (vs ++ [u]) → w.grownBy w' v.ownBlock → (v'.ownBlock = v.ownBlock ∨ (v'.ownBlock = some (w.heap.size + 1))) → wpList Try.prog ops Q rest (a.put o.dst v') w') :
    wpList Try.prog ops Q (o :: rest) a (w.alloc (.cells #[u] T)) := by
  obtain ⟨i, hi, hz0, hz1, hz2⟩ := info_parts L_info
  refine wp_append hgd s x _ _ ho base 25 i _ 1 24 Try.underlying32 hi hz0 hz1 hz2 rfl v vs.length vs hs (hown.alloc _) (.slice (some ⟨w.heap.size, 0, none⟩) 1 1) 1 [u] hx
    (Rd.src _ Try.underlying32 (by omega) (Rd.one w u T) (by simpa using hu)) (by omega) (by omega) (by simp; omega) ?_
  intro v' w' h1 h2 h3
  refine h v' w' h1 ⟨h2.os, h2.tape, h2.output, ?_, fun k hk hne => (h2.block k (by simp; omega) hne).trans (Below.heap_alloc _ _ _ hk)⟩ (by simpa using h3)
  have := h2.size
  simp at this; omega
end laws
theorem OwB.take {w : World} {base g n cap : Nat} {l : List UInt8} (h : OwB w base (.slice (some ⟨g, 0, none⟩) n cap) l) {m : Nat} (hm : m ≤ n) : OwB w base (.slice (some ⟨g, 0, none⟩) m cap) (l.take m) := by
  have hn := h.len
  rcases h.2 with ⟨h, _⟩ | ⟨g', cap', cs, hv, hb, hg, h1, h2, h3, h4⟩
  · cases h
  · injection hv with hA _ hc
    injection hA with hA
    injection hA with hA
    subst hA
    subst hc
    have hl : (l.take m).length = m := by simp; omega
    unfold OwB
    rw [hl]
    refine ⟨by rw [bvs_length, hl]; omega, .inr ⟨g, cap, cs, rfl, hb, hg, by omega, h2, h3, ?_⟩⟩
    rw [bvs_take, ← h4, List.take_take]
    congr 1; omega
theorem Own.oblk {w : World} {base g : Nat} {T : TypeId} {size n : Nat} {v : Value} {xs : List Value} (h : Own w base T size v n xs) (hg : v.ownBlock = some g) : ∃ cs, OBlk w g T cs := by
  rcases h.2 with ⟨rfl, _⟩ | ⟨g', cap', cs, rfl, hb, ho, _⟩
  · simp [Value.ownBlock] at hg
  · simp [Value.ownBlock] at hg
    subst hg
    exact ⟨cs, ho⟩
theorem OwB.cap_eq {w : World} {b b' g n n' c c' : Nat} {l l' : List UInt8} (h : OwB w b (.slice (some ⟨g, 0, none⟩) n c) l) (h' : OwB w b' (.slice (some ⟨g, 0, none⟩) n' c') l') : c = c' := by
  rcases h.2 with ⟨h, _⟩ | ⟨g1, c1, cs1, hv, _, hg, _, _, h3, _⟩
  · cases h
  rcases h'.2 with ⟨h, _⟩ | ⟨g2, c2, cs2, hv', _, hg', _, _, h3', _⟩
  · cases h
  injection hv with hA _ hc
  injection hA with hA
  injection hA with hA
  injection hv' with hB _ hd
  injection hB with hB
  injection hB with hB
  subst hA; subst hc; subst hB; subst hd
  obtain ⟨_, rfl⟩ := hg.same hg'
  omega
/-- A slice of bytes and a slice of slices lie apart. -/
theorem OwB.ne_own {w : World} {b b' g : Nat} {u v : Value} {l : List UInt8} {n : Nat} {vs : List Value} (h : OwB w b u l) (h' : Own w b' 25 1 v n vs) (hg : v.ownBlock = some g) : some g ≠ u.ownBlock := by
  obtain ⟨cs, ho⟩ := h'.oblk hg
  exact h.ne_blk ho (by decide)
end Go.Proofs.Ytgnhakgfgdelpaa
