/- Texts joined: append, told more; copy over the head of bytes that the call owns.; ink.Uint, espalierref01.Uint; x[lo; ink.common; ink.Common; Powers of two from 512 to 65536. -/
import Derived.Test.YtaniabhajngdeaaKN1
import Derived.Test.YtaniabhajngdeaaKN2
import Derived.Laws.Entries
import Derived.Laws.Externs
import Derived.Laws.Slices
import Derived.Deep.RegionHeld3
import Derived.Deep.DeepCutAuto
-- append, told more: the slice that was appended to reads as it did.
namespace Go.Proofs.Ytaniabhajngdeaa
open Go.RowKit
section append
variable {P : Program} (w : World)
theorem run_append_keep (base : Nat) (t tx ty T : TypeId) (i : TypeInfo) (z : Value) (size bytes : Nat) (ht : P.underlying t = some (.slice T)) (hi : P.info? T = some i) (hz : i.zero = some z)
    (hsize : i.size = size) (hby : i.bytes = bytes) (hzs : z.cells.size = size)
    (v : Value) (n : Nat) (xs : List Value) (hown : Own w base T size v n xs)
    (vx : Value) (m : Nat) (news : List Value) (hs : Src P size tx vx m news w)
    (hbytes : (n + m) * bytes ≤ 140737488355328) (hsm : n + m ≤ 140737488355328) (hbase : base ≤ w.heap.size) :
    ∃ v' w', (Builtin.append_ #[t, tx] ty #[v, vx]).run P w = .ok v' w' ∧ Own w' base T size v' (n + m) (xs ++ news) ∧ w.grownBy w' v.ownBlock ∧
      (v'.ownBlock = v.ownBlock ∨ v'.ownBlock = some w.heap.size) ∧ Own w' base T size v n xs := by
  subst hsize
  subst hby
  have h63 : n + m ≤ maxLen := by simp only [maxLen]; omega
  have hl := hs.newsLen
  have hlen : (xs ++ news).length = (n + m) * i.size := by rw [List.length_append, hown.1, hl, Nat.add_mul]
  have grown : ∀ (old : Nat), old < n + m → ∀ (row : Option Nat),
      Own (w.drew.alloc (.cells ((xs ++ news).toArray ++ Builtin.zeroCells z.cells (grownCap w (n + m) old T - (n + m))) T)) base T i.size
        (.slice (some ⟨w.heap.size, 0, none⟩) (n + m) (grownCap w (n + m) old T)) (n + m) (xs ++ news) ∧
      w.grownBy (w.drew.alloc (.cells ((xs ++ news).toArray ++ Builtin.zeroCells z.cells (grownCap w (n + m) old T - (n + m))) T)) row := by
    intro old ho row
    have hge := grownCap_ge w (n + m) old T
    have hcm : grownCap w (n + m) old T ≤ maxLen := grownCap_le_maxLen w (n + m) old T h63
    refine ⟨⟨hlen, .inr ⟨w.heap.size, _, _, rfl, hbase, OBlk.new w.drew T _, hge, hcm, ?_, ?_⟩⟩, ⟨rfl, rfl, rfl, by simp, fun k hk _ => heap_alloc_old w.drew _ hk⟩⟩
    · have hs : (Builtin.zeroCells z.cells (grownCap w (n + m) old T - (n + m))).toList.length = (grownCap w (n + m) old T - (n + m)) * i.size := by
        rw [Array.length_toList, size_zeroCells, hzs]
      rw [Array.toList_append, List.length_append, hs]
      simp only [hlen, ← Nat.add_mul]
      congr 1
      omega
    · simp only [Array.toList_append]
      rw [← hlen]
      exact List.take_left
  rcases hown.2 with ⟨rfl, rfl⟩ | ⟨g, cap, cs, rfl, hbg, hg, hnc, hcm, hcs, htake⟩
  · have hx : xs = [] := List.eq_nil_of_length_eq_zero (by simpa using hown.1)
    subst hx
    by_cases hm0 : m = 0
    · subst hm0
      have hn : news = [] := List.eq_nil_of_length_eq_zero (by simpa using hl)
      subst hn
      refine ⟨.slice none 0 0, w, ?_, by simpa using hown, World.grownBy.refl w _, .inl rfl, hown⟩
      rcases hs.kind with ⟨e', hk⟩ | hk <;> simp [Builtin.append_, run_underlying ht, run_underlying hk, sizeOf, typeInfo, hi, hs.len, hs.cells]
    · have hr := run_append_grow_src (P := P) w t tx ty T i z ht hi hz none 0 0 [] (by simp [Builtin.firstCells]) vx m news hs (by omega) (by omega) (by have hb := hbytes; exact growslice_fits (by omega) hb)
      have hgr := grown 0 (by omega) (Value.ownBlock (.slice none 0 0))
      exact ⟨_, _, hr, hgr.1, hgr.2, Or.inr rfl, (hown.drew).alloc _⟩
  · by_cases hroom : n + m ≤ cap
    · have hle : n * i.size + news.length ≤ cs.length := by rw [hl, hcs, ← Nat.add_mul]; exact Nat.mul_le_mul_right _ hroom
      have hr := run_append_room_src (P := P) w t tx ty T i ht hi g 0 n cap vx m news hs hroom (fun j hj => by rw [hg.cell]; simp; omega) (fun j hj => hg.frozen (by omega))
      rw [Nat.zero_add] at hr
      refine ⟨_, _, hr, ⟨hlen, .inr ⟨g, cap, _, rfl, hbg, OBlk.setCells news _ w cs hg hle, hroom, hcm, ?_, ?_⟩⟩, grownBy_setCells _ _ _ _, .inl rfl, ?_⟩
      · rw [length_splice _ _ _ hle, hcs]
      · rw [Nat.add_mul, ← hl, splice_take _ _ _ (by omega), htake]
      · refine ⟨hown.1, .inr ⟨g, cap, _, rfl, hbg, OBlk.setCells news _ w cs hg hle, hnc, hcm, ?_, ?_⟩⟩
        · rw [length_splice _ _ _ hle, hcs]
        · rw [splice_end cs _ news (by omega) _ (Nat.le_refl _), htake]
    · have holds : (Builtin.firstCells i.size n (.slice (some ⟨g, 0, none⟩) n cap)).run P w.drew = .ok xs.toArray w.drew :=
        run_firstCells_some w.drew i.size n ⟨g, 0, none⟩ n cap xs hown.1 (fun j u hj => by rw [add_row]; simpa using hown.cells j u hj)
      have hr := run_append_grow_src (P := P) w t tx ty T i z ht hi hz (some ⟨g, 0, none⟩) n cap xs holds vx m news hs (by omega) (by omega) (growslice_fits (by omega) hbytes)
      have hgr := grown cap (by omega) (Value.ownBlock (.slice (some ⟨g, 0, none⟩) n cap))
      exact ⟨_, _, hr, hgr.1, hgr.2, Or.inr rfl, (hown.drew).alloc _⟩
end append

section laws
variable {P : Program} {w : World} {ops : Array Oper} {rest : List Oper} {o : Oper} {a : Act} {Q : Exit → Act → World → Prop}
theorem wp_append_keep (hgd : o.guard = none) (s x : Operand) (t tx : TypeId)
    (ho : o.op = .call { callee := .builtin .append, args := #[s, x], argTypes := #[t, tx] })
    (base : Nat) (T : TypeId) (i : TypeInfo) (z : Value) (size bytes : Nat) (ht : P.underlying t = some (.slice T)) (hi : P.info? T = some i) (hz : i.zero = some z)
    (hsize : i.size = size) (hby : i.bytes = bytes) (hzs : z.cells.size = size)
    (v : Value) (n : Nat) (xs : List Value) (hs : a.eval s = v) (hown : Own w base T size v n xs)
    (vx : Value) (m : Nat) (news : List Value) (hx : a.eval x = vx) (hr : Src P size tx vx m news w)
    (hbytes : (n + m) * bytes ≤ 140737488355328) (hsm : n + m ≤ 140737488355328) (hbase : base ≤ w.heap.size)
    (h : ∀ v' w', Own w' base T size v' (n + m) (xs ++ news) → w.grownBy w' v.ownBlock → (v'.ownBlock = v.ownBlock ∨ v'.ownBlock = some w.heap.size) → Own w' base T size v n xs → wpList P ops Q rest (a.put o.dst v') w') :
    wpList P ops Q (o :: rest) a w := by
  refine wpList_plain hgd fun K hK => ?_
  obtain ⟨v', w', hr, h2, h3, h4, h5⟩ := run_append_keep (P := P) w base t tx o.type T i z size bytes ht hi hz hsize hby hzs v n xs hown vx m news hr hbytes hsm hbase
  unfold Oper.wp execOp
  simp only [ho, resolve, invoke, builtin, Sem.run_bind, Sem.run_pure, Result.andThen_ok, List.map_toArray, List.map_cons, List.map_nil, hs, hx, hr]
  exact hK _ _ (h v' w' h2 h3 h4 h5)
end laws
section laws
variable {w : World} {ops : Array Oper} {rest : List Oper} {o : Oper} {a : Act} {Q : Exit → Act → World → Prop}
/-- append(l, m...) of bytes. -/
theorem wp_append_keep_B (hgd : o.guard = none) (s x : Operand)
    (ho : o.op = .call { callee := .builtin .append, args := #[s, x], argTypes := #[29, 29] })
    (base : Nat) (v : Value) (l : List UInt8) (hs : a.eval s = v) (hown : OwB w base v l)
    (vx : Value) (m : List UInt8) (hx : a.eval x = vx) (hr : RdB w vx m) (hsm : l.length + m.length ≤ 140737488355328) (hbase : base ≤ w.heap.size)
    (h : ∀ v' w', OwB w' base v' (l ++ m) → w.grownBy w' v.ownBlock → (v'.ownBlock = v.ownBlock ∨ v'.ownBlock = some w.heap.size) → OwB w' base v l → wpList Try.prog ops Q rest (a.put o.dst v') w') :
    wpList Try.prog ops Q (o :: rest) a w := by
  obtain ⟨i, hi, hz0, hz1, hz2⟩ := info_parts u8_info
  refine wp_append_keep hgd s x _ _ ho base 5 i _ 1 1 Try.underlying29 hi hz0 hz1 hz2 rfl v l.length (bvs l) hs hown vx m.length (bvs m) hx (Rd.src w Try.underlying29 (by omega) hr.rd (bvs_one m)) (by omega) hsm hbase ?_
  intro v' w' h1 h2 h3 h4
  refine h v' w' ?_ h2 h3 h4
  unfold OwB
  rw [List.length_append, bvs_append]
  exact h1
/-- append(l, x) of one byte that has just been laid. -/
theorem wp_append_keep_B1 (hgd : o.guard = none) (s x : Operand)
    (ho : o.op = .call { callee := .builtin .append, args := #[s, x], argTypes := #[29, 29] })
    (base : Nat) (v : Value) (l : List UInt8) (hs : a.eval s = v) (hown : OwB w base v l)
    (y : UInt8) (u : Value) (hu : u = .int .u8 (y.toNat : Int)) (T : TypeId) (hx : a.eval x = .slice (some ⟨w.heap.size, 0, none⟩) 1 1) (hsm : l.length + 1 ≤ 140737488355328) (hbase : base ≤ w.heap.size)
    (h : ∀ v' w', OwB w' base v' (l ++ [y]) → w.grownBy w' v.ownBlock → (v'.ownBlock = v.ownBlock ∨ (v'.ownBlock = some (w.heap.size + 1))) → OwB w' base v l → wpList Try.prog ops Q rest (a.put o.dst v') w') :
    wpList Try.prog ops Q (o :: rest) a (w.alloc (.cells #[u] T)) := by
  subst hu
  refine wp_append_keep_B hgd s x ho base v l hs (hown.alloc _) (.slice (some ⟨w.heap.size, 0, none⟩) 1 1) [y] hx (RdB.of_rd (n := 1) ?_) hsm (by simp; omega) ?_
  · simpa [bvs, bv] using Rd.one w (.int .u8 (y.toNat : Int)) T
  · intro v' w' h1 h2 h3 h4
    refine h v' w' h1 ⟨h2.os, h2.tape, h2.output, ?_, fun k hk hne => (h2.block k (by simp; omega) hne).trans (Below.heap_alloc _ _ _ hk)⟩ (by simpa using h3) h4
    have := h2.size
    simp at this; omega
theorem L_info : (Try.prog.info? 29).map (fun i => (i.zero, i.size, i.bytes)) = some (some (.slice none 0 0), 1, 24) := by kernel_rfl
/-- append(vs, u) of one slice that has just been laid. -/
theorem wp_append_L1 (hgd : o.guard = none) (s x : Operand)
    (ho : o.op = .call { callee := .builtin .append, args := #[s, x], argTypes := #[35, 35] })
    (base : Nat) (v : Value) (vs : List Value) (hs : a.eval s = v) (hown : Own w base 29 1 v vs.length vs)
    (u : Value) (hu : u.oneCell' = true) (T : TypeId) (hx : a.eval x = .slice (some ⟨w.heap.size, 0, none⟩) 1 1) (hsm : vs.length + 1 ≤ 1000000) (hbase : base ≤ w.heap.size)
    (h : ∀ v' w', Own w' base 29 1 v' (vs.length + 1) (vs ++ [u]) → w.grownBy w' v.ownBlock → (v'.ownBlock = v.ownBlock ∨ (v'.ownBlock = some (w.heap.size + 1))) → wpList Try.prog ops Q rest (a.put o.dst v') w') :
    wpList Try.prog ops Q (o :: rest) a (w.alloc (.cells #[u] T)) := by
  obtain ⟨i, hi, hz0, hz1, hz2⟩ := info_parts L_info
  refine wp_append hgd s x _ _ ho base 29 i _ 1 24 Try.underlying35 hi hz0 hz1 hz2 rfl v vs.length vs hs (hown.alloc _) (.slice (some ⟨w.heap.size, 0, none⟩) 1 1) 1 [u] hx
    (Rd.src _ Try.underlying35 (by omega) (Rd.one w u T) (by simpa using hu)) (by omega) (by omega) (by simp; omega) ?_
  intro v' w' h1 h2 h3
  refine h v' w' h1 ⟨h2.os, h2.tape, h2.output, ?_, fun k hk hne => (h2.block k (by simp; omega) hne).trans (Below.heap_alloc _ _ _ hk)⟩ (by simpa using h3)
  have := h2.size
  simp at this; omega
end laws
theorem OwB.take {w : World} {base g n cap : Nat} {l : List UInt8} (h : OwB w base (.slice (some ⟨g, 0, none⟩) n cap) l) {m : Nat} (hm : m ≤ n) : OwB w base (.slice (some ⟨g, 0, none⟩) m cap) (l.take m) := by
  have hn := h.len
  rcases h.2 with ⟨h, _⟩ | ⟨g', cap', cs, hv, hb, hg, h1, h2, h3, h4⟩
  · cases h
  · injection hv with hA _ hc
    injection hA with hA
    injection hA with hA
    subst hA
    subst hc
    have hl : (l.take m).length = m := by simp; omega
    unfold OwB
    rw [hl]
    refine ⟨by rw [bvs_length, hl]; omega, .inr ⟨g, cap, cs, rfl, hb, hg, by omega, h2, h3, ?_⟩⟩
    rw [bvs_take, ← h4, List.take_take]
    congr 1; omega
theorem Own.oblk {w : World} {base g : Nat} {T : TypeId} {size n : Nat} {v : Value} {xs : List Value} (h : Own w base T size v n xs) (hg : v.ownBlock = some g) : ∃ cs, OBlk w g T cs := by
  rcases h.2 with ⟨rfl, _⟩ | ⟨g', cap', cs, rfl, hb, ho, _⟩
  · simp [Value.ownBlock] at hg
  · simp [Value.ownBlock] at hg
    subst hg
    exact ⟨cs, ho⟩
theorem OwB.cap_eq {w : World} {b b' g n n' c c' : Nat} {l l' : List UInt8} (h : OwB w b (.slice (some ⟨g, 0, none⟩) n c) l) (h' : OwB w b' (.slice (some ⟨g, 0, none⟩) n' c') l') : c = c' := by
  rcases h.2 with ⟨h, _⟩ | ⟨g1, c1, cs1, hv, _, hg, _, _, h3, _⟩
  · cases h
  rcases h'.2 with ⟨h, _⟩ | ⟨g2, c2, cs2, hv', _, hg', _, _, h3', _⟩
  · cases h
  injection hv with hA _ hc
  injection hA with hA
  injection hA with hA
  injection hv' with hB _ hd
  injection hB with hB
  injection hB with hB
  subst hA; subst hc; subst hB; subst hd
  obtain ⟨_, rfl⟩ := hg.same hg'
  omega
/-- A slice of bytes and a slice of slices lie apart. -/
theorem OwB.ne_own {w : World} {b b' g : Nat} {u v : Value} {l : List UInt8} {n : Nat} {vs : List Value} (h : OwB w b u l) (h' : Own w b' 29 1 v n vs) (hg : v.ownBlock = some g) : some g ≠ u.ownBlock := by
  obtain ⟨cs, ho⟩ := h'.oblk hg
  exact h.ne_blk ho (by decide)
end Go.Proofs.Ytaniabhajngdeaa

-- copy over the head of bytes that the call owns.
namespace Go.Proofs.Ytaniabhajngdeaa
open Go.RowKit
theorem OwB.some' {w : World} {b n : Nat} {u : Value} {l : List UInt8} (h : OwB w b u l) (hn : l.length = n) (h0 : 0 < n) : ∃ g c, u = .slice (some ⟨g, 0, none⟩) n c := by
  subst hn
  rcases h.form with ⟨_, rfl⟩ | ⟨g, c, rfl, _⟩
  · simp at h0
  · exact ⟨g, c, rfl⟩
section laws
variable {w : World} {ops : Array Oper} {rest : List Oper} {o : Oper} {a : Act} {Q : Exit → Act → World → Prop}
theorem wp_copy_Ow (hgd : o.guard = none) (d s : Operand)
    (ho : o.op = .call { callee := .builtin .copy, args := #[d, s], argTypes := #[29, 29] })
    (base g n k c cap : Nat) (l sp : List UInt8) (hd : a.eval d = .slice (some ⟨g, 0, none⟩) n c) (hown : OwB w base (.slice (some ⟨g, 0, none⟩) (n + k) cap) (l ++ sp)) (hl : l.length = n) (hk : sp.length = k)
    (vx : Value) (m : List UInt8) (hx : a.eval s = vx) (hr : RdB w vx m) (hm : m.length = n)
    (h : ∀ w', OwB w' base (.slice (some ⟨g, 0, none⟩) (n + k) cap) (m ++ sp) → w.grownBy w' (some g) → wpList Try.prog ops Q rest (a.put o.dst (goInt (n : Nat))) w') : wpList Try.prog ops Q (o :: rest) a w := by
  have hlen : (l ++ sp).length = n + k := by simp; omega
  have hown' := hown
  unfold OwB at hown'
  rw [hlen] at hown'
  obtain ⟨h0, h1⟩ := hown'
  rcases h1 with ⟨h1, _⟩ | ⟨g', cap', cs, h1, hb, ho2, h2, h3, h4, h5⟩
  · cases h1
  · injection h1 with hA _ hc
    injection hA with hA
    injection hA with hA
    subst hA; subst hc
    rw [Nat.mul_one] at h4 h5
    refine wp_copy hgd d s _ _ ho 5 Try.underlying29 u8_size _ n c g 0 hd cs _ ho2 (fun _ => rfl) (by omega) vx m.length (bvs m) hx hr.rd (bvs_one m) ?_
    intro w' hw' hgr
    rw [hm, Nat.min_self, List.take_of_length_le (by rw [bvs_length]; omega)] at hw'
    rw [hm, Nat.min_self]
    refine h w' ?_ hgr
    unfold OwB
    have hlen2 : (m ++ sp).length = n + k := by simp; omega
    rw [hlen2]
    refine ⟨by rw [bvs_length, hlen2]; omega, .inr ⟨g, cap, _, rfl, hb, hw', h2, h3, ?_, ?_⟩⟩
    · rw [length_splice _ _ _ (by rw [bvs_length]; omega)]; omega
    · rw [Nat.mul_one, bvs_append]
      have e : splice cs 0 (bvs m) = bvs m ++ cs.drop n := by
        unfold splice
        simp [bvs_length, hm]
      rw [e, List.take_append, bvs_length, hm, List.take_of_length_le (by rw [bvs_length]; omega), Nat.add_sub_cancel_left]
      congr 1
      have : (cs.take (n + k)).drop n = (bvs (l ++ sp)).drop n := by rw [h5]
      rw [List.drop_take, Nat.add_sub_cancel_left, bvs_append, List.drop_left' (by rw [bvs_length, hl])] at this
      exact this
end laws
end Go.Proofs.Ytaniabhajngdeaa

-- ink.Uint, espalierref01.Uint: walks.
namespace Go.Proofs.Ytaniabhajngdeaa
open Go.RowKit
theorem u8_ne {y z : UInt8} (h : y ≠ z) : ((y.toNat : Int) == (z.toNat : Int)) = false := by
  have : y.toNat ≠ z.toNat := fun e => h (UInt8.toNat_inj.mp e)
  simp; omega
section laws
variable {w : World} {ops : Array Oper} {rest : List Oper} {o : Oper} {a : Act} {Q : Exit → Act → World → Prop}
/-- make([]byte, 0, n). -/
theorem wp_make_B0 (hg : o.guard = none) (l c : Operand) (hop : o.op = Op.makeSlice 29 l c)
    (C : Int) (n : Nat) (hl : a.eval l = .int .i64 0) (hc : a.eval c = .int .i64 C) (hL : C = (n : Int)) (hn : n ≤ 281474976710656) (base : Nat) (hb : base ≤ w.heap.size)
    (hK : ∀ w', OwB w' base (.slice (some ⟨w.heap.size, 0, none⟩) 0 n) [] → Below w.heap.size w w' → w'.heap.size = w.heap.size + 1 → wpList Try.prog ops Q rest (a.put o.dst (.slice (some ⟨w.heap.size, 0, none⟩) 0 n)) w') :
    wpList Try.prog ops Q (o :: rest) a w := by
  obtain ⟨i, hi, hz0, hz1, hz2⟩ := info_parts u8_info
  refine wpList_plain hg fun K hK' => ?_
  have hr := run_make (P := Try.prog) w 29 5 i _ Try.underlying29 hi hz0 .i64 .i64 0 n (by omega) (by omega) (by rw [hz2]; omega) (by omega)
  subst hL
  unfold Oper.wp
  simp [execOp, hop, hl, hc, Result.andThen]
  simp at hr
  rw [hr]
  simp [Result.andThen]
  refine hK' _ _ (hK _ ?_ ((Below.refl _ _).alloc (Nat.le_refl _) _) (by simp))
  have e := toList_madeCells_one (.int .u8 0) n
  have h1 := OBlk.new w 5 (madeCells #[.int .u8 0] n)
  rw [e, ← bvs_replicate] at h1
  have := h1.owB (base := base) hb (by simp only [maxLen, List.length_replicate]; omega) (n := 0) (by omega)
  rw [List.length_replicate] at this
  simpa [Value.cells, hz1] using this
end laws
set_option maxRecDepth 20000 in
theorem or128 (n : Nat) : bits .or .u8 ((n : Int) % 256) 128 = ((UInt8.ofNat (128 + n % 128)).toNat : Int) := by
  have h1 : (BitVec.ofInt 8 ((n : Int) % 256)).toNat = n % 256 := by rw [BitVec.toNat_ofInt]; omega
  have h2 : (BitVec.ofInt 8 (128 : Int)).toNat = 128 := rfl
  show IntKind.u8.wrap ((BitVec.ofInt 8 ((n : Int) % 256) ||| BitVec.ofInt 8 (128 : Int)).toNat : Int) = _
  rw [BitVec.toNat_or, h1, h2, IntKind.wrap_u8]
  have key : ∀ k : Fin 256, k.val ||| 128 = 128 + k.val % 128 := by decide
  have := key ⟨n % 256, by omega⟩
  simp only at this
  rw [this]
  simp
set_option maxRecDepth 20000 in
set_option maxHeartbeats 1000000 in
theorem Uint_any (n : Nat) (hn : n < 18446744073709551616) (w : World) :
    Calls Try.prog 85 #[.int .u64 n] w fun e w' => ∃ v, e = .returned v ∧ OwB w' w.heap.size v (uintF n) ∧ Below w.heap.size w w' := by
  have HL := Lib.hid (uintF_le10 hn)
  go_enter Try.func85, Try.ntmps85
  go_wp2_with (first | (at_make; refine wp_make_B0 rfl _ _ rfl _ 10 rfl rfl rfl (by omega) w.heap.size (Nat.le_refl _) ?_; intro w1 ho1 hw1 hs1) | fail)
  go_loopw [0, 3] (fun m v wr => ∃ (k : Nat) (pre : List UInt8), m = .int .u64 (k : Int) ∧ k < 18446744073709551616 ∧ Hid (uintF n = pre ++ uintF k) ∧ OwB wr w.heap.size v pre ∧ Below w.heap.size w wr)
    (fun m _ _ => (intOf m).toNat)
  case atStart => exact ⟨n, [], rfl, hn, Lib.hid rfl, ho1, hw1⟩
  case round =>
    clear ho1 hw1 hs1
    obtain ⟨k, pre, rfl, hk, HE, ho, hb⟩ := hrel
    have hbs := hb.size
    by_cases h : k < 128
    · have hlen : pre.length + 1 ≤ 10 := by
        have h1 := HL.out
        rw [HE.out, uintF_lt h] at h1
        simpa using h1
      go_wp2_with (first
        | (at_builtin; refine wp_append_B1 rfl (.tmp 15) (.tmp 18) rfl w.heap.size _ pre rfl ho (UInt8.ofNat k) _ (by rw [u8_byte]; first | rfl | (congr 1; omega)) 5 rfl (by omega) hbs ?_; intro v2 w2 ho2 hg2 _)
        | fail)
      go_ret
      refine ⟨v2, rfl, ?_, hb.grown hg2 hbs (fun g hg => (ho.lt g hg).1)⟩
      rw [HE.out, uintF_lt h]
      exact ho2
    · have hlen : pre.length + 1 ≤ 10 := by
        have h1 := HL.out
        rw [HE.out, uintF_ge h] at h1
        simp at h1; omega
      have hor := or128 k
      have hu := uintF_ge h
      have HU := Lib.hid hu
      clear hu
      go_wp2_with (first
        | (at_builtin; refine wp_append_B1 rfl (.tmp 9) (.tmp 13) rfl w.heap.size _ pre rfl ho (UInt8.ofNat (128 + k % 128)) _ rfl 5 rfl (by omega) hbs ?_; intro v2 w2 ho2 hg2 _)
        | fail)
      go_roundw
      case rel => exact ⟨k / 128, pre ++ [UInt8.ofNat (128 + k % 128)], by go_num, by omega, Lib.hid (by rw [HE.out, HU.out]; simp), ho2, hb.grown hg2 hbs (fun g hg => (ho.lt g hg).1)⟩
      case measure => simp [intOf]; omega
set_option maxRecDepth 20000 in
set_option maxHeartbeats 1000000 in
theorem RUint_any (n : Nat) (hn : n < 18446744073709551616) (w : World) :
    Calls Try.prog 89 #[.int .u64 n] w fun e w' => ∃ v, e = .returned v ∧ OwB w' w.heap.size v (uintF n) ∧ Below w.heap.size w w' := by
  have HL := Lib.hid (uintF_le10 hn)
  go_enter Try.func89, Try.ntmps89
  go_wp2_with fail
  go_loopw [0, 3] (fun m v wr => ∃ (k : Nat) (pre : List UInt8), m = .int .u64 (k : Int) ∧ k < 18446744073709551616 ∧ Hid (uintF n = pre ++ uintF k) ∧ OwB wr w.heap.size v pre ∧ Below w.heap.size w wr)
    (fun m _ _ => (intOf m).toNat)
  case atStart => exact ⟨n, [], rfl, hn, Lib.hid rfl, OwB.nil _ _, Below.refl _ _⟩
  case round =>
    obtain ⟨k, pre, rfl, hk, HE, ho, hb⟩ := hrel
    have hbs := hb.size
    by_cases h : k < 128
    · have hlen : pre.length + 1 ≤ 10 := by
        have h1 := HL.out
        rw [HE.out, uintF_lt h] at h1
        simpa using h1
      go_wp2_with (first
        | (at_builtin; refine wp_append_B1 rfl (.tmp 15) (.tmp 18) rfl w.heap.size _ pre rfl ho (UInt8.ofNat k) _ (by rw [u8_byte]; first | rfl | (congr 1; omega)) 5 rfl (by omega) hbs ?_; intro v2 w2 ho2 hg2 _)
        | fail)
      go_ret
      refine ⟨v2, rfl, ?_, hb.grown hg2 hbs (fun g hg => (ho.lt g hg).1)⟩
      rw [HE.out, uintF_lt h]
      exact ho2
    · have hlen : pre.length + 1 ≤ 10 := by
        have h1 := HL.out
        rw [HE.out, uintF_ge h] at h1
        simp at h1; omega
      have hu := uintF_ge h
      have HU := Lib.hid hu
      clear hu
      go_wp2_with (first
        | (at_builtin; refine wp_append_B1 rfl (.tmp 6) (.tmp 11) rfl w.heap.size _ pre rfl ho (UInt8.ofNat (128 + k % 128)) _ (by rw [u8_byte]; first | rfl | (congr 1; omega)) 5 rfl (by omega) hbs ?_; intro v2 w2 ho2 hg2 _)
        | fail)
      go_roundw
      case rel => exact ⟨k / 128, pre ++ [UInt8.ofNat (128 + k % 128)], by go_num, by omega, Lib.hid (by rw [HE.out, HU.out]; simp), ho2, hb.grown hg2 hbs (fun g hg => (ho.lt g hg).1)⟩
      case measure => simp [intOf]; omega
end Go.Proofs.Ytaniabhajngdeaa

-- x[lo:], x[:hi], x[lo:hi] of bytes that are read: as run equations and readings.
namespace Go.Proofs.Ytaniabhajngdeaa
open Go.RowKit
theorem u8_elem : Try.prog.underlying 29 = some (.slice (Try.prog.elem 29)) := by kernel_rfl
theorem u8_sizeOf (w : World) : (sizeOf (Try.prog.elem 29)).run Try.prog w = .ok 1 w := by
  have he : Try.prog.elem 29 = 5 := by kernel_rfl
  rw [he]
  obtain ⟨i, hi, hz0, hz1, hz2⟩ := info_parts u8_info
  simp [sizeOf, typeInfo, hi, hz1]
theorem RdB.cap {w : World} {A : Option Addr} {n c : Nat} {l : List UInt8} (h : RdB w (.slice A n c) l) : n = l.length ∧ l.length ≤ c ∧ c ≤ 9223372036854775807 := by
  obtain ⟨A', c', hv, h1, h2, _⟩ := h
  injection hv with _ hn hc
  subst hc
  simp only [maxLen] at h2
  exact ⟨hn, h1, h2⟩
/-- x[lo:hi] -/
theorem RdB.run_lh {w : World} {A : Option Addr} {n c : Nat} {l : List UInt8} (h : RdB w (.slice A n c) l) (lo hi : Nat) (h1 : lo ≤ hi) (h2 : hi ≤ l.length) :
    ∃ A' c', (∀ w', (Instr.slice 29 (.slice A n c) (some (.int .i64 (lo : Int))) (some (.int .i64 (hi : Int))) none).run Try.prog w' = .ok (.slice A' (hi - lo) c') w') ∧ RdB w (.slice A' (hi - lo) c') ((l.take hi).drop lo) := by
  obtain ⟨_, hc, _⟩ := h.cap
  refine ⟨_, _, fun w' => ?_, h.cut h1 h2⟩
  have := run_slice_lh (P := Try.prog) w' 29 A n c u8_elem .i64 .i64 lo hi (by omega) (by omega) (by omega)
  rw [this, u8_sizeOf]
  simp [Result.andThen, sliced]
theorem RdB.run_l {w : World} {A : Option Addr} {n c : Nat} {l : List UInt8} (h : RdB w (.slice A n c) l) (lo : Nat) (h1 : lo ≤ l.length) :
    ∃ A' c', (∀ w', (Instr.slice 29 (.slice A n c) (some (.int .i64 (lo : Int))) none none).run Try.prog w' = .ok (.slice A' (l.length - lo) c') w') ∧ RdB w (.slice A' (l.length - lo) c') (l.drop lo) := by
  obtain ⟨rfl, hc, _⟩ := h.cap
  have hr := h.cut h1 (Nat.le_refl _)
  rw [List.take_length] at hr
  refine ⟨_, _, fun w' => ?_, hr⟩
  have := run_slice_l (P := Try.prog) w' 29 A l.length c u8_elem .i64 lo (by omega) (by omega)
  rw [this, u8_sizeOf]
  simp [Result.andThen, sliced]
theorem RdB.run_h {w : World} {A : Option Addr} {n c : Nat} {l : List UInt8} (h : RdB w (.slice A n c) l) (hi : Nat) (h2 : hi ≤ l.length) :
    ∃ A' c', (∀ w', (Instr.slice 29 (.slice A n c) none (some (.int .i64 (hi : Int))) none).run Try.prog w' = .ok (.slice A' hi c') w') ∧ RdB w (.slice A' hi c') (l.take hi) := by
  obtain ⟨_, hc, _⟩ := h.cap
  have hr := h.cut (Nat.zero_le hi) h2
  rw [List.drop_zero, Nat.sub_zero] at hr
  refine ⟨_, _, fun w' => ?_, hr⟩
  have := run_slice_h (P := Try.prog) w' 29 A n c u8_elem .i64 hi (by omega) (by omega)
  rw [this, u8_sizeOf]
  simp [Result.andThen, sliced]
end Go.Proofs.Ytaniabhajngdeaa

-- ink.common: the walk.
namespace Go.Proofs.Ytaniabhajngdeaa
open Go.RowKit
set_option maxRecDepth 20000 in
set_option maxHeartbeats 2000000 in
theorem common_any (va vb : Value) (a b : List UInt8) (w : World) (ha : RdB w va a) (hb : RdB w vb b) :
    Calls Try.prog 100 #[va, vb] w fun e w' => e = .returned (.int .i64 (comF a b : Nat)) ∧ Below w.heap.size w w' := by
  obtain ⟨A, ca, rfl, hma⟩ := ha.form
  obtain ⟨B, cb, rfl, hmb⟩ := hb.form
  by_cases hle : (a.length : Int) ≤ (b.length : Int)
  · go_enter Try.func100, Try.ntmps100
    go_wp2_with fail
    go_loopw [13] (fun i wr => ∃ j : Nat, i = .int .i64 (j : Int) ∧ j ≤ a.length ∧ Hid (∀ i, i < j → a[i]? = b[i]?) ∧ Below w.heap.size w wr)
      (fun i _ => a.length - (intOf i).toNat)
    case atStart => exact ⟨0, rfl, Nat.zero_le _, Lib.hid (fun i h => by omega), Below.refl _ _⟩
    case round =>
      obtain ⟨j, rfl, hj, HS, hbl⟩ := hrel
      by_cases hlt : j < a.length
      · have ja : j < a.length := by omega
        have jb : j < b.length := by omega
        obtain ⟨ad, rfl, hca⟩ := (ha.below hbl (Nat.le_refl _)).at_ ja
        obtain ⟨bd, rfl, hcb⟩ := (hb.below hbl (Nat.le_refl _)).at_ jb
        have i1 : (j : Int) < (a.length : Int) := by omega
        have i2 : (j : Int) < (b.length : Int) := by omega
        by_cases hxy : a[j] = b[j]
        · have HS2 : Hid (∀ i, i < j + 1 → a[i]? = b[i]?) := Lib.hid fun i hi => by
            by_cases e : i = j
            · subst e; rw [List.getElem?_eq_getElem ja, List.getElem?_eq_getElem jb, hxy]
            · exact HS.out i (by omega)
          rw [hxy] at hca
          clear hxy
          generalize b[j] = x at hca hcb
          go_upto_region 5 with (fail)
          go_region
          go_wp2_with fail
          go_roundw
          case rel => exact ⟨j + 1, by go_num, by omega, HS2, hbl.drew⟩
          case measure => simp [intOf]; omega
        · have hcom := Lib.hid (comF_of a b j (by omega) (by omega) HS.out (fun _ _ => hxy))
          have e1 := u8_ne hxy
          clear hxy
          generalize a[j] = x at hca e1
          generalize b[j] = y at hcb e1
          go_upto_region 5 with (fail)
          go_region
          go_wp2_with fail
          go_ret
          rw [hcom.out]
          exact ⟨rfl, hbl.drew⟩
      · obtain rfl : j = a.length := by omega
        have hcom := Lib.hid (comF_of a b a.length (by omega) (by omega) HS.out (fun h h' => by omega))
        go_wp2_with fail
        go_ret
        rw [hcom.out]
        exact ⟨rfl, hbl⟩
  · go_enter Try.func100, Try.ntmps100
    go_wp2_with fail
    go_loopw [13] (fun i wr => ∃ j : Nat, i = .int .i64 (j : Int) ∧ j ≤ b.length ∧ Hid (∀ i, i < j → a[i]? = b[i]?) ∧ Below w.heap.size w wr)
      (fun i _ => b.length - (intOf i).toNat)
    case atStart => exact ⟨0, rfl, Nat.zero_le _, Lib.hid (fun i h => by omega), Below.refl _ _⟩
    case round =>
      obtain ⟨j, rfl, hj, HS, hbl⟩ := hrel
      by_cases hlt : j < b.length
      · have ja : j < a.length := by omega
        have jb : j < b.length := by omega
        obtain ⟨ad, rfl, hca⟩ := (ha.below hbl (Nat.le_refl _)).at_ ja
        obtain ⟨bd, rfl, hcb⟩ := (hb.below hbl (Nat.le_refl _)).at_ jb
        have i1 : (j : Int) < (a.length : Int) := by omega
        have i2 : (j : Int) < (b.length : Int) := by omega
        by_cases hxy : a[j] = b[j]
        · have HS2 : Hid (∀ i, i < j + 1 → a[i]? = b[i]?) := Lib.hid fun i hi => by
            by_cases e : i = j
            · subst e; rw [List.getElem?_eq_getElem ja, List.getElem?_eq_getElem jb, hxy]
            · exact HS.out i (by omega)
          rw [hxy] at hca
          clear hxy
          generalize b[j] = x at hca hcb
          go_upto_region 5 with (fail)
          go_region
          go_wp2_with fail
          go_roundw
          case rel => exact ⟨j + 1, by go_num, by omega, HS2, hbl.drew⟩
          case measure => simp [intOf]; omega
        · have hcom := Lib.hid (comF_of a b j (by omega) (by omega) HS.out (fun _ _ => hxy))
          have e1 := u8_ne hxy
          clear hxy
          generalize a[j] = x at hca e1
          generalize b[j] = y at hcb e1
          go_upto_region 5 with (fail)
          go_region
          go_wp2_with fail
          go_ret
          rw [hcom.out]
          exact ⟨rfl, hbl.drew⟩
      · obtain rfl : j = b.length := by omega
        have hcom := Lib.hid (comF_of a b b.length (by omega) (by omega) HS.out (fun h h' => by omega))
        go_wp2_with fail
        go_ret
        rw [hcom.out]
        exact ⟨rfl, hbl⟩
end Go.Proofs.Ytaniabhajngdeaa

-- ink.Common: the walk.
namespace Go.Proofs.Ytaniabhajngdeaa
open Go.RowKit
def comLs : List (List UInt8) → Nat
  | [] => 0
  | t :: r => r.foldl (fun n x => min n (comF t x)) t.length
theorem L_elem : Try.prog.underlying 35 = some (.slice (Try.prog.elem 35)) := by kernel_rfl
theorem L_sizeOf (w : World) : (sizeOf (Try.prog.elem 35)).run Try.prog w = .ok 1 w := by
  have he : Try.prog.elem 35 = 29 := by kernel_rfl
  rw [he]
  obtain ⟨i, hi, hz0, hz1, hz2⟩ := info_parts L_info
  simp [sizeOf, typeInfo, hi, hz1]
/-- x[lo:] of slices that are read. -/
theorem RdL.run_l {w : World} {A : Option Addr} {n c : Nat} {ls : List (List UInt8)} (h : RdL w (.slice A n c) ls) (lo : Nat) (h1 : lo ≤ ls.length) :
    ∃ A' c', (∀ w', (Instr.slice 35 (.slice A n c) (some (.int .i64 (lo : Int))) none none).run Try.prog w' = .ok (.slice A' (ls.length - lo) c') w') ∧ RdL w (.slice A' (ls.length - lo) c') (ls.drop lo) := by
  obtain ⟨vs, ⟨h0, A0, c0, hv, h2, h3, h4⟩, h5, h6⟩ := h
  injection hv with hA hn hc
  subst hA; subst hc; subst hn
  have hle : lo ≤ vs.length := by omega
  refine ⟨_, _, fun w' => ?_, vs.drop lo, ⟨by simp, (if c = lo then A else A.map (·.add lo)), c - lo, by rw [List.length_drop, ← h5], by simp; omega, by omega, fun j u hj => ?_⟩, by simp; omega, fun i hi => ?_⟩
  · have := run_slice_l (P := Try.prog) w' 35 A vs.length c L_elem .i64 lo (by omega) (by omega)
    rw [this, L_sizeOf, ← h5]
    simp [Result.andThen, sliced]
  · rw [List.getElem?_drop] at hj
    obtain ⟨ad, rfl, hcell⟩ := h4 _ _ hj
    have hlt := (List.getElem?_eq_some_iff.mp hj).1
    rw [if_neg (by omega)]
    exact ⟨ad.add lo, rfl, by rw [add_of_add]; exact hcell⟩
  · have hi' : lo + i < ls.length := by simp at hi; omega
    obtain ⟨u, hu, hr⟩ := h6 (lo + i) hi'
    refine ⟨u, by rw [List.getElem?_drop]; exact hu, ?_⟩
    rw [List.getElem_drop]
    exact hr
set_option maxRecDepth 20000 in
set_option maxHeartbeats 2000000 in
theorem Common_any (v : Value) (ls : List (List UInt8)) (w : World) (hv : RdL w v ls) : Calls Try.prog 81 #[v] w fun e w' => e = .returned (.int .i64 (comLs ls : Nat)) ∧ Below w.heap.size w w' := by
  obtain ⟨A, c, rfl, hm⟩ := hv.form
  cases ls with
  | nil =>
    go_enter Try.func81, Try.ntmps81
    go_wp2_with fail
    go_ret
    exact ⟨rfl, Below.refl _ _⟩
  | cons t r =>
    obtain ⟨ad, A0, c0, rfl, hc0, hr0⟩ := hv.at_ (k := 0) (by simp)
    have htl : t.length ≤ 9223372036854775807 := hr0.le
    have hc0 : w.cell? ad = some (.slice A0 t.length c0) := by simpa [Addr.add] using hc0
    have hr0 : RdB w (.slice A0 t.length c0) t := hr0
    obtain ⟨A1, c1, q1, hr1⟩ := hv.run_l 1 (by simp)
    have q1 : ∀ w', (Instr.slice 35 (.slice (some ad) (t :: r).length c) (some (.int .i64 1)) none none).run Try.prog w' = .ok (.slice A1 r.length c1) w' := fun w' => q1 w'
    have hr1 : RdL w (.slice A1 r.length c1) r := hr1
    have hrl : r.length + 1 ≤ 9223372036854775807 := by simpa using hm
    have hL : (t :: r).length = r.length + 1 := rfl
    rw [hL] at q1 hv hm ⊢
    have e0 : (((r.length : Int) + 1) == 0) = false := by simp; omega
    have i0 : (0 : Int) < (r.length : Int) + 1 := by omega
    clear hL
    go_enter Try.func81, Try.ntmps81
    go_wp2_with fail
    clear q1
    go_loopw [3, 16] (fun n i wr => ∃ j N : Nat, i = .int .i64 (j : Int) ∧ n = .int .i64 (N : Int) ∧ j ≤ r.length ∧ Hid (N = (r.take j).foldl (fun n x => min n (comF t x)) t.length) ∧ Below w.heap.size w wr)
      (fun _ i _ => r.length - (intOf i).toNat)
    case atStart => exact ⟨0, t.length, rfl, rfl, Nat.zero_le _, Lib.hid rfl, Below.refl _ _⟩
    case round =>
      obtain ⟨j, N, rfl, rfl, hj, HN, hb⟩ := hrel
      have hc0' : wr.cell? ad = some (.slice A0 t.length c0) := by
        obtain ⟨ad', A0', c0', e, h, _⟩ := (hv.below hb (Nat.le_refl _)).at_ (k := 0) (by simp)
        have hlt : ad.block < w.heap.size := block_lt_of_cell hc0
        rw [hb.cell hlt]; exact hc0
      by_cases hlt : j < r.length
      · obtain ⟨ad1, A2, c2, rfl, hcx, hrx⟩ := hr1.at_ hlt
        have hcx' : wr.cell? (ad1.add j) = some (.slice A2 r[j].length c2) := by
          have hlt' : (ad1.add j).block < w.heap.size := block_lt_of_cell hcx
          rw [hb.cell hlt']; exact hcx
        have HF : Hid ((r.take (j + 1)).foldl (fun n x => min n (comF t x)) t.length = min N (comF t r[j])) := Lib.hid (by
          rw [← List.take_append_getElem hlt, List.foldl_append, ← HN.out]; rfl)
        have hxl := hrx.le
        clear hcx
        generalize r[j] = x at *
        have i1 : (j : Int) < (r.length : Int) := by omega
        rcases (by omega : (N : Int) ≤ (comF t x : Int) ∨ (comF t x : Int) < (N : Int)) with hle | hle
        · go_wp2_with fail
          refine (common_any _ _ t x _ (hr0.below hb (Nat.le_refl _)) (hrx.below hb (Nat.le_refl _))).mono ?_
          rintro e w2 ⟨rfl, hw2⟩
          have hb2 := hb.trans (hw2.mono hb.size)
          go_wp2_with fail
          go_roundw
          case rel => exact ⟨j + 1, N, by go_num, rfl, by omega, Lib.hid (by rw [HF.out]; omega), hb2⟩
          case measure => simp [intOf]; omega
        · go_wp2_with fail
          refine (common_any _ _ t x _ (hr0.below hb (Nat.le_refl _)) (hrx.below hb (Nat.le_refl _))).mono ?_
          rintro e w2 ⟨rfl, hw2⟩
          have hb2 := hb.trans (hw2.mono hb.size)
          go_wp2_with fail
          go_roundw
          case rel => exact ⟨j + 1, comF t x, by go_num, rfl, by omega, Lib.hid (by rw [HF.out]; omega), hb2⟩
          case measure => simp [intOf]; omega
      · obtain rfl : j = r.length := by omega
        have HC : Hid (comLs (t :: r) = N) := Lib.hid (by rw [HN.out, List.take_length]; rfl)
        go_wp2_with fail
        go_ret
        rw [HC.out]
        exact ⟨rfl, hb⟩
end Go.Proofs.Ytaniabhajngdeaa

-- Powers of two from 512 to 65536.
namespace Go.Proofs.Ytaniabhajngdeaa
open Go.RowKit
def isPow (p : Int) : Prop := p = 512 ∨ p = 1024 ∨ p = 2048 ∨ p = 4096 ∨ p = 8192 ∨ p = 16384 ∨ p = 32768 ∨ p = 65536
instance (p : Int) : Decidable (isPow p) := by unfold isPow; infer_instance
def isPowB (p : Int) : Bool := decide (isPow p)
theorem and_pred (k p : Nat) (h1 : 2 ^ k ≤ p) (h2 : p < 2 ^ (k + 1)) : p &&& (p - 1) = 0 ↔ p = 2 ^ k := by
  constructor
  · intro h
    rcases Nat.lt_or_ge (2 ^ k) p with hlt | hge
    · have h3 : p.testBit k = true := by
        have := Nat.testBit_two_pow_add_eq (p - 2 ^ k) k
        rw [show 2 ^ k + (p - 2 ^ k) = p by omega] at this
        rw [this, Nat.testBit_lt_two_pow (by rw [Nat.pow_succ] at h2; omega)]; rfl
      have h4 : (p - 1).testBit k = true := by
        have := Nat.testBit_two_pow_add_eq (p - 1 - 2 ^ k) k
        rw [show 2 ^ k + (p - 1 - 2 ^ k) = p - 1 by omega] at this
        rw [this, Nat.testBit_lt_two_pow (by rw [Nat.pow_succ] at h2; omega)]; rfl
      have h5 := congrArg (fun x => Nat.testBit x k) h
      simp [Nat.testBit_and, h3, h4] at h5
    · omega
  · rintro rfl
    apply Nat.eq_of_testBit_eq
    intro i
    rw [Nat.testBit_and, Nat.testBit_two_pow, Nat.testBit_two_pow_sub_one]
    by_cases h : k = i
    · subst h; simp
    · simp [h]
theorem i64_and_nat (a b : Nat) (ha : a < 9223372036854775808) (hb : b < 9223372036854775808) : bits .and .i64 (a : Int) (b : Int) = ((a &&& b : Nat) : Int) := by
  have oi : ∀ a : Nat, a < 9223372036854775808 → (BitVec.ofInt 64 (a : Int)).toNat = a := fun a ha => by
    rw [BitVec.ofInt_natCast, BitVec.toNat_ofNat]; exact Nat.mod_eq_of_lt (by omega)
  have hx : a &&& b < 2 ^ 63 := Nat.and_lt_two_pow _ (by omega)
  show IntKind.i64.wrap ((BitVec.ofInt 64 (a : Int) &&& BitVec.ofInt 64 (b : Int)).toNat : Int) = _
  rw [BitVec.toNat_and, oi a ha, oi b hb, IntKind.wrap_i64]
  omega
theorem pow_test (p : Int) (h1 : 512 ≤ p) (h2 : p ≤ 65536) : (bits .and .i64 p (p - 1) != 0) = !isPowB p := by
  obtain ⟨n, rfl⟩ := Int.eq_ofNat_of_zero_le (show 0 ≤ p by omega)
  have e : ((n : Int) - 1) = ((n - 1 : Nat) : Int) := by omega
  rw [e, i64_and_nat n (n - 1) (by omega) (by omega)]
  have key : n &&& (n - 1) = 0 ↔ isPow n := by
    unfold isPow
    rcases Nat.lt_or_ge n 1024 with h | h
    · rw [and_pred 9 n (by omega) (by omega)]; omega
    rcases Nat.lt_or_ge n 2048 with h | h
    · rw [and_pred 10 n (by omega) (by omega)]; omega
    rcases Nat.lt_or_ge n 4096 with h | h
    · rw [and_pred 11 n (by omega) (by omega)]; omega
    rcases Nat.lt_or_ge n 8192 with h | h
    · rw [and_pred 12 n (by omega) (by omega)]; omega
    rcases Nat.lt_or_ge n 16384 with h | h
    · rw [and_pred 13 n (by omega) (by omega)]; omega
    rcases Nat.lt_or_ge n 32768 with h | h
    · rw [and_pred 14 n (by omega) (by omega)]; omega
    rcases Nat.lt_or_ge n 65536 with h | h
    · rw [and_pred 15 n (by omega) (by omega)]; omega
    · rw [and_pred 16 n (by omega) (by omega)]; omega
  unfold isPowB
  by_cases h : isPow n
  · rw [key.2 h]; simp [h]
  · have : n &&& (n - 1) ≠ 0 := fun h' => h (key.1 h')
    simp only [h, decide_false, Bool.not_false, bne_iff_ne]; omega
theorem isPowB_range {p : Int} (h : isPowB p = true) : 512 ≤ p ∧ p ≤ 65536 := by
  have := of_decide_eq_true h
  unfold isPow at this
  omega
theorem pow_eq (p : Int) (h1 : 512 ≤ p) (h2 : p ≤ 65536) : (bits .and .i64 p (p - 1) == 0) = isPowB p := by
  have h := pow_test p h1 h2
  have e : (bits .and .i64 p (p - 1) != 0) = !(bits .and .i64 p (p - 1) == 0) := rfl
  rw [e] at h
  simpa using h
theorem isPowB_out {p : Int} (h : p < 512 ∨ 65536 < p) : isPowB p = false := by
  cases e : isPowB p
  · rfl
  · have := isPowB_range e
    omega
end Go.Proofs.Ytaniabhajngdeaa
