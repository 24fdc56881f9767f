/- Slices of bytes: read as a list, owned as a list; make, append, copy, conversions. -/
import Derived.Test.YtgnhakgfgdelpaaProg
import Derived.Test.YtgnhakgfgdelpaaMem
import Derived.KernelRfl
namespace Go.Proofs.Ytgnhakgfgdelpaa
open Go.RowKit

/-- A byte as a value. -/
def bv (x : UInt8) : Value := .int .u8 (x.toNat : Int)
def bvs (l : List UInt8) : List Value := l.map bv
theorem bvs_length (l : List UInt8) : (bvs l).length = l.length := by simp [bvs]
theorem bvs_append (l m : List UInt8) : bvs (l ++ m) = bvs l ++ bvs m := by simp [bvs]
theorem bvs_one (l : List UInt8) : ∀ u ∈ bvs l, u.oneCell' = true := by
  intro u hu
  obtain ⟨x, _, rfl⟩ := List.mem_map.1 hu
  rfl
theorem bvs_get (l : List UInt8) (j : Nat) (u : Value) (h : (bvs l)[j]? = some u) : ∃ hj : j < l.length, u = .int .u8 (l[j].toNat : Int) := by
  unfold bvs at h
  rw [List.getElem?_map] at h
  obtain ⟨x, hx, rfl⟩ := Option.map_eq_some_iff.1 h
  obtain ⟨hj, rfl⟩ := List.getElem?_eq_some_iff.1 hx
  exact ⟨hj, rfl⟩
theorem bvs_get' (l : List UInt8) (j : Nat) (hj : j < l.length) : (bvs l)[j]? = some (.int .u8 (l[j].toNat : Int)) := by
  simp [bvs, hj, bv]
theorem bvs_take (l : List UInt8) (n : Nat) : bvs (l.take n) = (bvs l).take n := by simp [bvs]
theorem bvs_drop (l : List UInt8) (n : Nat) : bvs (l.drop n) = (bvs l).drop n := by simp [bvs]
theorem bvs_set (l : List UInt8) (j : Nat) (x : UInt8) : bvs (l.set j x) = (bvs l).set j (.int .u8 (x.toNat : Int)) := by simp [bvs, List.map_set, bv]
theorem bvs_replicate (n : Nat) : bvs (List.replicate n 0) = List.replicate n (.int .u8 0) := by simp [bvs, bv]
theorem bvs_splice (l : List UInt8) (o : Nat) (m : List UInt8) : bvs (splice l o m) = splice (bvs l) o (bvs m) := by simp [splice, bvs]

/-- The slice value v reads as the bytes l. -/
def RdB (w : World) (v : Value) (l : List UInt8) : Prop :=
  ∃ A c, v = .slice A l.length c ∧ l.length ≤ c ∧ c ≤ maxLen ∧ ∀ j (h : j < l.length), ∃ ad, A = some ad ∧ w.cell? (ad.add j) = some (.int .u8 (l[j].toNat : Int))
section RdB
variable {w w' : World} {v : Value} {l m : List UInt8}
theorem RdB.rd (h : RdB w v l) : Rd w 1 v l.length (bvs l) := by
  obtain ⟨A, c, rfl, h1, h2, h3⟩ := h
  refine ⟨by simp [bvs_length], A, c, rfl, h1, h2, fun j u hj => ?_⟩
  obtain ⟨hj', rfl⟩ := bvs_get l j u hj
  exact h3 j hj'
theorem RdB.of_rd {n : Nat} (h : Rd w 1 v n (bvs l)) : RdB w v l := by
  obtain ⟨h0, A, c, rfl, h1, h2, h3⟩ := h
  have hn : n = l.length := by simpa [bvs_length] using h0.symm
  subst hn
  exact ⟨A, c, rfl, h1, h2, fun j hj => h3 j _ (bvs_get' l j hj)⟩
theorem RdB.keep (h : RdB w v l) (hk : ∀ p : Addr, p.block < w.heap.size → w'.cell? p = w.cell? p) : RdB w' v l := by
  obtain ⟨A, c, rfl, h1, h2, h3⟩ := h
  refine ⟨A, c, rfl, h1, h2, fun j hj => ?_⟩
  obtain ⟨ad, ha, hc⟩ := h3 j hj
  exact ⟨ad, ha, (hk _ (World.block_lt_of_cell? w _ hc)).trans hc⟩
theorem RdB.below (h : RdB w v l) {B : Nat} (hb : Below B w w') (hB : w.heap.size ≤ B) : RdB w' v l := h.keep fun _ hp => hb.cell (by omega)
theorem RdB.alloc (h : RdB w v l) (o : Obj) : RdB (w.alloc o) v l := h.keep fun p hp => World.cell?_alloc_lt w o p hp
theorem RdB.drew (h : RdB w v l) : RdB w.drew v l := h
theorem RdB.nil : RdB w (.slice none 0 0) [] := ⟨none, 0, rfl, by simp, by simp, fun j h => absurd h (by simp)⟩
theorem RdB.le (h : RdB w v l) : l.length ≤ 9223372036854775807 := by
  obtain ⟨A, c, rfl, h1, h2, h3⟩ := h
  simp only [maxLen] at h2; omega
/-- The cell at an index. -/
theorem RdB.at_ {A : Option Addr} {n c j : Nat} (h : RdB w (.slice A n c) l) (hj : j < l.length) : ∃ ad, A = some ad ∧ w.cell? (ad.add j) = some (.int .u8 (l[j].toNat : Int)) := by
  obtain ⟨A, c, hv, h1, h2, h3⟩ := h
  injection hv with hA
  subst hA
  exact h3 j hj
/-- A piece, as the walk writes it. -/
theorem RdB.cut {A : Option Addr} {n c lo hi : Nat} (h : RdB w (.slice A n c) l) (hlo : lo ≤ hi) (hhi : hi ≤ l.length) :
    RdB w (.slice (if c = lo then A else A.map (·.add lo)) (hi - lo) (c - lo)) ((l.take hi).drop lo) := by
  obtain ⟨A, c, hv, h1, h2, h3⟩ := h
  injection hv with hA hn hc
  subst hA; subst hc
  have hlen : ((l.take hi).drop lo).length = hi - lo := by simp; omega
  refine ⟨_, _, by rw [hlen], by rw [hlen]; omega, by omega, fun j hj => ?_⟩
  rw [hlen] at hj
  obtain ⟨ad, rfl, hcell⟩ := h3 (lo + j) (by omega)
  rw [if_neg (by omega)]
  refine ⟨ad.add lo, rfl, ?_⟩
  rw [add_of_add, hcell]
  simp
end RdB

/-- The slice value v reads as slices that read as the lists ls. -/
def RdL (w : World) (v : Value) (ls : List (List UInt8)) : Prop :=
  ∃ vs : List Value, Rd w 1 v vs.length vs ∧ vs.length = ls.length ∧ ∀ i (h : i < ls.length), ∃ u, vs[i]? = some u ∧ RdB w u ls[i]
theorem RdL.keep {w w' : World} {v : Value} {ls : List (List UInt8)} (h : RdL w v ls) (hk : ∀ p : Addr, p.block < w.heap.size → w'.cell? p = w.cell? p) : RdL w' v ls := by
  obtain ⟨vs, h1, h2, h3⟩ := h
  refine ⟨vs, h1.keep hk, h2, fun i hi => ?_⟩
  obtain ⟨u, hu, hr⟩ := h3 i hi
  exact ⟨u, hu, hr.keep hk⟩
theorem RdL.below {w w' : World} {v : Value} {ls : List (List UInt8)} (h : RdL w v ls) {B : Nat} (hb : Below B w w') (hB : w.heap.size ≤ B) : RdL w' v ls := h.keep fun _ hp => hb.cell (by omega)
theorem RdB.form {w : World} {v : Value} {l : List UInt8} (h : RdB w v l) : ∃ A c, v = .slice A l.length c ∧ l.length ≤ 9223372036854775807 := by
  have := h.le
  obtain ⟨A, c, rfl, _⟩ := h
  exact ⟨A, c, rfl, this⟩
theorem RdL.form {w : World} {v : Value} {ls : List (List UInt8)} (h : RdL w v ls) : ∃ A c, v = .slice A ls.length c ∧ ls.length ≤ 9223372036854775807 := by
  obtain ⟨vs, ⟨_, A, c, rfl, h1, h2, _⟩, h3, _⟩ := h
  simp only [maxLen] at h2
  exact ⟨A, c, by rw [h3], by omega⟩
theorem RdL.at_ {w : World} {A : Option Addr} {n c : Nat} {ls : List (List UInt8)} (h : RdL w (.slice A n c) ls) {k : Nat} (hk : k < ls.length) :
    ∃ ad A2 c2, A = some ad ∧ w.cell? (ad.add k) = some (.slice A2 ls[k].length c2) ∧ RdB w (.slice A2 ls[k].length c2) ls[k] := by
  obtain ⟨vs, ⟨_, A', c', hv, _, _, hc⟩, _, hr⟩ := h
  obtain ⟨u, hu, hru⟩ := hr k hk
  obtain ⟨ad, ha, hcell⟩ := hc k u hu
  injection hv with hA
  obtain ⟨A2, c2, rfl, h'⟩ := hru
  exact ⟨ad, A2, c2, hA.trans ha, hcell, A2, c2, rfl, h'⟩
theorem RdL.one {w : World} {u : Value} {l : List UInt8} (h : RdB w u l) (T : TypeId) : RdL (w.alloc (.cells #[u] T)) (.slice (some ⟨w.heap.size, 0, none⟩) 1 1) [l] :=
  ⟨[u], Rd.one w u T, rfl, fun i hi => by
    obtain rfl : i = 0 := by simpa using hi
    exact ⟨u, rfl, h.alloc _⟩⟩

/-- The slice value v is the call's own, in a block from base on, and reads as the bytes l. -/
def OwB (w : World) (base : Nat) (v : Value) (l : List UInt8) : Prop := Own w base 5 1 v l.length (bvs l)
section OwB
variable {w w' : World} {v : Value} {l m : List UInt8} {base : Nat}
theorem OwB.nil (w : World) (base : Nat) : OwB w base (.slice none 0 0) [] := Own.nil w base _ _
theorem OwB.rd (h : OwB w base v l) : RdB w v l := RdB.of_rd (Own.rd h)
theorem OwB.lt (h : OwB w base v l) : ∀ g, v.ownBlock = some g → base ≤ g ∧ g < w.heap.size := Own.lt h
theorem OwB.grown {row : Option Nat} (h : OwB w base v l) (hg : w.grownBy w' row) (hne : ∀ g, v.ownBlock = some g → some g ≠ row) : OwB w' base v l := Own.grown h hg hne
theorem OwB.below {B : Nat} (h : OwB w base v l) (hb : Below B w w') (hB : ∀ g, v.ownBlock = some g → g < B) : OwB w' base v l := Own.below h hb hB
theorem OwB.below' {B : Nat} (h : OwB w base v l) (hb : Below B w w') (hB : w.heap.size ≤ B) : OwB w' base v l := Own.below' h hb hB
theorem OwB.alloc (h : OwB w base v l) (o : Obj) : OwB (w.alloc o) base v l := Own.alloc h o
theorem OwB.drew (h : OwB w base v l) : OwB w.drew base v l := h
theorem OwB.low (h : OwB w base v l) {b : Nat} (hb : b ≤ base) : OwB w b v l := Own.low h hb
theorem OwB.base_le (h : OwB w base v l) {b : Nat} (hb : ∀ g, v.ownBlock = some g → b ≤ g) : OwB w b v l := Own.base_le h hb
theorem OwB.form (h : OwB w base v l) : (v = .slice none 0 0 ∧ l = []) ∨ ∃ g cap, v = .slice (some ⟨g, 0, none⟩) l.length cap ∧ base ≤ g ∧ g < w.heap.size ∧ l.length ≤ cap ∧ cap ≤ maxLen := by
  rcases Own.form h with ⟨h, h'⟩ | h
  · exact .inl ⟨h, List.eq_nil_of_length_eq_zero h'⟩
  · exact .inr h
theorem OwB.len {A : Option Addr} {n cap : Nat} (h : OwB w base (.slice A n cap) l) : n = l.length := by
  rcases h.form with ⟨h, h'⟩ | ⟨g', c', h, _⟩
  · cases h; subst h'; rfl
  · cases h; rfl
theorem OwB.cell {g n cap : Nat} (h : OwB w base (.slice (some ⟨g, 0, none⟩) n cap) l) {j : Nat} (hj : j < l.length) : w.cell? ⟨g, j, none⟩ = some (.int .u8 (l[j].toNat : Int)) := by
  obtain rfl := h.len
  exact Own.cells h j _ (bvs_get' l j hj)
theorem OwB.frozen {g n cap : Nat} (h : OwB w base (.slice (some ⟨g, 0, none⟩) n cap) l) {j : Nat} (hj : j < l.length) : w.frozen? ⟨g, j, none⟩ = false := by
  obtain rfl := h.len
  exact Own.frozen h (by rw [bvs_length]; exact hj)
theorem OwB.set {g n cap : Nat} (h : OwB w base (.slice (some ⟨g, 0, none⟩) n cap) l) (j : Nat) (x : UInt8) : OwB (w.setCell ⟨g, j, none⟩ (.int .u8 (x.toNat : Int))) base (.slice (some ⟨g, 0, none⟩) n cap) (l.set j x) := by
  obtain rfl := h.len
  have := Own.set h j (.int .u8 (x.toNat : Int))
  unfold OwB
  rw [List.length_set, bvs_set]
  exact this
/-- The block, where capacity and length are alike. -/
theorem OwB.blk {g n : Nat} (h : OwB w base (.slice (some ⟨g, 0, none⟩) n n) l) : OBlk w g 5 (bvs l) := by
  obtain rfl := h.len
  rcases h.2 with ⟨h, _⟩ | ⟨g', cap', cs, hv, hb, hg, h1, h2, h3, h4⟩
  · cases h
  · injection hv with hA _ hc
    injection hA with hA
    injection hA with hA
    subst hA; subst hc
    rw [List.take_of_length_le (by omega)] at h4
    rw [← h4]; exact hg
theorem OBlk.owB {g : Nat} (h : OBlk w g 5 (bvs m)) (hb : base ≤ g) (hm : m.length ≤ maxLen) {n : Nat} (hn : n ≤ m.length) : OwB w base (.slice (some ⟨g, 0, none⟩) n m.length) (m.take n) := by
  have e : (m.take n).length = n := by simp; omega
  refine ⟨by simp [bvs_length], .inr ⟨g, m.length, bvs m, by rw [e], hb, h, by rw [e]; exact hn, hm, by simp [bvs_length], ?_⟩⟩
  rw [bvs_take, e, Nat.mul_one]
theorem OBlk.owB' {g : Nat} (h : OBlk w g 5 (bvs m)) (hb : base ≤ g) (hm : m.length ≤ maxLen) : OwB w base (.slice (some ⟨g, 0, none⟩) m.length m.length) m := by
  have := h.owB hb hm (Nat.le_refl _)
  rwa [List.take_length] at this
/-- A block of another type is none of the call's own bytes. -/
theorem OwB.ne_blk {g : Nat} {T : TypeId} {cs : List Value} (h : OwB w base v l) (hg : OBlk w g T cs) (hT : 5 ≠ T) : some g ≠ v.ownBlock := by
  intro e
  rcases h.2 with ⟨rfl, _⟩ | ⟨g', cap', cs', rfl, _, hg', _⟩
  · simp [Value.ownBlock] at e
  · simp [Value.ownBlock] at e
    subst e
    exact hg'.ne hg hT rfl
def slen : Value → Nat | .slice _ n _ => n | _ => 0
theorem OwB.len_le (h : OwB w base v l) : l.length ≤ 9223372036854775807 := h.rd.le
/-- Two slices of the call's own, the second one made after the first: they don't share a block. -/
theorem OwB.apart {w0 w : World} {b b' : Nat} {v v' : Value} {l l' : List UInt8} (h : OwB w0 b v l) (h' : OwB w b' v' l') (hb : w0.heap.size ≤ b') : ∀ g, v.ownBlock = some g → some g ≠ v'.ownBlock := by
  intro g hg he
  have h1 := (h.lt g hg).2
  have h2 := (h'.lt g he.symm).1
  omega
theorem OBlk.rdB {g n : Nat} (h : OBlk w g 5 (bvs m)) (hn : m.length = n) (hm : n ≤ 140737488355328) : RdB w (.slice (some ⟨g, 0, none⟩) n n) m := by
  subst hn
  exact (h.owB' (base := 0) (Nat.zero_le _) (by simp only [maxLen]; omega)).rd
end OwB

theorem u8_info : (Try.prog.info? 5).map (fun i => (i.zero, i.size, i.bytes)) = some (some (.int .u8 0), 1, 1) := by kernel_rfl
theorem u8_size : (Try.prog.info? 5).map (·.size) = some 1 := by kernel_rfl

section laws
variable {w : World} {ops : Array Oper} {rest : List Oper} {o : Oper} {a : Act} {Q : Exit → Act → World → Prop}
/-- make([]byte, n): zeros, the call's own. -/
theorem wp_make_B (hg : o.guard = none) (l c : Operand) (hop : o.op = Op.makeSlice 25 l c)
    (L : Int) (n : Nat) (hl : a.eval l = .int .i64 L) (hc : a.eval c = .int .i64 L) (hL : L = (n : Int)) (hn : n ≤ 281474976710656)
    (hK : ∀ w', OBlk w' w.heap.size 5 (bvs (List.replicate n 0)) → Below w.heap.size w w' → w'.heap.size = w.heap.size + 1 → wpList Try.prog ops Q rest (a.put o.dst (.slice (some ⟨w.heap.size, 0, none⟩) n n)) w') :
    wpList Try.prog ops Q (o :: rest) a w := by
  obtain ⟨i, hi, hz0, hz1, hz2⟩ := info_parts u8_info
  refine wpList_plain hg fun K hK' => ?_
  have hr := run_make (P := Try.prog) w 25 5 i _ Try.underlying25 hi hz0 .i64 .i64 n n (by omega) (by omega) (by rw [hz2]; omega) (by omega)
  subst hL
  unfold Oper.wp
  simp [execOp, hop, hl, hc, hr, Result.andThen]
  refine hK' _ _ (hK _ ?_ ((Below.refl _ _).alloc (Nat.le_refl _) _) (by simp))
  have e := toList_madeCells_one (.int .u8 0) n
  have := OBlk.new w 5 (madeCells #[.int .u8 0] n)
  rw [e, ← bvs_replicate] at this
  simpa [Value.cells, hz1] using this
/-- append(l, m...) of bytes. -/
theorem wp_append_B (hgd : o.guard = none) (s x : Operand)
    (ho : o.op = .call { callee := .builtin .append, args := #[s, x], argTypes := #[25, 25] })
    (base : Nat) (v : Value) (l : List UInt8) (hs : a.eval s = v) (hown : OwB w base v l)
    (vx : Value) (m : List UInt8) (hx : a.eval x = vx) (hr : RdB w vx m) (hsm : l.length + m.length ≤ 140737488355328) (hbase : base ≤ w.heap.size)
    (h : ∀ v' w', OwB w' base v' (l ++ m) → w.grownBy w' v.ownBlock → (v'.ownBlock = v.ownBlock ∨ v'.ownBlock = some w.heap.size) → wpList Try.prog ops Q rest (a.put o.dst v') w') :
    wpList Try.prog ops Q (o :: rest) a w := by
  obtain ⟨i, hi, hz0, hz1, hz2⟩ := info_parts u8_info
  refine wp_append hgd s x _ _ ho base 5 i _ 1 1 Try.underlying25 hi hz0 hz1 hz2 rfl v l.length (bvs l) hs hown vx m.length (bvs m) hx (Rd.src w Try.underlying25 (by omega) hr.rd (bvs_one m)) (by omega) hsm hbase ?_
  intro v' w' h1 h2 h3
  refine h v' w' ?_ h2 h3
  unfold OwB
  rw [List.length_append, bvs_append]
  exact h1
/-- append(l, x) of one byte that has just been laid. -/
theorem wp_append_B1 (hgd : o.guard = none) (s x : Operand)
    (ho : o.op = .call { callee := .builtin .append, args := #[s, x], argTypes := #[25, 25] })
    (base : Nat) (v : Value) (l : List UInt8) (hs : a.eval s = v) (hown : OwB w base v l)
    (y : UInt8) (u : Value) (hu : u = .int .u8 (y.toNat : Int)) (T : TypeId) (hx : a.eval x = .slice (some ⟨w.heap.size, 0, none⟩) 1 1) (hsm : l.length + 1 ≤ 140737488355328) (hbase : base ≤ w.heap.size)
    (h : ∀ v' w', OwB w' base v' (l ++ [y]) → w.grownBy w' v.ownBlock → (v'.ownBlock = v.ownBlock ∨ (v'.ownBlock = some (w.heap.size + 1))) → wpList Try.prog ops Q rest (a.put o.dst v') w') :
    wpList Try.prog ops Q (o :: rest) a (w.alloc (.cells #[u] T)) := by
  subst hu
  refine wp_append_B hgd s x ho base v l hs (hown.alloc _) (.slice (some ⟨w.heap.size, 0, none⟩) 1 1) [y] hx (RdB.of_rd (n := 1) ?_) hsm (by simp; omega) ?_
  · simpa [bvs, bv] using Rd.one w (.int .u8 (y.toNat : Int)) T
  · intro v' w' h1 h2 h3
    refine h v' w' h1 ⟨h2.os, h2.tape, h2.output, ?_, fun k hk hne => (h2.block k (by simp; omega) hne).trans (Below.heap_alloc _ _ _ hk)⟩ (by simpa using h3)
    have := h2.size
    simp at this; omega
/-- string(b). -/
theorem run_B_string {v : Value} {l : List UInt8} (h : RdB w v l) : (convert 25 9 v).run Try.prog w = .ok (.string ⟨l.toArray⟩) w := by
  obtain ⟨A, c, rfl, h1, h2, h3⟩ := h
  cases A with
  | none =>
    have : l = [] := by
      cases l with
      | nil => rfl
      | cons x r => obtain ⟨ad, h, _⟩ := h3 0 (by simp); cases h
    subst this
    rw [run_convert_bytes_string w _ _ 5 none _ c Try.underlying25 Try.underlying5 Try.underlying9]
    rfl
  | some ad =>
    refine run_convert_bytes_back w _ _ 5 ad c l Try.underlying25 Try.underlying5 Try.underlying9 fun j hj => ?_
    obtain ⟨ad', he, hc⟩ := h3 j hj
    injection he with he
    subst he; exact hc
theorem wp_B_string (hgd : o.guard = none) (x : Operand) (ho : o.op = .convert 25 9 x) (v : Value) (l : List UInt8) (hx : a.eval x = v) (hr : RdB w v l)
    (h : wpList Try.prog ops Q rest (a.put o.dst (.string ⟨l.toArray⟩)) w) : wpList Try.prog ops Q (o :: rest) a w := by
  refine wpList_plain hgd fun K hK => ?_
  have hrun := run_B_string hr
  unfold Oper.wp
  simp [execOp, ho, hx, hrun, Result.andThen]
  exact hK _ _ h
/-- []byte(s). -/
theorem run_string_B (w : World) (s : ByteArray) (hs : s.size ≤ maxLen) : ∃ cap w', (convert 9 25 (.string s)).run Try.prog w = .ok (.slice (some ⟨w.heap.size, 0, none⟩) s.size cap) w' ∧
    OwB w' w.heap.size (.slice (some ⟨w.heap.size, 0, none⟩) s.size cap) s.data.toList ∧ Below w.heap.size w w' ∧ w'.heap.size = w.heap.size + 1 := by
  have hr := run_bytes_of_string (P := Try.prog) w 9 25 5 s Try.underlying9 Try.underlying25 Try.underlying5
  have hge := grownCap_ge w s.size 0 5
  have hle := grownCap_le_maxLen w s.size 0 5 hs
  generalize grownCap w s.size 0 5 = cap at *
  obtain ⟨⟨l⟩⟩ := s
  change l.length ≤ cap at hge
  have e : (bytesRow ⟨⟨l⟩⟩ cap).toList = bvs l ++ List.replicate (cap - l.length) (.int .u8 0) := by
    simp [bytesRow, bvs, bv]; rfl
  have hcs : (bytesRow ⟨⟨l⟩⟩ cap).toList.length = cap := by
    rw [e]; simp [bvs_length]; omega
  refine ⟨_, _, hr, ⟨by simp [bvs_length], .inr ⟨w.heap.size, cap, (bytesRow ⟨⟨l⟩⟩ cap).toList, rfl, Nat.le_refl _, ⟨((bytesRow ⟨⟨l⟩⟩ cap).size, (bytesRow ⟨⟨l⟩⟩ cap).size + 1), ?_, ?_⟩, hge, hle, by simpa using hcs, ?_⟩⟩, ((Below.refl _ _).drew).alloc (Nat.le_refl _) _, by simp⟩
  · exact (heap_alloc_new w.drew _).trans (by simp)
  · intro j hj
    rw [Array.length_toList] at hj
    simp only
    omega
  · rw [e, Nat.mul_one]
    show List.take l.length _ = bvs l
    rw [show l.length = (bvs l).length by rw [bvs_length]]
    exact List.take_left
/-- append(l, s...) of a string onto bytes of the call's own. -/
theorem wp_append_S (hgd : o.guard = none) (s x : Operand)
    (ho : o.op = .call { callee := .builtin .append, args := #[s, x], argTypes := #[25, 9] })
    (base : Nat) (v : Value) (l : List UInt8) (hs : a.eval s = v) (hown : OwB w base v l)
    (m : ByteArray) (hx : a.eval x = .string m) (hsm : l.length + m.size ≤ 140737488355328) (hbase : base ≤ w.heap.size)
    (h : ∀ v' w', OwB w' base v' (l ++ m.data.toList) → w.grownBy w' v.ownBlock → (v'.ownBlock = v.ownBlock ∨ v'.ownBlock = some w.heap.size) → wpList Try.prog ops Q rest (a.put o.dst v') w') :
    wpList Try.prog ops Q (o :: rest) a w := by
  obtain ⟨i, hi, hz0, hz1, hz2⟩ := info_parts u8_info
  refine wp_append hgd s x _ _ ho base 5 i _ 1 1 Try.underlying25 hi hz0 hz1 hz2 rfl v l.length (bvs l) hs hown (.string m) m.size (byteCells m) hx (Src.ofString w Try.underlying9 m) (by omega) hsm hbase ?_
  intro v' w' h1 h2 h3
  refine h v' w' ?_ h2 h3
  unfold OwB
  rw [List.length_append, bvs_append]
  exact h1
/-- copy of bytes into a writable block of bytes, at a place. -/
theorem wp_copy_B (hgd : o.guard = none) (d s : Operand)
    (ho : o.op = .call { callee := .builtin .copy, args := #[d, s], argTypes := #[25, 25] })
    (dA : Option Addr) (dLen dCap g off : Nat) (hd' : a.eval d = .slice dA dLen dCap) (cs : List UInt8) (hg : OBlk w g 5 (bvs cs)) (hd : 0 < dLen → dA = some ⟨g, off, none⟩) (hfit : off + dLen ≤ cs.length)
    (vx : Value) (m : List UInt8) (hx : a.eval s = vx) (hr : RdB w vx m)
    (h : ∀ w', OBlk w' g 5 (bvs (splice cs off (m.take (min m.length dLen)))) → w.grownBy w' (some g) → wpList Try.prog ops Q rest (a.put o.dst (goInt (min m.length dLen : Nat))) w') : wpList Try.prog ops Q (o :: rest) a w := by
  refine wp_copy hgd d s _ _ ho 5 Try.underlying25 u8_size dA dLen dCap g off hd' (bvs cs) 5 hg hd (by rw [bvs_length]; exact hfit) vx m.length (bvs m) hx hr.rd (bvs_one m) ?_
  intro w' h1 h2
  refine h w' ?_ h2
  rw [bvs_splice, bvs_take]
  exact h1
theorem step_copy_B {K : Act → World → Prop} {E : Prop} (hgd : o.guard = none) (d s : Operand)
    (ho : o.op = .call { callee := .builtin .copy, args := #[d, s], argTypes := #[25, 25] })
    (dA : Option Addr) (dLen dCap g off : Nat) (hd' : a.eval d = .slice dA dLen dCap) (cs : List UInt8) (hg : OBlk w g 5 (bvs cs)) (hd : 0 < dLen → dA = some ⟨g, off, none⟩) (hfit : off + dLen ≤ cs.length)
    (vx : Value) (m : List UInt8) (hx : a.eval s = vx) (hr : RdB w vx m)
    (h : ∀ w', OBlk w' g 5 (bvs (splice cs off (m.take (min m.length dLen)))) → w.grownBy w' (some g) → K (a.put o.dst (goInt (min m.length dLen : Nat))) w') :
    if Region.wanted o (yielded ops a.tmps) = true then Oper.wp Try.prog o a w K Q else E := by
  have hw : Region.wanted o (yielded ops a.tmps) = true := by simp [Region.wanted, hgd]
  rw [if_pos hw]
  have hrun := run_copy_OBlk (P := Try.prog) w _ 25 o.type 5 Try.underlying25 u8_size dA dLen dCap g off (bvs cs) 5 hg hd (by rw [bvs_length]; exact hfit) vx m.length (bvs m) hr.rd (bvs_one m)
  have hw' := h _ (by rw [bvs_splice, bvs_take]; exact OBlk.setCells ((bvs m).take (min m.length dLen)) off _ _ hg (by rw [bvs_length]; simp [bvs_length]; omega)) (grownBy_setCells _ _ _ _)
  unfold Oper.wp
  simp [execOp, ho, resolve, invoke, builtin, hd', hx, hrun, Result.andThen, Oper.upon]
  exact hw'
/-- copy of a string into a writable block of bytes, with room for it. -/
theorem wp_copy_S (hgd : o.guard = none) (d s : Operand)
    (ho : o.op = .call { callee := .builtin .copy, args := #[d, s], argTypes := #[25, 9] })
    (dA : Option Addr) (dLen dCap g off : Nat) (hd' : a.eval d = .slice dA dLen dCap) (cs : List UInt8) (hg : OBlk w g 5 (bvs cs)) (hd : dA = some ⟨g, off, none⟩) (hfit : off + dLen ≤ cs.length)
    (m : ByteArray) (hx : a.eval s = .string m) (hm : m.size ≤ dLen)
    (h : ∀ w', OBlk w' g 5 (bvs (splice cs off m.data.toList)) → w.grownBy w' (some g) → wpList Try.prog ops Q rest (a.put o.dst (goInt (m.size : Nat))) w') : wpList Try.prog ops Q (o :: rest) a w := by
  subst hd
  obtain ⟨i, hi, hz0, hz1, hz2⟩ := info_parts u8_info
  have hlen : (byteCells m).length = m.size := byteCells_length m
  have hmin : Nat.min m.size dLen = m.size := Nat.min_eq_left hm
  have hst := run_storeCells_cells (P := Try.prog) g off (byteCells m) 0 w
      (fun j hj => by rw [hg.cell]; simp [bvs_length]; omega) (fun j hj => hg.frozen (by rw [bvs_length]; omega)) (fun u hu => by obtain ⟨_, _, rfl⟩ := List.mem_map.1 hu; rfl)
  simp only [Nat.add_zero] at hst
  have hf := firstCells_string (P := Try.prog) m w
  have hrun : (Builtin.copy_ #[25, 9] o.type #[.slice (some ⟨g, off, none⟩) dLen dCap, .string m]).run Try.prog w = .ok (goInt (m.size : Nat)) (w.setCells g off (byteCells m)) := by
    simp [Builtin.copy_, run_underlying Try.underlying25, sizeOf, typeInfo, hi, hz1, Builtin.lenOf, hmin, hf, hst]
  refine wpList_plain hgd fun K hK => ?_
  have hw' := h _ (by rw [bvs_splice]; exact OBlk.setCells (byteCells m) off _ _ hg (by rw [bvs_length, hlen]; omega)) (grownBy_setCells _ _ _ _)
  unfold Oper.wp
  simp [execOp, ho, resolve, invoke, builtin, hd', hx, hrun, Result.andThen]
  exact hK _ _ hw'
end laws
end Go.Proofs.Ytgnhakgfgdelpaa
