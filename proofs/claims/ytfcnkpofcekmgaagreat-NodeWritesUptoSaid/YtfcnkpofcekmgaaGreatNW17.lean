/- Texts joined: slices.Insert of one cell, slices.Delete of one; A row of cells that has been turned, in words of pieces. -/
import Derived.Test.YtfcnkpofcekmgaaGreatNW7
import Derived.Test.YtfcnkpofcekmgaaGreatNW16
import Derived.Deep.RegionLaw
import Derived.Deep.RegionHeld3
import Derived.Deep.CutRange
import Derived.Deep.DeepCutAuto
-- slices.Insert of one cell, slices.Delete of one: walks.
namespace Go.Proofs.YtfcnkpofcekmgaaGreat
open Go.RowKit
set_option maxRecDepth 100000
theorem Own.some5 {w : World} {b n c size : Nat} {T : TypeId} {A : Option Addr} {xs : List Value} (h : Own w b T size (.slice A n c) n xs) (h0 : 0 < n) : ∃ g, A = some ⟨g, 0, none⟩ := by
  rcases h.form with ⟨_, h1⟩ | ⟨g, cap, h1, _⟩
  · omega
  · injection h1 with hA
    exact ⟨g, hA⟩
theorem Own.blk5 {w : World} {b n c g : Nat} {xs : List Value} (h : Own w b 43 5 (.slice (some ⟨g, 0, none⟩) n c) n xs) : ∃ cs, OBlk w g 43 cs ∧ n ≤ c ∧ c ≤ maxLen ∧ cs.length = c * 5 ∧ cs.take (n * 5) = xs ∧ b ≤ g := by
  rcases h.2 with ⟨h1, _⟩ | ⟨g', cap, cs, h1, hb, hg, h2, h3, h4, h5⟩
  · cases h1
  · injection h1 with hA _ hc
    injection hA with hA
    injection hA with hA
    subst hA; subst hc
    exact ⟨cs, hg, h2, h3, h4, h5, hb⟩
theorem splice_midV (pre mid post new : List Value) (o : Nat) (ho : pre.length = o) (h : mid.length = new.length) : splice (pre ++ (mid ++ post)) o new = pre ++ (new ++ post) := by
  subst ho
  unfold splice
  rw [List.take_left, ← List.append_assoc pre mid post, ← h, ← List.length_append, List.drop_left]
/-- What lies in a row behind an insert in place. -/
theorem ins_cells {cs xs y : List Value} {n i : Nat} (hx : cs.take (n * 5) = xs) (hi : i ≤ n) (hc : (n + 1) * 5 ≤ cs.length) (hy : y.length = 5) :
    (splice (splice cs ((i + 1) * 5) ((cs.drop (i * 5)).take ((n - i) * 5))) (i * 5) y).take ((n + 1) * 5) = xs.take (i * 5) ++ (y ++ xs.drop (i * 5)) := by
  subst hx
  obtain ⟨Z, hZ⟩ : ∃ Z, Z = (cs.drop (i * 5)).take 5 := ⟨_, rfl⟩
  obtain ⟨R', hR'⟩ : ∃ R', R' = (cs.drop ((i + 1) * 5)).take ((n - i) * 5) := ⟨_, rfl⟩
  obtain ⟨S, hS⟩ : ∃ S, S = cs.drop ((n + 1) * 5) := ⟨_, rfl⟩
  obtain ⟨R, hR⟩ : ∃ R, R = (cs.drop (i * 5)).take ((n - i) * 5) := ⟨_, rfl⟩
  have lZ : Z.length = 5 := by rw [hZ, List.length_take, List.length_drop]; omega
  have lR' : R'.length = (n - i) * 5 := by rw [hR', List.length_take, List.length_drop]; omega
  have lR : R.length = (n - i) * 5 := by rw [hR, List.length_take, List.length_drop]; omega
  have lP : (cs.take (i * 5)).length = i * 5 := by rw [List.length_take]; omega
  have e1 : cs.drop ((i + 1) * 5) = R' ++ S := by
    have := (List.take_append_drop ((n - i) * 5) (cs.drop ((i + 1) * 5))).symm
    rw [List.drop_drop, show (i + 1) * 5 + (n - i) * 5 = (n + 1) * 5 by omega, ← hR', ← hS] at this
    exact this
  have e2 : cs.drop (i * 5) = Z ++ (R' ++ S) := by
    have := (List.take_append_drop 5 (cs.drop (i * 5))).symm
    rw [List.drop_drop, show i * 5 + 5 = (i + 1) * 5 by omega, ← hZ, e1] at this
    exact this
  have e3 : cs = (cs.take (i * 5) ++ Z) ++ (R' ++ S) := by
    rw [List.append_assoc, ← e2, List.take_append_drop]
  have e4 : splice cs ((i + 1) * 5) R = (cs.take (i * 5) ++ Z) ++ (R ++ S) := by
    conv => lhs; rw [e3]
    exact splice_midV _ _ _ _ _ (by rw [List.length_append]; omega) (by omega)
  have e5 : (cs.take (n * 5)).take (i * 5) = cs.take (i * 5) := by rw [List.take_take, Nat.min_eq_left (by omega)]
  have e6 : (cs.take (n * 5)).drop (i * 5) = R := by rw [hR, List.drop_take]; congr 1; omega
  rw [← hR, e4, List.append_assoc, splice_midV _ Z _ y (i * 5) lP (by omega), e5, e6, ← List.append_assoc y R S, ← List.append_assoc]
  refine List.take_left' ?_
  simp only [List.length_append]
  omega
/-- .. and of a new row. -/
theorem grow_cells {xs zs y : List Value} {n i cap : Nat} (hx : xs.length = n * 5) (hi : i ≤ n) (hz : zs.length = (cap - i) * 5) (hc : n + 1 ≤ cap) (hy : y.length = 5) :
    (splice (splice (xs.take (i * 5) ++ zs) (i * 5) y) ((i + 1) * 5) (xs.drop (i * 5))).take ((n + 1) * 5) = xs.take (i * 5) ++ (y ++ xs.drop (i * 5)) := by
  have lP : (xs.take (i * 5)).length = i * 5 := by rw [List.length_take]; omega
  have lR : (xs.drop (i * 5)).length = (n - i) * 5 := by rw [List.length_drop]; omega
  have e1 : zs = zs.take 5 ++ zs.drop 5 := (List.take_append_drop 5 zs).symm
  have e2 : zs.drop 5 = (zs.drop 5).take ((n - i) * 5) ++ (zs.drop 5).drop ((n - i) * 5) := (List.take_append_drop _ _).symm
  have l1 : (zs.take 5).length = 5 := by rw [List.length_take]; omega
  have l2 : ((zs.drop 5).take ((n - i) * 5)).length = (n - i) * 5 := by rw [List.length_take, List.length_drop]; omega
  have e3 : splice (xs.take (i * 5) ++ zs) (i * 5) y = xs.take (i * 5) ++ (y ++ zs.drop 5) := by
    conv => lhs; rw [e1]
    exact splice_midV _ _ _ _ _ lP (by omega)
  rw [e3, ← List.append_assoc, e2, splice_midV _ _ _ (xs.drop (i * 5)) ((i + 1) * 5) (by rw [List.length_append]; omega) (by omega), ← List.append_assoc, List.append_assoc (xs.take (i * 5)) y]
  refine List.take_left' ?_
  simp only [List.length_append]
  omega
theorem flatC_ins (l : List CV) (i : Nat) (y : CV) : (flatC l).take (i * 5) ++ (y.cells ++ (flatC l).drop (i * 5)) = flatC (l.take i ++ y :: l.drop i) := by
  rw [flatC_append, flatC_take, show flatC (y :: l.drop i) = y.cells ++ flatC (l.drop i) from rfl, flatC_drop]
/-- What an insert leaves. -/
def InsAt (w : World) (u : Value) (l' : List CV) (e : Ending) (w' : World) : Prop :=
  ∃ v', e = .returned v' ∧ Own w' 0 43 5 v' l'.length (flatC l') ∧ Turn (fun g => u.ownBlock = some g) w w' ∧ (∀ k, v'.ownBlock = some k → u.ownBlock = some k ∨ w.heap.size ≤ k)
section
variable {w : World} {l : List CV} {u : Value}
set_option maxRecDepth 100000 in
set_option maxHeartbeats 4000000 in
theorem Insert_end (hu : Own w 0 43 5 u l.length (flatC l)) (y : CV) (hy : ∀ v ∈ y.cells, v.oneCell' = true) (hn : (l.length + 1) * 72 ≤ 140737488355328) :
    Calls Tryz.prog 209 #[u, .int .i64 (l.length : Int), .slice (some ⟨w.heap.size, 0, none⟩) 1 1] (w.alloc (.cells #[y.kv, .int .i64 y.c.kind, y.vv, .int .i64 y.c.page, .int .i64 y.c.count] 43))
      (InsAt w u (l ++ [y])) := by
  have hsrc := Rd.five w y.kv (.int .i64 y.c.kind) y.vv (.int .i64 y.c.page) (.int .i64 y.c.count) 43
  have hA : Below w.heap.size w (w.alloc (.cells #[y.kv, .int .i64 y.c.kind, y.vv, .int .i64 y.c.page, .int .i64 y.c.count] 43)) := (Below.refl _ _).alloc (Nat.le_refl _) _
  have hu2 := hu.alloc (.cells #[y.kv, .int .i64 y.c.kind, y.vv, .int .i64 y.c.page, .int .i64 y.c.count] 43)
  have hz := World.size_alloc w (.cells #[y.kv, .int .i64 y.c.kind, y.vv, .int .i64 y.c.page, .int .i64 y.c.count] 43)
  obtain ⟨A, c, rfl⟩ := Own.slice hu
  obtain ⟨_, A', c', hv, hc1, hc2, _⟩ := hu.rd
  injection hv with hA1 _ hc'
  subst hA1 hc'
  have hc3 : c ≤ 9223372036854775807 := hc2
  generalize w.alloc (.cells #[y.kv, .int .i64 y.c.kind, y.vv, .int .i64 y.c.page, .int .i64 y.c.count] 43) = w1 at *
  go_enter Tryz.func209, Tryz.ntmps209
  obtain ⟨X, hsl⟩ := sl_lO A l.length c l.length (Nat.le_refl _)
  go_wp2_with (first
    | (at_builtin; refine wp_append_C rfl (.tmp 23) (.tmp 24) rfl 0 (.slice A l.length c) l rfl hu2 (.slice (some ⟨w.heap.size, 0, none⟩) 1 1) [y] rfl hsrc (by simpa [flatC] using hy) (by simpa using hn) (Nat.zero_le _) ?_; intro v' w' ho' hg' hk'; obtain ⟨B', b', rfl⟩ := Own.slice ho'; simp only [List.length_append, List.length_singleton] at ho' hk')
    | fail)
  go_ret
  refine ⟨.slice B' (l.length + 1) b', rfl, by simpa using ho', ⟨hg'.os.trans hA.os, hg'.tape.trans hA.tape, hg'.output.trans hA.output, Nat.le_trans hA.size hg'.size, fun k hk hne => ?_⟩, fun k hk => ?_⟩
  · exact (hg'.block k (Nat.lt_of_lt_of_le hk hA.size) (fun e => hne e.symm)).trans (hA.block k hk)
  · rcases hk' with e | e
    · exact .inl (e.symm.trans hk)
    · right
      have := e.symm.trans hk
      injection this with this
      omega
set_option maxRecDepth 100000 in
set_option maxHeartbeats 1000000 in
theorem Insert_grow {A : Option Addr} {c : Nat} (hu : Own w 0 43 5 (.slice A l.length c) l.length (flatC l)) (hl : ∀ v ∈ flatC l, v.oneCell' = true) (y : CV) (hy : ∀ v ∈ y.cells, v.oneCell' = true) (hn : (l.length + 1) * 72 ≤ 140737488355328) (i : Nat) (hi : i < l.length) (hc : c < l.length + 1) :
    Calls Tryz.prog 209 #[.slice A l.length c, .int .i64 (i : Int), .slice (some ⟨w.heap.size, 0, none⟩) 1 1] (w.alloc (.cells #[y.kv, .int .i64 y.c.kind, y.vv, .int .i64 y.c.page, .int .i64 y.c.count] 43))
      (InsAt w (.slice A l.length c) (l.take i ++ y :: l.drop i)) := by
  obtain ⟨g, rfl⟩ := hu.some5 (by omega)
  have hsrc := Rd.five w y.kv (.int .i64 y.c.kind) y.vv (.int .i64 y.c.page) (.int .i64 y.c.count) 43
  have hA : Below w.heap.size w (w.alloc (.cells #[y.kv, .int .i64 y.c.kind, y.vv, .int .i64 y.c.page, .int .i64 y.c.count] 43)) := (Below.refl _ _).alloc (Nat.le_refl _) _
  have hu2 := hu.alloc (.cells #[y.kv, .int .i64 y.c.kind, y.vv, .int .i64 y.c.page, .int .i64 y.c.count] 43)
  have hz := World.size_alloc w (.cells #[y.kv, .int .i64 y.c.kind, y.vv, .int .i64 y.c.page, .int .i64 y.c.count] 43)
  generalize w.alloc (.cells #[y.kv, .int .i64 y.c.kind, y.vv, .int .i64 y.c.page, .int .i64 y.c.count] 43) = w1 at *
  obtain ⟨cs, hb, h1, h2, h3, h4, -⟩ := hu2.blk5
  have hc3 : c ≤ 9223372036854775807 := h2
  have hr1 : Rd w1 5 (.slice (some ⟨g, 0, none⟩) i c) i ((flatC l).take (i * 5)) := by
    have := hb.rd5 (lo := 0) (m := i) (c := c) (by omega) (by omega) h2
    rw [slA_zero, Nat.zero_mul, Nat.sub_zero, List.drop_zero, ← show (cs.take (l.length * 5)).take (i * 5) = cs.take (i * 5) by rw [List.take_take, Nat.min_eq_left (by omega)], h4] at this
    exact this
  have hfl := flatC_length l
  have s1 := fun W => sl_l g l.length c i (by omega) W
  have s2 := fun W => sl_h g l.length c i (by omega) W
  obtain ⟨G, hG⟩ : ∃ G, w1.heap.size = G := ⟨_, rfl⟩
  obtain ⟨X1, hX1⟩ : ∃ X, slA g c i = X := ⟨_, rfl⟩
  rw [hX1] at s1
  have HZ := Lib.hid hz
  clear hz
  have i1 : ((l.length : Int) + 1) - (i : Int) = ((l.length + 1 - i : Nat) : Int) := by omega
  have i2 : ¬ (i : Int) = (l.length : Int) := by omega
  have i3 : (c : Int) < (l.length : Int) + 1 := by omega
  have i4 : IntKind.i64.wrap ((l.length : Int) + 1) = (l.length : Int) + 1 := by rw [IntKind.wrap_i64]; omega
  have i5 : IntKind.i64.wrap ((i : Int) + 1) = (i : Int) + 1 := by rw [IntKind.wrap_i64]; omega
  have i6 : IntKind.i64.wrap ((l.length : Int) + 1 - (i : Int)) = (l.length : Int) + 1 - (i : Int) := by rw [IntKind.wrap_i64]; omega
  go_enter Tryz.func209, Tryz.ntmps209
  go_upto_region 11 with (first
    | (at_builtin; refine wp_append_Z5 rfl (.tmp 34) (.tmp 39) rfl (some ⟨g, 0, none⟩) i c (l.length + 1 - i) ((flatC l).take (i * 5)) rfl hr1 _ (by first | rfl | exact i1 | omega) rfl (by omega) (by omega) (by omega) (l.length + 1) (by omega) ?_; rw [hG]; intro cap zs w2 hb2 k1 k2 k3 hw2)
    | ((with_reducible refine at_copy ?_); refine wp_copy_5 rfl (.tmp 43) (.tmp 44) rfl G _ _ hb2 (some ⟨G, i * 5, none⟩) (l.length + 1 - i) (cap - i) (i * 5) rfl (fun _ => rfl) (by rw [List.length_append, List.length_take]; omega) (.slice (some ⟨w.heap.size, 0, none⟩) 1 1) 1 _ rfl (hsrc.below hw2 (Nat.le_of_eq hG)) (fun u hu => hy u (List.mem_of_mem_take hu)) ?_; intro w3 hb3 hg3)
    | fail)
  rw [show min 1 (l.length + 1 - i) = 1 by omega, show List.take (1 * 5) [y.kv, Value.int IntKind.i64 y.c.kind, y.vv, Value.int IntKind.i64 y.c.page, Value.int IntKind.i64 y.c.count] = y.cells from rfl] at hb3
  have hgl := hb.lt
  have hbg := (hb.below hw2 (by omega)).grown hg3 (by intro e; injection e with e; omega)
  obtain ⟨X4, hX4⟩ : ∃ X, slA G cap (i + 1) = X := ⟨_, rfl⟩
  have hd4 : 0 < l.length - i → some X4 = some (⟨G, (i + 1) * 5, none⟩ : Addr) := fun _ => by rw [← hX4, slA_eq (by omega)]
  have hsr : Rd w3 5 (.slice (some X1) (l.length - i) (c - i)) (l.length - i) ((flatC l).drop (i * 5)) := by
    have := hbg.rd5 (lo := i) (m := l.length - i) (c := c) (by omega) (by omega) h2
    rw [show (cs.drop (i * 5)).take ((l.length - i) * 5) = (flatC l).drop (i * 5) by rw [← h4, List.drop_take]; congr 1; omega, hX1] at this
    exact this
  have hsr' : Rd w3.drew 5 (.slice (some X1) (l.length - i) (c - i)) (l.length - i) ((flatC l).drop (i * 5)) := hsr
  have hhl : ∀ v ∈ (flatC l).drop (i * 5), v.oneCell' = true := fun v hv => hl v (List.mem_of_mem_drop hv)
  have hlen3 : (splice (List.take (i * 5) (flatC l) ++ zs) (i * 5) y.cells).length = cap * 5 := by
    have h5 : y.cells.length = 5 := rfl
    rw [length_splice _ _ _ (by rw [h5, List.length_append, List.length_take]; omega), List.length_append, List.length_take]
    omega
  have s4 : ∀ W, (Instr.slice 32 (.slice (some ⟨G, 0, none⟩) (l.length + 1) cap) (some (.int .i64 ((i : Int) + 1))) none none).run Tryz.prog W = .ok (.slice (some X4) (l.length - i) (cap - (i + 1))) W := fun W => by
    have := sl_l G (l.length + 1) cap (i + 1) (by omega) W
    rw [hX4, show l.length + 1 - (i + 1) = l.length - i by omega] at this
    exact this
  go_region_law
    (first
      | (refine step_copy_5 (by rfl) (.tmp 50) (.tmp 53) (by rfl) G _ _ hb3.drew (some X4) (l.length - i) (cap - (i + 1)) ((i + 1) * 5) (by simp [Act.eval, Act.put]) hd4 (by rw [hlen3]; omega) (.slice (some X1) (l.length - i) (c - i)) (l.length - i) _ (by simp [Act.eval, Act.put]) hsr' (fun u hu => hhl u (List.mem_of_mem_take hu)) ?_; intro w4 hb4 hg4)
      | fail)
  all_goals
    rw [Nat.min_self, show List.take ((l.length - i) * 5) ((flatC l).drop (i * 5)) = (flatC l).drop (i * 5) from List.take_of_length_le (by rw [List.length_drop]; omega)] at hb4
    go_wp2_with fail
    go_ret
    have hlen : (l.take i ++ y :: l.drop i).length = l.length + 1 := by simp only [List.length_append, List.length_cons, List.length_take, List.length_drop]; omega
    refine ⟨.slice (some ⟨G, 0, none⟩) (l.length + 1) cap, rfl, ?_, ?_, fun k hk => ?_⟩
    · rw [hlen, ← flatC_ins]
      refine ⟨by simp only [List.length_append, List.length_take, List.length_drop, hfl]; show _ + (5 + _) = _; omega, .inr ⟨G, cap, _, rfl, Nat.zero_le _, hb4, k1, k2, ?_, ?_⟩⟩
      · rw [length_splice _ _ _ (by rw [hlen3, List.length_drop]; omega), hlen3]
      · exact grow_cells (cap := cap) hfl (by omega) k3 k1 rfl
    · have hz := HZ.out
      refine ⟨hg4.os.trans (hg3.os.trans (hw2.os.trans hA.os)), hg4.tape.trans (hg3.tape.trans (hw2.tape.trans hA.tape)), hg4.output.trans (hg3.output.trans (hw2.output.trans hA.output)), Nat.le_trans hA.size (Nat.le_trans hw2.size (Nat.le_trans hg3.size hg4.size)), fun k hk _ => ?_⟩
      have q1 := hw2.size
      have q2 : w2.heap.size ≤ w3.drew.heap.size := hg3.size
      rw [hg4.block k (by omega) (by intro e; injection e with e; omega), show w3.drew.heap[k]? = w3.heap[k]? from rfl, hg3.block k (by omega) (by intro e; injection e with e; omega), hw2.block k (by omega), hA.block k hk]
    · have hz := HZ.out
      have hk' : G = k := Option.some.inj hk
      right; omega
set_option maxRecDepth 100000 in
set_option maxHeartbeats 1000000 in
theorem Insert_room {A : Option Addr} {c : Nat} (hu : Own w 0 43 5 (.slice A l.length c) l.length (flatC l)) (hl : ∀ v ∈ flatC l, v.oneCell' = true) (y : CV) (hy : ∀ v ∈ y.cells, v.oneCell' = true) (hn : (l.length + 1) * 72 ≤ 140737488355328) (i : Nat) (hi : i < l.length) (hc : l.length + 1 ≤ c) :
    Calls Tryz.prog 209 #[.slice A l.length c, .int .i64 (i : Int), .slice (some ⟨w.heap.size, 0, none⟩) 1 1] (w.alloc (.cells #[y.kv, .int .i64 y.c.kind, y.vv, .int .i64 y.c.page, .int .i64 y.c.count] 43))
      (InsAt w (.slice A l.length c) (l.take i ++ y :: l.drop i)) := by
  obtain ⟨g, rfl⟩ := hu.some5 (by omega)
  have hgw := (Own.lt hu g rfl).2
  have hyO := OBlk.new' w 43 [y.kv, .int .i64 y.c.kind, y.vv, .int .i64 y.c.page, .int .i64 y.c.count]
  have hyb := heap_alloc_new w (.cells #[y.kv, .int .i64 y.c.kind, y.vv, .int .i64 y.c.page, .int .i64 y.c.count] 43)
  have hA : Below w.heap.size w (w.alloc (.cells #[y.kv, .int .i64 y.c.kind, y.vv, .int .i64 y.c.page, .int .i64 y.c.count] 43)) := (Below.refl _ _).alloc (Nat.le_refl _) _
  have hu2 := hu.alloc (.cells #[y.kv, .int .i64 y.c.kind, y.vv, .int .i64 y.c.page, .int .i64 y.c.count] 43)
  have HZ := Lib.hid (World.size_alloc w (.cells #[y.kv, .int .i64 y.c.kind, y.vv, .int .i64 y.c.page, .int .i64 y.c.count] 43))
  generalize w.alloc (.cells #[y.kv, .int .i64 y.c.kind, y.vv, .int .i64 y.c.page, .int .i64 y.c.count] 43) = w1 at *
  obtain ⟨cs, hb, h1, h2, h3, h4, -⟩ := hu2.blk5
  obtain ⟨G, hG⟩ : ∃ G, w.heap.size = G := ⟨_, rfl⟩
  rw [hG] at hyb hyO ⊢
  have hc3 : c ≤ 9223372036854775807 := h2
  have hfl := flatC_length l
  have hov : ∀ lb cb, (callFunc 212 #[.slice (some ⟨G, 0, none⟩) 1 1, .slice (some ⟨g, (i + 1) * 5, none⟩) lb cb]).run Tryz.prog w1 = .ok (.value (.bool false)) w1 := fun lb cb => by
    obtain ⟨fr, hb0, -⟩ := hb
    rw [run_callFunc_extern Tryz.func212 (by kernel_rfl) (by kernel_rfl) (by kernel_rfl) (e := Extern.SlicesOverlaps.overlaps #[32, 32] #[4]) (by kernel_rfl),
      Lib.run_overlaps_apart w1 32 4 43 Tryz.underlying32 5 Cell_sizeOf ⟨G, 0, none⟩ ⟨g, (i + 1) * 5, none⟩ 1 1 lb cb (show G ≠ g by omega) 43 43 5 cs.length (by simp [World.shape?, hyb]) (by simp [World.shape?, hb0]) (by omega) (by simp [World.frozen?, hyb]) (by simp [World.frozen?, hyb])]
    rfl
  have s2 := fun W => sl_h g l.length c (l.length + 1) hc W
  have s3 : ∀ W, (Instr.slice 32 (.slice (some ⟨g, 0, none⟩) (l.length + 1) c) (some (.int .i64 ((i : Int) + 1))) none none).run Tryz.prog W = .ok (.slice (some ⟨g, (i + 1) * 5, none⟩) (l.length - i) (c - (i + 1))) W := fun W => by
    have := sl_l g (l.length + 1) c (i + 1) (by omega) W
    rw [slA_eq (by omega), show l.length + 1 - (i + 1) = l.length - i by omega] at this
    exact this
  have s4 : ∀ W, (Instr.slice 32 (.slice (some ⟨g, 0, none⟩) (l.length + 1) c) (some (.int .i64 (i : Int))) none none).run Tryz.prog W = .ok (.slice (some ⟨g, i * 5, none⟩) (l.length + 1 - i) (c - i)) W := fun W => by
    have := sl_l g (l.length + 1) c i (by omega) W
    rw [slA_eq (by omega)] at this
    exact this
  have s1 : ∀ W, (Instr.slice 32 (.slice (some ⟨g, 0, none⟩) l.length c) (some (.int .i64 (i : Int))) none none).run Tryz.prog W = .ok (.slice (some ⟨g, i * 5, none⟩) (l.length - i) (c - i)) W := fun W => by
    have := sl_l g l.length c i (by omega) W
    rw [slA_eq (by omega)] at this
    exact this
  have hsr : Rd w1.drew 5 (.slice (some ⟨g, i * 5, none⟩) (l.length + 1 - i) (c - i)) (l.length + 1 - i) ((cs.drop (i * 5)).take ((l.length + 1 - i) * 5)) := by
    have := hb.rd5 (lo := i) (m := l.length + 1 - i) (c := c) (by omega) (by omega) h2
    rw [slA_eq (by omega)] at this
    exact this
  have e9 : ((cs.drop (i * 5)).take ((l.length + 1 - i) * 5)).take (min (l.length + 1 - i) (l.length - i) * 5) = (cs.drop (i * 5)).take ((l.length - i) * 5) := by
    rw [List.take_take, Nat.min_eq_left (by omega)]
    congr 1; omega
  have e8 : (cs.drop (i * 5)).take ((l.length - i) * 5) = (flatC l).drop (i * 5) := by rw [← h4, List.drop_take]; congr 1; omega
  have i2 : ¬ (i : Int) = (l.length : Int) := by omega
  have i3 : ¬ (c : Int) < (l.length : Int) + 1 := by omega
  have i4 : IntKind.i64.wrap ((l.length : Int) + 1) = (l.length : Int) + 1 := by rw [IntKind.wrap_i64]; omega
  have i5 : IntKind.i64.wrap ((i : Int) + 1) = (i : Int) + 1 := by rw [IntKind.wrap_i64]; omega
  go_enter Tryz.func209, Tryz.ntmps209
  go_upto_region 15 with (simp only [hov])
  clear hov
  go_region_law
    (first
      | (refine step_copy_5 (by rfl) (.tmp 73) (.tmp 76) (by rfl) g _ cs hb.drew (some ⟨g, (i + 1) * 5, none⟩) (l.length - i) (c - (i + 1)) ((i + 1) * 5) (by simp [Act.eval, Act.put]) (fun _ => by rfl) (by omega) (.slice (some ⟨g, i * 5, none⟩) (l.length + 1 - i) (c - i)) (l.length + 1 - i) _ (by simp [Act.eval, Act.put]) hsr (by rw [e9, e8]; exact fun u hu => hl u (List.mem_of_mem_drop hu)) ?_; rw [e9]; intro w2 hb2 hg2)
      | fail)
  all_goals
    have hl2 : (splice cs ((i + 1) * 5) ((cs.drop (i * 5)).take ((l.length - i) * 5))).length = c * 5 := by
      rw [length_splice _ _ _ (by rw [List.length_take, List.length_drop]; omega)]; exact h3
    have hsrc2 : Rd w2 5 (.slice (some ⟨G, 0, none⟩) 1 1) 1 [y.kv, .int .i64 y.c.kind, y.vv, .int .i64 y.c.page, .int .i64 y.c.count] :=
by
      have := (hyO.drew.grown hg2 (fun e => absurd (Option.some.inj e) (by omega))).rd5 (lo := 0) (m := 1) (c := 1) (by omega) (by simp) (by simp [maxLen])
      rw [slA_zero, Nat.sub_zero] at this
      exact this
    go_wp2_with (first
      | ((with_reducible refine at_copy ?_); refine wp_copy_5 rfl (.tmp 80) (.tmp 81) rfl g _ _ hb2 (some ⟨g, i * 5, none⟩) (l.length + 1 - i) (c - i) (i * 5) rfl (fun _ => rfl) (by rw [hl2]; omega) (.slice (some ⟨G, 0, none⟩) 1 1) 1 _ rfl hsrc2 (fun u hu => hy u (List.mem_of_mem_take hu)) ?_; intro w3 hb3 hg3)
      | fail)
    go_ret
    have hz1 : w1.heap.size = w.heap.size + 1 := HZ.out
    have hlen : (l.take i ++ y :: l.drop i).length = l.length + 1 := by simp only [List.length_append, List.length_cons, List.length_take, List.length_drop]; omega
    rw [show min 1 (l.length + 1 - i) = 1 by omega, show List.take (1 * 5) [y.kv, Value.int IntKind.i64 y.c.kind, y.vv, Value.int IntKind.i64 y.c.page, Value.int IntKind.i64 y.c.count] = y.cells from rfl] at hb3
    refine ⟨.slice (some ⟨g, 0, none⟩) (l.length + 1) c, rfl, ?_, ?_, fun k hk => .inl hk⟩
    · rw [hlen, ← flatC_ins]
      refine ⟨by simp only [List.length_append, List.length_take, List.length_drop, hfl]; show _ + (5 + _) = _; omega, .inr ⟨g, c, _, rfl, Nat.zero_le _, hb3, hc, h2, ?_, ?_⟩⟩
      · rw [length_splice _ _ _ (by rw [hl2]; show _ + 5 ≤ _; omega), hl2]
      · exact ins_cells h4 (by omega) (by omega) rfl
    · refine ⟨hg3.os.trans (hg2.os.trans hA.os), hg3.tape.trans (hg2.tape.trans hA.tape), hg3.output.trans (hg2.output.trans hA.output), Nat.le_trans hA.size (Nat.le_trans hg2.size hg3.size), fun k hk hne => ?_⟩
      have q1 : w1.heap.size ≤ w2.heap.size := hg2.size
      have hkg : ¬ some k = some g := fun e => hne (by injection e with e; rw [e]; rfl)
      rw [hg3.block k (by omega) hkg, hg2.block k (show k < w1.heap.size by omega) hkg]
      exact hA.block k hk
theorem InsertS_any (hu : Own w 0 43 5 u l.length (flatC l)) (hl : ∀ v ∈ flatC l, v.oneCell' = true) (y : CV) (hy : ∀ v ∈ y.cells, v.oneCell' = true) (hn : (l.length + 1) * 72 ≤ 140737488355328) (i : Nat) (hi : i ≤ l.length) :
    Calls Tryz.prog 209 #[u, .int .i64 (i : Int), .slice (some ⟨w.heap.size, 0, none⟩) 1 1] (w.alloc (.cells #[y.kv, .int .i64 y.c.kind, y.vv, .int .i64 y.c.page, .int .i64 y.c.count] 43))
      (InsAt w u (l.take i ++ y :: l.drop i)) := by
  by_cases h : i = l.length
  · subst h
    rw [List.take_length, List.drop_length]
    exact Insert_end hu y hy hn
  · obtain ⟨A, c, rfl⟩ := Own.slice hu
    by_cases hc : c < l.length + 1
    · exact Insert_grow hu hl y hy hn i (by omega) hc
    · exact Insert_room hu hl y hy hn i (by omega) (by omega)
end
end Go.Proofs.YtfcnkpofcekmgaaGreat

-- A row of cells that has been turned, in words of pieces.
namespace Go.Proofs.YtfcnkpofcekmgaaGreat
open Go.RowKit
section
variable {w0 w w' : World} {L : List Ent} {u v : Value} {l : List CV} {y : CV} {i : Nat}
/-- A row that has been turned. -/
theorem Sep.insAt {l' : List CV} {e : Ending} (h : Sep w0 w (ownE 43 5 u l.length (flatC l) :: L)) (hi : InsAt w u l' e w') : ∃ v', e = .returned v' ∧ Sep w0 w' (ownE 43 5 v' l'.length (flatC l') :: L) := by
  obtain ⟨v', rfl, ho, ht, hv⟩ := hi
  exact ⟨v', rfl, h.upd ht ho (fun g hg => ⟨hv g hg, (Own.lt ho g hg).2⟩)⟩
end
end Go.Proofs.YtfcnkpofcekmgaaGreat
