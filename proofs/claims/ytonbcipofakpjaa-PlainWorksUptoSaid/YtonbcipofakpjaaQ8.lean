/- Texts joined: slices.Insert of one cell, slices.Delete of one; Separate pieces of memory; espalierref03.Book -/
import Derived.Test.YtonbcipofakpjaaQ2
import Derived.Test.YtonbcipofakpjaaQ3
import Derived.Test.YtonbcipofakpjaaQ7
import Derived.Deep.RegionLaw
-- slices.Insert of one cell, slices.Delete of one: walks.
namespace Go.Proofs.Ytonbcipofakpjaa
open Go.RowKit
set_option maxRecDepth 100000
theorem Own.some5 {w : World} {b n c size : Nat} {T : TypeId} {A : Option Addr} {xs : List Value} (h : Own w b T size (.slice A n c) n xs) (h0 : 0 < n) : ∃ g, A = some ⟨g, 0, none⟩ := by
  rcases h.form with ⟨_, h1⟩ | ⟨g, cap, h1, _⟩
  · omega
  · injection h1 with hA
    exact ⟨g, hA⟩
theorem Own.blk5 {w : World} {b n c g : Nat} {xs : List Value} (h : Own w b 32 5 (.slice (some ⟨g, 0, none⟩) n c) n xs) : ∃ cs, OBlk w g 32 cs ∧ n ≤ c ∧ c ≤ maxLen ∧ cs.length = c * 5 ∧ cs.take (n * 5) = xs ∧ b ≤ g := by
  rcases h.2 with ⟨h1, _⟩ | ⟨g', cap, cs, h1, hb, hg, h2, h3, h4, h5⟩
  · cases h1
  · injection h1 with hA _ hc
    injection hA with hA
    injection hA with hA
    subst hA; subst hc
    exact ⟨cs, hg, h2, h3, h4, h5, hb⟩
theorem splice_midV (pre mid post new : List Value) (o : Nat) (ho : pre.length = o) (h : mid.length = new.length) : splice (pre ++ (mid ++ post)) o new = pre ++ (new ++ post) := by
  subst ho
  unfold splice
  rw [List.take_left, ← List.append_assoc pre mid post, ← h, ← List.length_append, List.drop_left]
/-- What lies in a row behind an insert in place. -/
theorem ins_cells {cs xs y : List Value} {n i : Nat} (hx : cs.take (n * 5) = xs) (hi : i ≤ n) (hc : (n + 1) * 5 ≤ cs.length) (hy : y.length = 5) :
    (splice (splice cs ((i + 1) * 5) ((cs.drop (i * 5)).take ((n - i) * 5))) (i * 5) y).take ((n + 1) * 5) = xs.take (i * 5) ++ (y ++ xs.drop (i * 5)) := by
  subst hx
  obtain ⟨Z, hZ⟩ : ∃ Z, Z = (cs.drop (i * 5)).take 5 := ⟨_, rfl⟩
  obtain ⟨R', hR'⟩ : ∃ R', R' = (cs.drop ((i + 1) * 5)).take ((n - i) * 5) := ⟨_, rfl⟩
  obtain ⟨S, hS⟩ : ∃ S, S = cs.drop ((n + 1) * 5) := ⟨_, rfl⟩
  obtain ⟨R, hR⟩ : ∃ R, R = (cs.drop (i * 5)).take ((n - i) * 5) := ⟨_, rfl⟩
  have lZ : Z.length = 5 := by rw [hZ, List.length_take, List.length_drop]; omega
  have lR' : R'.length = (n - i) * 5 := by rw [hR', List.length_take, List.length_drop]; omega
  have lR : R.length = (n - i) * 5 := by rw [hR, List.length_take, List.length_drop]; omega
  have lP : (cs.take (i * 5)).length = i * 5 := by rw [List.length_take]; omega
  have e1 : cs.drop ((i + 1) * 5) = R' ++ S := by
    have := (List.take_append_drop ((n - i) * 5) (cs.drop ((i + 1) * 5))).symm
    rw [List.drop_drop, show (i + 1) * 5 + (n - i) * 5 = (n + 1) * 5 by omega, ← hR', ← hS] at this
    exact this
  have e2 : cs.drop (i * 5) = Z ++ (R' ++ S) := by
    have := (List.take_append_drop 5 (cs.drop (i * 5))).symm
    rw [List.drop_drop, show i * 5 + 5 = (i + 1) * 5 by omega, ← hZ, e1] at this
    exact this
  have e3 : cs = (cs.take (i * 5) ++ Z) ++ (R' ++ S) := by
    rw [List.append_assoc, ← e2, List.take_append_drop]
  have e4 : splice cs ((i + 1) * 5) R = (cs.take (i * 5) ++ Z) ++ (R ++ S) := by
    conv => lhs; rw [e3]
    exact splice_midV _ _ _ _ _ (by rw [List.length_append]; omega) (by omega)
  have e5 : (cs.take (n * 5)).take (i * 5) = cs.take (i * 5) := by rw [List.take_take, Nat.min_eq_left (by omega)]
  have e6 : (cs.take (n * 5)).drop (i * 5) = R := by rw [hR, List.drop_take]; congr 1; omega
  rw [← hR, e4, List.append_assoc, splice_midV _ Z _ y (i * 5) lP (by omega), e5, e6, ← List.append_assoc y R S, ← List.append_assoc]
  refine List.take_left' ?_
  simp only [List.length_append]
  omega
/-- .. and of a new row. -/
theorem grow_cells {xs zs y : List Value} {n i cap : Nat} (hx : xs.length = n * 5) (hi : i ≤ n) (hz : zs.length = (cap - i) * 5) (hc : n + 1 ≤ cap) (hy : y.length = 5) :
    (splice (splice (xs.take (i * 5) ++ zs) (i * 5) y) ((i + 1) * 5) (xs.drop (i * 5))).take ((n + 1) * 5) = xs.take (i * 5) ++ (y ++ xs.drop (i * 5)) := by
  have lP : (xs.take (i * 5)).length = i * 5 := by rw [List.length_take]; omega
  have lR : (xs.drop (i * 5)).length = (n - i) * 5 := by rw [List.length_drop]; omega
  have e1 : zs = zs.take 5 ++ zs.drop 5 := (List.take_append_drop 5 zs).symm
  have e2 : zs.drop 5 = (zs.drop 5).take ((n - i) * 5) ++ (zs.drop 5).drop ((n - i) * 5) := (List.take_append_drop _ _).symm
  have l1 : (zs.take 5).length = 5 := by rw [List.length_take]; omega
  have l2 : ((zs.drop 5).take ((n - i) * 5)).length = (n - i) * 5 := by rw [List.length_take, List.length_drop]; omega
  have e3 : splice (xs.take (i * 5) ++ zs) (i * 5) y = xs.take (i * 5) ++ (y ++ zs.drop 5) := by
    conv => lhs; rw [e1]
    exact splice_midV _ _ _ _ _ lP (by omega)
  rw [e3, ← List.append_assoc, e2, splice_midV _ _ _ (xs.drop (i * 5)) ((i + 1) * 5) (by rw [List.length_append]; omega) (by omega), ← List.append_assoc, List.append_assoc (xs.take (i * 5)) y]
  refine List.take_left' ?_
  simp only [List.length_append]
  omega
/-- .. and behind a delete. -/
theorem del_cells {cs xs z : List Value} {n i : Nat} (hx : cs.take (n * 5) = xs) (hi : i < n) (hc : n * 5 ≤ cs.length) (hz : z.length = 5) :
    (splice (splice cs (i * 5) ((cs.drop ((i + 1) * 5)).take ((n - (i + 1)) * 5))) ((n - 1) * 5) z).take ((n - 1) * 5) = xs.take (i * 5) ++ xs.drop ((i + 1) * 5) := by
  subst hx
  have lR : ((cs.drop ((i + 1) * 5)).take ((n - (i + 1)) * 5)).length = (n - (i + 1)) * 5 := by rw [List.length_take, List.length_drop]; omega
  have e5 : (cs.take (n * 5)).take (i * 5) = cs.take (i * 5) := by rw [List.take_take, Nat.min_eq_left (by omega)]
  have e6 : (cs.take (n * 5)).drop ((i + 1) * 5) = (cs.drop ((i + 1) * 5)).take ((n - (i + 1)) * 5) := by rw [List.drop_take]; congr 1; omega
  have e7 := splice_take cs (i * 5) ((cs.drop ((i + 1) * 5)).take ((n - (i + 1)) * 5)) (by omega)
  rw [lR, show i * 5 + (n - (i + 1)) * 5 = (n - 1) * 5 by omega] at e7
  rw [splice_end _ _ _ (by rw [length_splice _ _ _ (by omega)]; omega) _ (Nat.le_refl _), e7, e5, e6]
theorem flatC_ins (l : List CV) (i : Nat) (y : CV) : (flatC l).take (i * 5) ++ (y.cells ++ (flatC l).drop (i * 5)) = flatC (l.take i ++ y :: l.drop i) := by
  rw [flatC_append, flatC_take, show flatC (y :: l.drop i) = y.cells ++ flatC (l.drop i) from rfl, flatC_drop]
theorem flatC_del (l : List CV) (i : Nat) : (flatC l).take (i * 5) ++ (flatC l).drop ((i + 1) * 5) = flatC (l.take i ++ l.drop (i + 1)) := by
  rw [flatC_append, flatC_take, flatC_drop]
/-- What an insert leaves. -/
def InsAt (w : World) (u : Value) (l' : List CV) (e : Ending) (w' : World) : Prop :=
  ∃ v', e = .returned v' ∧ Own w' 0 32 5 v' l'.length (flatC l') ∧ Turn (fun g => u.ownBlock = some g) w w' ∧ (∀ k, v'.ownBlock = some k → u.ownBlock = some k ∨ w.heap.size ≤ k)
section
variable {w : World} {l : List CV} {u : Value}
set_option maxRecDepth 100000 in
set_option maxHeartbeats 4000000 in
theorem Insert_end (hu : Own w 0 32 5 u l.length (flatC l)) (y : CV) (hy : ∀ v ∈ y.cells, v.oneCell' = true) (hn : (l.length + 1) * 72 ≤ 140737488355328) :
    Calls Try.prog 70 #[u, .int .i64 (l.length : Int), .slice (some ⟨w.heap.size, 0, none⟩) 1 1] (w.alloc (.cells #[y.kv, .int .i64 y.c.kind, y.vv, .int .i64 y.c.page, .int .i64 y.c.count] 32))
      (InsAt w u (l ++ [y])) := by
  have hsrc := Rd.five w y.kv (.int .i64 y.c.kind) y.vv (.int .i64 y.c.page) (.int .i64 y.c.count) 32
  have hA : Below w.heap.size w (w.alloc (.cells #[y.kv, .int .i64 y.c.kind, y.vv, .int .i64 y.c.page, .int .i64 y.c.count] 32)) := (Below.refl _ _).alloc (Nat.le_refl _) _
  have hu2 := hu.alloc (.cells #[y.kv, .int .i64 y.c.kind, y.vv, .int .i64 y.c.page, .int .i64 y.c.count] 32)
  have hz := World.size_alloc w (.cells #[y.kv, .int .i64 y.c.kind, y.vv, .int .i64 y.c.page, .int .i64 y.c.count] 32)
  obtain ⟨A, c, rfl⟩ := Own.slice hu
  obtain ⟨_, A', c', hv, hc1, hc2, _⟩ := hu.rd
  injection hv with hA1 _ hc'
  subst hA1 hc'
  have hc3 : c ≤ 9223372036854775807 := hc2
  generalize w.alloc (.cells #[y.kv, .int .i64 y.c.kind, y.vv, .int .i64 y.c.page, .int .i64 y.c.count] 32) = w1 at *
  go_enter Try.func70, Try.ntmps70
  obtain ⟨X, hsl⟩ := sl_lO A l.length c l.length (Nat.le_refl _)
  go_wp2_with (first
    | (at_builtin; refine wp_append_C rfl (.tmp 23) (.tmp 24) rfl 0 (.slice A l.length c) l rfl hu2 (.slice (some ⟨w.heap.size, 0, none⟩) 1 1) [y] rfl hsrc (by simpa [flatC] using hy) (by simpa using hn) (Nat.zero_le _) ?_; intro v' w' ho' hg' hk'; obtain ⟨B', b', rfl⟩ := Own.slice ho'; simp only [List.length_append, List.length_singleton] at ho' hk')
    | fail)
  go_ret
  refine ⟨.slice B' (l.length + 1) b', rfl, by simpa using ho', ⟨hg'.os.trans hA.os, hg'.tape.trans hA.tape, hg'.output.trans hA.output, Nat.le_trans hA.size hg'.size, fun k hk hne => ?_⟩, fun k hk => ?_⟩
  · exact (hg'.block k (Nat.lt_of_lt_of_le hk hA.size) (fun e => hne e.symm)).trans (hA.block k hk)
  · rcases hk' with e | e
    · exact .inl (e.symm.trans hk)
    · right
      have := e.symm.trans hk
      injection this with this
      omega
set_option maxRecDepth 100000 in
set_option maxHeartbeats 1000000 in
theorem Insert_grow {A : Option Addr} {c : Nat} (hu : Own w 0 32 5 (.slice A l.length c) l.length (flatC l)) (hl : ∀ v ∈ flatC l, v.oneCell' = true) (y : CV) (hy : ∀ v ∈ y.cells, v.oneCell' = true) (hn : (l.length + 1) * 72 ≤ 140737488355328) (i : Nat) (hi : i < l.length) (hc : c < l.length + 1) :
    Calls Try.prog 70 #[.slice A l.length c, .int .i64 (i : Int), .slice (some ⟨w.heap.size, 0, none⟩) 1 1] (w.alloc (.cells #[y.kv, .int .i64 y.c.kind, y.vv, .int .i64 y.c.page, .int .i64 y.c.count] 32))
      (InsAt w (.slice A l.length c) (l.take i ++ y :: l.drop i)) := by
  obtain ⟨g, rfl⟩ := hu.some5 (by omega)
  have hsrc := Rd.five w y.kv (.int .i64 y.c.kind) y.vv (.int .i64 y.c.page) (.int .i64 y.c.count) 32
  have hA : Below w.heap.size w (w.alloc (.cells #[y.kv, .int .i64 y.c.kind, y.vv, .int .i64 y.c.page, .int .i64 y.c.count] 32)) := (Below.refl _ _).alloc (Nat.le_refl _) _
  have hu2 := hu.alloc (.cells #[y.kv, .int .i64 y.c.kind, y.vv, .int .i64 y.c.page, .int .i64 y.c.count] 32)
  have hz := World.size_alloc w (.cells #[y.kv, .int .i64 y.c.kind, y.vv, .int .i64 y.c.page, .int .i64 y.c.count] 32)
  generalize w.alloc (.cells #[y.kv, .int .i64 y.c.kind, y.vv, .int .i64 y.c.page, .int .i64 y.c.count] 32) = w1 at *
  obtain ⟨cs, hb, h1, h2, h3, h4, -⟩ := hu2.blk5
  have hc3 : c ≤ 9223372036854775807 := h2
  have hr1 : Rd w1 5 (.slice (some ⟨g, 0, none⟩) i c) i ((flatC l).take (i * 5)) := by
    have := hb.rd5 (lo := 0) (m := i) (c := c) (by omega) (by omega) h2
    rw [slA_zero, Nat.zero_mul, Nat.sub_zero, List.drop_zero, ← show (cs.take (l.length * 5)).take (i * 5) = cs.take (i * 5) by rw [List.take_take, Nat.min_eq_left (by omega)], h4] at this
    exact this
  have hfl := flatC_length l
  have s1 := fun W => sl_l g l.length c i (by omega) W
  have s2 := fun W => sl_h g l.length c i (by omega) W
  obtain ⟨G, hG⟩ : ∃ G, w1.heap.size = G := ⟨_, rfl⟩
  obtain ⟨X1, hX1⟩ : ∃ X, slA g c i = X := ⟨_, rfl⟩
  rw [hX1] at s1
  have HZ := Lib.hid hz
  clear hz
  have i1 : ((l.length : Int) + 1) - (i : Int) = ((l.length + 1 - i : Nat) : Int) := by omega
  have i2 : ¬ (i : Int) = (l.length : Int) := by omega
  have i3 : (c : Int) < (l.length : Int) + 1 := by omega
  have i4 : IntKind.i64.wrap ((l.length : Int) + 1) = (l.length : Int) + 1 := by rw [IntKind.wrap_i64]; omega
  have i5 : IntKind.i64.wrap ((i : Int) + 1) = (i : Int) + 1 := by rw [IntKind.wrap_i64]; omega
  have i6 : IntKind.i64.wrap ((l.length : Int) + 1 - (i : Int)) = (l.length : Int) + 1 - (i : Int) := by rw [IntKind.wrap_i64]; omega
  go_enter Try.func70, Try.ntmps70
  go_upto_region 11 with (first
    | (at_builtin; refine wp_append_Z5 rfl (.tmp 34) (.tmp 39) rfl (some ⟨g, 0, none⟩) i c (l.length + 1 - i) ((flatC l).take (i * 5)) rfl hr1 _ (by first | rfl | exact i1 | omega) rfl (by omega) (by omega) (by omega) (l.length + 1) (by omega) ?_; rw [hG]; intro cap zs w2 hb2 k1 k2 k3 hw2)
    | ((with_reducible refine at_copy ?_); refine wp_copy_5 rfl (.tmp 43) (.tmp 44) rfl G _ _ hb2 (some ⟨G, i * 5, none⟩) (l.length + 1 - i) (cap - i) (i * 5) rfl (fun _ => rfl) (by rw [List.length_append, List.length_take]; omega) (.slice (some ⟨w.heap.size, 0, none⟩) 1 1) 1 _ rfl (hsrc.below hw2 (Nat.le_of_eq hG)) (fun u hu => hy u (List.mem_of_mem_take hu)) ?_; intro w3 hb3 hg3)
    | fail)
  rw [show min 1 (l.length + 1 - i) = 1 by omega, show List.take (1 * 5) [y.kv, Value.int IntKind.i64 y.c.kind, y.vv, Value.int IntKind.i64 y.c.page, Value.int IntKind.i64 y.c.count] = y.cells from rfl] at hb3
  have hgl := hb.lt
  have hbg := (hb.below hw2 (by omega)).grown hg3 (by intro e; injection e with e; omega)
  obtain ⟨X4, hX4⟩ : ∃ X, slA G cap (i + 1) = X := ⟨_, rfl⟩
  have hd4 : 0 < l.length - i → some X4 = some (⟨G, (i + 1) * 5, none⟩ : Addr) := fun _ => by rw [← hX4, slA_eq (by omega)]
  have hsr : Rd w3 5 (.slice (some X1) (l.length - i) (c - i)) (l.length - i) ((flatC l).drop (i * 5)) := by
    have := hbg.rd5 (lo := i) (m := l.length - i) (c := c) (by omega) (by omega) h2
    rw [show (cs.drop (i * 5)).take ((l.length - i) * 5) = (flatC l).drop (i * 5) by rw [← h4, List.drop_take]; congr 1; omega, hX1] at this
    exact this
  have hsr' : Rd w3.drew 5 (.slice (some X1) (l.length - i) (c - i)) (l.length - i) ((flatC l).drop (i * 5)) := hsr
  have hhl : ∀ v ∈ (flatC l).drop (i * 5), v.oneCell' = true := fun v hv => hl v (List.mem_of_mem_drop hv)
  have hlen3 : (splice (List.take (i * 5) (flatC l) ++ zs) (i * 5) y.cells).length = cap * 5 := by
    have h5 : y.cells.length = 5 := rfl
    rw [length_splice _ _ _ (by rw [h5, List.length_append, List.length_take]; omega), List.length_append, List.length_take]
    omega
  have s4 : ∀ W, (Instr.slice 25 (.slice (some ⟨G, 0, none⟩) (l.length + 1) cap) (some (.int .i64 ((i : Int) + 1))) none none).run Try.prog W = .ok (.slice (some X4) (l.length - i) (cap - (i + 1))) W := fun W => by
    have := sl_l G (l.length + 1) cap (i + 1) (by omega) W
    rw [hX4, show l.length + 1 - (i + 1) = l.length - i by omega] at this
    exact this
  go_region_law
    (first
      | (refine step_copy_5 (by rfl) (.tmp 50) (.tmp 53) (by rfl) G _ _ hb3.drew (some X4) (l.length - i) (cap - (i + 1)) ((i + 1) * 5) (by simp [Act.eval, Act.put]) hd4 (by rw [hlen3]; omega) (.slice (some X1) (l.length - i) (c - i)) (l.length - i) _ (by simp [Act.eval, Act.put]) hsr' (fun u hu => hhl u (List.mem_of_mem_take hu)) ?_; intro w4 hb4 hg4)
      | fail)
  all_goals
    rw [Nat.min_self, show List.take ((l.length - i) * 5) ((flatC l).drop (i * 5)) = (flatC l).drop (i * 5) from List.take_of_length_le (by rw [List.length_drop]; omega)] at hb4
    go_wp2_with fail
    go_ret
    have hlen : (l.take i ++ y :: l.drop i).length = l.length + 1 := by simp only [List.length_append, List.length_cons, List.length_take, List.length_drop]; omega
    refine ⟨.slice (some ⟨G, 0, none⟩) (l.length + 1) cap, rfl, ?_, ?_, fun k hk => ?_⟩
    · rw [hlen, ← flatC_ins]
      refine ⟨by simp only [List.length_append, List.length_take, List.length_drop, hfl]; show _ + (5 + _) = _; omega, .inr ⟨G, cap, _, rfl, Nat.zero_le _, hb4, k1, k2, ?_, ?_⟩⟩
      · rw [length_splice _ _ _ (by rw [hlen3, List.length_drop]; omega), hlen3]
      · exact grow_cells (cap := cap) hfl (by omega) k3 k1 rfl
    · have hz := HZ.out
      refine ⟨hg4.os.trans (hg3.os.trans (hw2.os.trans hA.os)), hg4.tape.trans (hg3.tape.trans (hw2.tape.trans hA.tape)), hg4.output.trans (hg3.output.trans (hw2.output.trans hA.output)), Nat.le_trans hA.size (Nat.le_trans hw2.size (Nat.le_trans hg3.size hg4.size)), fun k hk _ => ?_⟩
      have q1 := hw2.size
      have q2 : w2.heap.size ≤ w3.drew.heap.size := hg3.size
      rw [hg4.block k (by omega) (by intro e; injection e with e; omega), show w3.drew.heap[k]? = w3.heap[k]? from rfl, hg3.block k (by omega) (by intro e; injection e with e; omega), hw2.block k (by omega), hA.block k hk]
    · have hz := HZ.out
      have hk' : G = k := Option.some.inj hk
      right; omega
set_option maxRecDepth 100000 in
set_option maxHeartbeats 1000000 in
theorem Insert_room {A : Option Addr} {c : Nat} (hu : Own w 0 32 5 (.slice A l.length c) l.length (flatC l)) (hl : ∀ v ∈ flatC l, v.oneCell' = true) (y : CV) (hy : ∀ v ∈ y.cells, v.oneCell' = true) (hn : (l.length + 1) * 72 ≤ 140737488355328) (i : Nat) (hi : i < l.length) (hc : l.length + 1 ≤ c) :
    Calls Try.prog 70 #[.slice A l.length c, .int .i64 (i : Int), .slice (some ⟨w.heap.size, 0, none⟩) 1 1] (w.alloc (.cells #[y.kv, .int .i64 y.c.kind, y.vv, .int .i64 y.c.page, .int .i64 y.c.count] 32))
      (InsAt w (.slice A l.length c) (l.take i ++ y :: l.drop i)) := by
  obtain ⟨g, rfl⟩ := hu.some5 (by omega)
  have hgw := (Own.lt hu g rfl).2
  have hyO := OBlk.new' w 32 [y.kv, .int .i64 y.c.kind, y.vv, .int .i64 y.c.page, .int .i64 y.c.count]
  have hyb := heap_alloc_new w (.cells #[y.kv, .int .i64 y.c.kind, y.vv, .int .i64 y.c.page, .int .i64 y.c.count] 32)
  have hA : Below w.heap.size w (w.alloc (.cells #[y.kv, .int .i64 y.c.kind, y.vv, .int .i64 y.c.page, .int .i64 y.c.count] 32)) := (Below.refl _ _).alloc (Nat.le_refl _) _
  have hu2 := hu.alloc (.cells #[y.kv, .int .i64 y.c.kind, y.vv, .int .i64 y.c.page, .int .i64 y.c.count] 32)
  have HZ := Lib.hid (World.size_alloc w (.cells #[y.kv, .int .i64 y.c.kind, y.vv, .int .i64 y.c.page, .int .i64 y.c.count] 32))
  generalize w.alloc (.cells #[y.kv, .int .i64 y.c.kind, y.vv, .int .i64 y.c.page, .int .i64 y.c.count] 32) = w1 at *
  obtain ⟨cs, hb, h1, h2, h3, h4, -⟩ := hu2.blk5
  obtain ⟨G, hG⟩ : ∃ G, w.heap.size = G := ⟨_, rfl⟩
  rw [hG] at hyb hyO ⊢
  have hc3 : c ≤ 9223372036854775807 := h2
  have hfl := flatC_length l
  have hov : ∀ lb cb, (callFunc 89 #[.slice (some ⟨G, 0, none⟩) 1 1, .slice (some ⟨g, (i + 1) * 5, none⟩) lb cb]).run Try.prog w1 = .ok (.value (.bool false)) w1 := fun lb cb => by
    obtain ⟨fr, hb0, -⟩ := hb
    rw [run_callFunc_extern Try.func89 (by kernel_rfl) (by kernel_rfl) (by kernel_rfl) (e := Extern.SlicesOverlaps.overlaps #[25, 25] #[4]) (by kernel_rfl),
      Lib.run_overlaps_apart w1 25 4 32 Try.underlying25 5 Cell_sizeOf ⟨G, 0, none⟩ ⟨g, (i + 1) * 5, none⟩ 1 1 lb cb (show G ≠ g by omega) 32 32 5 cs.length (by simp [World.shape?, hyb]) (by simp [World.shape?, hb0]) (by omega) (by simp [World.frozen?, hyb]) (by simp [World.frozen?, hyb])]
    rfl
  have s2 := fun W => sl_h g l.length c (l.length + 1) hc W
  have s3 : ∀ W, (Instr.slice 25 (.slice (some ⟨g, 0, none⟩) (l.length + 1) c) (some (.int .i64 ((i : Int) + 1))) none none).run Try.prog W = .ok (.slice (some ⟨g, (i + 1) * 5, none⟩) (l.length - i) (c - (i + 1))) W := fun W => by
    have := sl_l g (l.length + 1) c (i + 1) (by omega) W
    rw [slA_eq (by omega), show l.length + 1 - (i + 1) = l.length - i by omega] at this
    exact this
  have s4 : ∀ W, (Instr.slice 25 (.slice (some ⟨g, 0, none⟩) (l.length + 1) c) (some (.int .i64 (i : Int))) none none).run Try.prog W = .ok (.slice (some ⟨g, i * 5, none⟩) (l.length + 1 - i) (c - i)) W := fun W => by
    have := sl_l g (l.length + 1) c i (by omega) W
    rw [slA_eq (by omega)] at this
    exact this
  have s1 : ∀ W, (Instr.slice 25 (.slice (some ⟨g, 0, none⟩) l.length c) (some (.int .i64 (i : Int))) none none).run Try.prog W = .ok (.slice (some ⟨g, i * 5, none⟩) (l.length - i) (c - i)) W := fun W => by
    have := sl_l g l.length c i (by omega) W
    rw [slA_eq (by omega)] at this
    exact this
  have hsr : Rd w1.drew 5 (.slice (some ⟨g, i * 5, none⟩) (l.length + 1 - i) (c - i)) (l.length + 1 - i) ((cs.drop (i * 5)).take ((l.length + 1 - i) * 5)) := by
    have := hb.rd5 (lo := i) (m := l.length + 1 - i) (c := c) (by omega) (by omega) h2
    rw [slA_eq (by omega)] at this
    exact this
  have e9 : ((cs.drop (i * 5)).take ((l.length + 1 - i) * 5)).take (min (l.length + 1 - i) (l.length - i) * 5) = (cs.drop (i * 5)).take ((l.length - i) * 5) := by
    rw [List.take_take, Nat.min_eq_left (by omega)]
    congr 1; omega
  have e8 : (cs.drop (i * 5)).take ((l.length - i) * 5) = (flatC l).drop (i * 5) := by rw [← h4, List.drop_take]; congr 1; omega
  have i2 : ¬ (i : Int) = (l.length : Int) := by omega
  have i3 : ¬ (c : Int) < (l.length : Int) + 1 := by omega
  have i4 : IntKind.i64.wrap ((l.length : Int) + 1) = (l.length : Int) + 1 := by rw [IntKind.wrap_i64]; omega
  have i5 : IntKind.i64.wrap ((i : Int) + 1) = (i : Int) + 1 := by rw [IntKind.wrap_i64]; omega
  go_enter Try.func70, Try.ntmps70
  go_upto_region 15 with (simp only [hov])
  clear hov
  go_region_law
    (first
      | (refine step_copy_5 (by rfl) (.tmp 73) (.tmp 76) (by rfl) g _ cs hb.drew (some ⟨g, (i + 1) * 5, none⟩) (l.length - i) (c - (i + 1)) ((i + 1) * 5) (by simp [Act.eval, Act.put]) (fun _ => by rfl) (by omega) (.slice (some ⟨g, i * 5, none⟩) (l.length + 1 - i) (c - i)) (l.length + 1 - i) _ (by simp [Act.eval, Act.put]) hsr (by rw [e9, e8]; exact fun u hu => hl u (List.mem_of_mem_drop hu)) ?_; rw [e9]; intro w2 hb2 hg2)
      | fail)
  all_goals
    have hl2 : (splice cs ((i + 1) * 5) ((cs.drop (i * 5)).take ((l.length - i) * 5))).length = c * 5 := by
      rw [length_splice _ _ _ (by rw [List.length_take, List.length_drop]; omega)]; exact h3
    have hsrc2 : Rd w2 5 (.slice (some ⟨G, 0, none⟩) 1 1) 1 [y.kv, .int .i64 y.c.kind, y.vv, .int .i64 y.c.page, .int .i64 y.c.count] :=
by
      have := (hyO.drew.grown hg2 (fun e => absurd (Option.some.inj e) (by omega))).rd5 (lo := 0) (m := 1) (c := 1) (by omega) (by simp) (by simp [maxLen])
      rw [slA_zero, Nat.sub_zero] at this
      exact this
    go_wp2_with (first
      | ((with_reducible refine at_copy ?_); refine wp_copy_5 rfl (.tmp 80) (.tmp 81) rfl g _ _ hb2 (some ⟨g, i * 5, none⟩) (l.length + 1 - i) (c - i) (i * 5) rfl (fun _ => rfl) (by rw [hl2]; omega) (.slice (some ⟨G, 0, none⟩) 1 1) 1 _ rfl hsrc2 (fun u hu => hy u (List.mem_of_mem_take hu)) ?_; intro w3 hb3 hg3)
      | fail)
    go_ret
    have hz1 : w1.heap.size = w.heap.size + 1 := HZ.out
    have hlen : (l.take i ++ y :: l.drop i).length = l.length + 1 := by simp only [List.length_append, List.length_cons, List.length_take, List.length_drop]; omega
    rw [show min 1 (l.length + 1 - i) = 1 by omega, show List.take (1 * 5) [y.kv, Value.int IntKind.i64 y.c.kind, y.vv, Value.int IntKind.i64 y.c.page, Value.int IntKind.i64 y.c.count] = y.cells from rfl] at hb3
    refine ⟨.slice (some ⟨g, 0, none⟩) (l.length + 1) c, rfl, ?_, ?_, fun k hk => .inl hk⟩
    · rw [hlen, ← flatC_ins]
      refine ⟨by simp only [List.length_append, List.length_take, List.length_drop, hfl]; show _ + (5 + _) = _; omega, .inr ⟨g, c, _, rfl, Nat.zero_le _, hb3, hc, h2, ?_, ?_⟩⟩
      · rw [length_splice _ _ _ (by rw [hl2]; show _ + 5 ≤ _; omega), hl2]
      · exact ins_cells h4 (by omega) (by omega) rfl
    · refine ⟨hg3.os.trans (hg2.os.trans hA.os), hg3.tape.trans (hg2.tape.trans hA.tape), hg3.output.trans (hg2.output.trans hA.output), Nat.le_trans hA.size (Nat.le_trans hg2.size hg3.size), fun k hk hne => ?_⟩
      have q1 : w1.heap.size ≤ w2.heap.size := hg2.size
      have hkg : ¬ some k = some g := fun e => hne (by injection e with e; rw [e]; rfl)
      rw [hg3.block k (by omega) hkg, hg2.block k (show k < w1.heap.size by omega) hkg]
      exact hA.block k hk
theorem InsertS_any (hu : Own w 0 32 5 u l.length (flatC l)) (hl : ∀ v ∈ flatC l, v.oneCell' = true) (y : CV) (hy : ∀ v ∈ y.cells, v.oneCell' = true) (hn : (l.length + 1) * 72 ≤ 140737488355328) (i : Nat) (hi : i ≤ l.length) :
    Calls Try.prog 70 #[u, .int .i64 (i : Int), .slice (some ⟨w.heap.size, 0, none⟩) 1 1] (w.alloc (.cells #[y.kv, .int .i64 y.c.kind, y.vv, .int .i64 y.c.page, .int .i64 y.c.count] 32))
      (InsAt w u (l.take i ++ y :: l.drop i)) := by
  by_cases h : i = l.length
  · subst h
    rw [List.take_length, List.drop_length]
    exact Insert_end hu y hy hn
  · obtain ⟨A, c, rfl⟩ := Own.slice hu
    by_cases hc : c < l.length + 1
    · exact Insert_grow hu hl y hy hn i (by omega) hc
    · exact Insert_room hu hl y hy hn i (by omega) (by omega)
/-- slices.Delete of one. -/
theorem DeleteS_any (hu : Own w 0 32 5 u l.length (flatC l)) (hl : ∀ v ∈ flatC l, v.oneCell' = true) (hn : l.length * 72 ≤ 140737488355328) (i : Nat) (hi : i < l.length) :
    Calls Try.prog 87 #[u, .int .i64 (i : Int), .int .i64 ((i : Int) + 1)] w (InsAt w u (l.take i ++ l.drop (i + 1))) := by
  obtain ⟨A, c, rfl⟩ := Own.slice hu
  obtain ⟨g, rfl⟩ := hu.some5 (by omega)
  obtain ⟨cs, hb, h1, h2, h3, h4, -⟩ := hu.blk5
  have hc3 : c ≤ 9223372036854775807 := h2
  have hfl := flatC_length l
  obtain ⟨i0, hi0, hz0, hz1, hz2⟩ := info_parts cell_info
  obtain ⟨X1, hX1⟩ : ∃ X, slA g l.length i = X := ⟨_, rfl⟩
  obtain ⟨X2, hX2⟩ : ∃ X, slA g c (i + 1) = X := ⟨_, rfl⟩
  have s1 : ∀ W, (Instr.slice 25 (.slice (some ⟨g, 0, none⟩) l.length c) (some (.int .i64 (i : Int))) (some (.int .i64 ((i : Int) + 1))) (some (.int .i64 (l.length : Int)))).run Try.prog W = .ok (.slice (some X1) 1 (l.length - i)) W := fun W => by
    have := sl_lhm g l.length c i (i + 1) l.length (by omega) (by omega) h1 W
    rw [hX1, show i + 1 - i = 1 by omega] at this
    exact this
  have s2 : ∀ W, (Instr.slice 25 (.slice (some ⟨g, 0, none⟩) l.length c) none (some (.int .i64 (i : Int))) none).run Try.prog W = .ok (.slice (some ⟨g, 0, none⟩) i c) W := fun W => sl_h g l.length c i (by omega) W
  have s3 : ∀ W, (Instr.slice 25 (.slice (some ⟨g, 0, none⟩) l.length c) (some (.int .i64 ((i : Int) + 1))) none none).run Try.prog W = .ok (.slice (some X2) (l.length - (i + 1)) (c - (i + 1))) W := fun W => by
    have := sl_l g l.length c (i + 1) (by omega) W
    rw [hX2] at this
    exact this
  have s4 : ∀ W, (Instr.slice 25 (.slice (some ⟨g, 0, none⟩) (l.length - 1) c) (some (.int .i64 ((l.length - 1 : Nat) : Int))) (some (.int .i64 (l.length : Int))) none).run Try.prog W = .ok (.slice (some ⟨g, (l.length - 1) * 5, none⟩) 1 (c - (l.length - 1))) W := fun W => by
    have := sl_lh g (l.length - 1) c (l.length - 1) l.length (by omega) h1 W
    rw [slA_eq (by omega), show l.length - (l.length - 1) = 1 by omega] at this
    exact this
  have hsr : Rd w.drew 5 (.slice (some X2) (l.length - (i + 1)) (c - (i + 1))) (l.length - (i + 1)) ((cs.drop ((i + 1) * 5)).take ((l.length - (i + 1)) * 5)) := by
    have := hb.rd5 (lo := i + 1) (m := l.length - (i + 1)) (c := c) (by omega) (by omega) h2
    rw [hX2] at this
    exact this
  have e8 : (cs.drop ((i + 1) * 5)).take ((l.length - (i + 1)) * 5) = (flatC l).drop ((i + 1) * 5) := by rw [← h4, List.drop_take]; congr 1; omega
  have HE8 := Lib.hid e8
  rw [e8] at hsr
  clear e8
  have hln : ((flatC l).drop ((i + 1) * 5)).length = (l.length - (i + 1)) * 5 := by rw [List.length_drop]; omega
  have h1c : ∀ v ∈ (flatC l).drop ((i + 1) * 5), v.oneCell' = true := fun v hv => hl v (List.mem_of_mem_drop hv)
  have hcl : ∀ j u, ((flatC l).drop ((i + 1) * 5))[j]? = some u → w.drew.cell? (X2.add j) = some u := fun j u hj => by
    obtain ⟨_, A', c', hv, _, _, h⟩ := hsr
    obtain ⟨ad, ha, h⟩ := h j u hj
    injection hv with hv
    rw [ha] at hv
    injection hv with hv
    rw [hv]; exact h
  have i1 : ¬ (i : Int) = (i : Int) + 1 := by omega
  have i2 : i + (l.length - (i + 1)) = l.length - 1 := by omega
  go_enter Try.func87, Try.ntmps87
  go_upto_region 5 with (fail)
  go_region_law
    (first
      | (refine step_append_room rfl (.tmp 22) (.tmp 25) 25 rfl 32 i0 5 Try.underlying25 hi0 hz1 g 0 i c (by simp [Act.eval, Act.put]) X2 (l.length - (i + 1)) (c - (i + 1)) _ (by simp [Act.eval, Act.put]) hln hcl h1c (by omega) (fun j hj => ⟨by rw [hb.drew.cell]; simp; omega, hb.drew.frozen (by omega)⟩) ?_; rw [i2, Nat.zero_add])
      | fail)
  all_goals
    have hb2 := OBlk.setCells ((flatC l).drop ((i + 1) * 5)) (i * 5) w.drew cs hb.drew (by omega)
    have hg2 := grownBy_setCells ((flatC l).drop ((i + 1) * 5)) (i * 5) w.drew g
    generalize w.drew.setCells g (i * 5) ((flatC l).drop ((i + 1) * 5)) = w2 at *
    have hl2 : (splice cs (i * 5) ((flatC l).drop ((i + 1) * 5))).length = c * 5 := by rw [length_splice _ _ _ (by omega)]; exact h3
    go_wp2_with (first
      | ((with_reducible refine at_clear ?_); refine wp_clear_5 rfl (.tmp 31) rfl g ((l.length - 1) * 5) _ rfl _ _ hb2 (by rw [hl2]; omega) ?_; intro w3 hb3 hg3)
      | fail)
    go_ret
    have hlen : (l.take i ++ l.drop (i + 1)).length = l.length - 1 := by simp only [List.length_append, List.length_take, List.length_drop]; omega
    refine ⟨.slice (some ⟨g, 0, none⟩) (l.length - 1) c, rfl, ?_, ?_, fun k hk => .inl hk⟩
    · rw [hlen, ← flatC_del]
      refine ⟨by simp only [List.length_append, List.length_take, List.length_drop, hfl]; omega, .inr ⟨g, c, _, rfl, Nat.zero_le _, hb3, by omega, h2, ?_, ?_⟩⟩
      · rw [length_splice _ _ _ (by rw [hl2]; simp; omega), hl2]
      · have := del_cells (z := [.slice none 0 0, .int .i64 0, .slice none 0 0, .int .i64 0, .int .i64 0]) h4 hi (by omega) rfl
        rw [HE8.out] at this
        exact this
    · refine ⟨hg3.os.trans hg2.os, hg3.tape.trans hg2.tape, hg3.output.trans hg2.output, Nat.le_trans hg2.size hg3.size, fun k hk hne => ?_⟩
      have q1 : w.heap.size ≤ w2.heap.size := hg2.size
      have hkg : ¬ some k = some g := fun e => hne (by injection e with e; rw [e]; rfl)
      rw [hg3.block k (by omega) hkg, hg2.block k hk hkg]
      rfl
end
end Go.Proofs.Ytonbcipofakpjaa

-- Separate pieces of memory: one fact for all of them.
namespace Go.Proofs.Ytonbcipofakpjaa
open Go.RowKit
/-- A piece of memory: its blocks, and what holds of them. -/
structure Ent where
  F : Nat → Prop
  p : World → Prop
  loc : ∀ {w w' : World}, (∀ g, F g → w'.heap[g]? = w.heap[g]?) → p w → p w'
structure Same (w0 w : World) : Prop where
  os : w.os = w0.os
  tape : w.tape = w0.tape
  output : w.output = w0.output
  size : w0.heap.size ≤ w.heap.size
theorem Same.refl (w : World) : Same w w := ⟨rfl, rfl, rfl, Nat.le_refl _⟩
theorem Same.trans {a b c : World} (h : Same a b) (k : Same b c) : Same a c := ⟨k.os.trans h.os, k.tape.trans h.tape, k.output.trans h.output, Nat.le_trans h.size k.size⟩
theorem Same.of_below {B : Nat} {w w' : World} (h : Below B w w') : Same w w' := ⟨h.os, h.tape, h.output, h.size⟩
theorem Same.of_turn {F : Nat → Prop} {w w' : World} (h : Turn F w w') : Same w w' := ⟨h.os, h.tape, h.output, h.size⟩
/-- Pieces that lie apart, all of them in the world w, which came of w0. -/
structure Sep (w0 w : World) (L : List Ent) : Prop where
  same : Same w0 w
  each : ∀ E ∈ L, E.p w ∧ ∀ g, E.F g → g < w.heap.size
  apart : L.Pairwise fun a b => ∀ g, a.F g → ¬ b.F g
section
variable {w0 w w' : World} {L L' : List Ent} {E E' A B C D : Ent}
theorem Sep.perm (h : Sep w0 w L) (hp : L.Perm L') : Sep w0 w L' :=
  ⟨h.same, fun E hE => h.each E (hp.mem_iff.2 hE), (hp.pairwise_iff (fun {a b} hab g h1 h2 => hab g h2 h1)).1 h.apart⟩
theorem Sep.sw1 (h : Sep w0 w (A :: E :: L)) : Sep w0 w (E :: A :: L) := h.perm (List.perm_middle (l₁ := [A]))
theorem Sep.sw2 (h : Sep w0 w (A :: B :: E :: L)) : Sep w0 w (E :: A :: B :: L) := h.perm (List.perm_middle (l₁ := [A, B]))
theorem Sep.sw3 (h : Sep w0 w (A :: B :: C :: E :: L)) : Sep w0 w (E :: A :: B :: C :: L) := h.perm (List.perm_middle (l₁ := [A, B, C]))
theorem Sep.sw4 (h : Sep w0 w (A :: B :: C :: D :: E :: L)) : Sep w0 w (E :: A :: B :: C :: D :: L) := h.perm (List.perm_middle (l₁ := [A, B, C, D]))
/-- The piece behind the first n comes to the head. -/
theorem Sep.sw (L1 : List Ent) (h : Sep w0 w (L1 ++ E :: L)) : Sep w0 w (E :: (L1 ++ L)) := h.perm List.perm_middle
/-- The piece behind the first n behind the head comes next to the head. -/
theorem Sep.sn (L1 : List Ent) (h : Sep w0 w (A :: (L1 ++ E :: L))) : Sep w0 w (A :: E :: (L1 ++ L)) := h.perm (List.Perm.cons _ List.perm_middle)
/-- The first piece goes behind L1. -/
theorem Sep.back (L1 : List Ent) (h : Sep w0 w (E :: (L1 ++ L))) : Sep w0 w (L1 ++ E :: L) := h.perm List.perm_middle.symm
theorem Sep.head (h : Sep w0 w (E :: L)) : E.p w := (h.each E (List.mem_cons_self ..)).1
theorem Sep.lt (h : Sep w0 w (E :: L)) : ∀ g, E.F g → g < w.heap.size := (h.each E (List.mem_cons_self ..)).2
theorem Sep.of_mem (h : Sep w0 w L) (hE : E ∈ L) : E.p w := (h.each E hE).1
theorem Sep.tail (h : Sep w0 w (E :: L)) : Sep w0 w L := ⟨h.same, fun X hX => h.each X (List.mem_cons_of_mem _ hX), (List.pairwise_cons.1 h.apart).2⟩
theorem Sep.far (h : Sep w0 w (E :: L)) (hA : A ∈ L) : ∀ g, E.F g → ¬ A.F g := (List.pairwise_cons.1 h.apart).1 A hA
theorem Sep.cons (h : Sep w0 w L) (hp : E.p w) (hl : ∀ g, E.F g → g < w.heap.size) (ha : ∀ A ∈ L, ∀ g, E.F g → ¬ A.F g) : Sep w0 w (E :: L) :=
  ⟨h.same, fun X hX => by rcases List.mem_cons.1 hX with rfl | hX; exact ⟨hp, hl⟩; exact h.each X hX, List.pairwise_cons.2 ⟨ha, h.apart⟩⟩
/-- Nothing that was there is written. -/
theorem Sep.below (h : Sep w0 w L) (hb : Below w.heap.size w w') : Sep w0 w' L :=
  ⟨h.same.trans (Same.of_below hb), fun X hX => ⟨X.loc (fun g hg => hb.block g ((h.each X hX).2 g hg)) (h.each X hX).1, fun g hg => Nat.lt_of_lt_of_le ((h.each X hX).2 g hg) hb.size⟩, h.apart⟩
/-- .. and a new piece. -/
theorem Sep.new (h : Sep w0 w L) (hb : Below w.heap.size w w') (hp : E.p w') (hF : ∀ g, E.F g → w.heap.size ≤ g ∧ g < w'.heap.size) : Sep w0 w' (E :: L) :=
  (h.below hb).cons hp (fun g hg => (hF g hg).2) (fun X hX g hg h2 => by have h1 := (h.each X hX).2 g h2; have h3 := (hF g hg).1; omega)
/-- The first piece is written. -/
theorem Sep.upd (h : Sep w0 w (E :: L)) (ht : Turn E.F w w') (hp : E'.p w') (hF : ∀ g, E'.F g → (E.F g ∨ w.heap.size ≤ g) ∧ g < w'.heap.size) : Sep w0 w' (E' :: L) := by
  have hl : Sep w0 w' L := ⟨h.same.trans (Same.of_turn ht), fun X hX => ⟨X.loc (fun g hg => ht.block g ((h.tail.each X hX).2 g hg) (fun e => h.far hX g e hg)) (h.tail.each X hX).1, fun g hg => Nat.lt_of_lt_of_le ((h.tail.each X hX).2 g hg) ht.size⟩, h.tail.apart⟩
  refine hl.cons hp (fun g hg => (hF g hg).2) (fun X hX g hg h2 => ?_)
  rcases (hF g hg).1 with h3 | h3
  · exact h.far hX g h3 h2
  · have h1 := (h.tail.each X hX).2 g h2
    omega
/-- The first piece is written, and is of no more use. -/
theorem Sep.kill (h : Sep w0 w (E :: L)) (ht : Turn E.F w w') : Sep w0 w' L :=
  ⟨h.same.trans (Same.of_turn ht), fun X hX => ⟨X.loc (fun g hg => ht.block g ((h.tail.each X hX).2 g hg) (fun e => h.far hX g e hg)) (h.tail.each X hX).1, fun g hg => Nat.lt_of_lt_of_le ((h.tail.each X hX).2 g hg) ht.size⟩, h.tail.apart⟩
/-- The first piece is told otherwise. -/
theorem Sep.weak (h : Sep w0 w (E :: L)) (hp : E.p w → E'.p w) (hF : ∀ g, E'.F g → E.F g) : Sep w0 w (E' :: L) :=
  h.tail.cons (hp h.head) (fun g hg => h.lt g (hF g hg)) (fun _ hX g hg => h.far hX g (hF g hg))
/-- Two pieces as one. -/
def Ent.star (A B : Ent) : Ent := ⟨fun g => A.F g ∨ B.F g, fun w => A.p w ∧ B.p w ∧ ∀ g, A.F g → ¬ B.F g,
  fun h ⟨h1, h2, h3⟩ => ⟨A.loc (fun g hg => h g (.inl hg)) h1, B.loc (fun g hg => h g (.inr hg)) h2, h3⟩⟩
theorem Sep.join (h : Sep w0 w (A :: B :: L)) : Sep w0 w (A.star B :: L) := by
  refine h.tail.tail.cons ⟨h.head, h.tail.head, h.far (List.mem_cons_self ..)⟩ (fun g hg => hg.elim (h.lt g) (h.tail.lt g)) (fun X hX g hg => ?_)
  rcases hg with hg | hg
  · exact h.far (List.mem_cons_of_mem _ hX) g hg
  · exact h.tail.far hX g hg
theorem Sep.split (h : Sep w0 w (A.star B :: L)) : Sep w0 w (A :: B :: L) := by
  refine (h.tail.cons (E := B) h.head.2.1 (fun g hg => h.lt g (.inr hg)) (fun X hX g hg => h.far hX g (.inr hg))).cons h.head.1 (fun g hg => h.lt g (.inl hg)) (fun X hX g hg => ?_)
  rcases List.mem_cons.1 hX with rfl | hX
  · exact h.head.2.2 g hg
  · exact h.far hX g (.inl hg)
/-- The first two pieces are written. -/
theorem Sep.upd2 (h : Sep w0 w (A :: B :: L)) (ht : Turn (fun g => A.F g ∨ B.F g) w w') (hc : C.p w') (hd : D.p w') (hC : ∀ g, C.F g → (A.F g ∨ B.F g ∨ w.heap.size ≤ g) ∧ g < w'.heap.size) (hD : ∀ g, D.F g → (A.F g ∨ B.F g ∨ w.heap.size ≤ g) ∧ g < w'.heap.size)
    (hCD : ∀ g, C.F g → ¬ D.F g) : Sep w0 w' (C :: D :: L) := by
  refine Sep.split (h.join.upd (E' := C.star D) ht ⟨hc, hd, hCD⟩ (fun g hg => ?_))
  rcases hg with hg | hg
  · exact ⟨by rcases (hC g hg).1 with h | h | h; exact .inl (.inl h); exact .inl (.inr h); exact .inr h, (hC g hg).2⟩
  · exact ⟨by rcases (hD g hg).1 with h | h | h; exact .inl (.inl h); exact .inl (.inr h); exact .inr h, (hD g hg).2⟩
theorem Sep.drewN (h : Sep w0 w L) (n : Nat) : Sep w0 (w.drewN n) L := h.below (w' := w.drewN n) ⟨rfl, rfl, rfl, Nat.le_refl _, fun _ _ => rfl⟩
theorem Sep.drew (h : Sep w0 w L) : Sep w0 w.drew L := h.below (w' := w.drew) ⟨rfl, rfl, rfl, Nat.le_refl _, fun _ _ => rfl⟩
/-! ### kinds of pieces -/
/-- All that was there in w0. -/
def oldE (w0 : World) : Ent := ⟨fun g => g < w0.heap.size, fun w => ∀ g, g < w0.heap.size → w.heap[g]? = w0.heap[g]?, fun h k g hg => (h g hg).trans (k g hg)⟩
theorem Sep.start (w : World) : Sep w w [oldE w] := ⟨Same.refl w, fun E hE => by obtain rfl := List.mem_singleton.1 hE; exact ⟨fun _ _ => rfl, fun _ h => h⟩, List.pairwise_singleton _ _⟩
theorem Sep.belowOld {v : World} (h : Sep w0 w L) (hm : oldE w0 ∈ L) : Below w0.heap.size w0 w := ⟨h.same.os, h.same.tape, h.same.output, h.same.size, h.of_mem hm⟩
theorem Sep.old_cell {v : World} (h : Sep w0 w L) (hm : oldE v ∈ L) : ∀ p : Addr, p.block < v.heap.size → w.cell? p = v.cell? p := fun p hp => World.cell?_of_block (h.of_mem hm p.block hp)
theorem Sep.rd {v : World} {x : Value} {l : List UInt8} (h : Sep w0 w L) (hm : oldE v ∈ L) (hr : RdB v x l) : RdB w x l := hr.keep (h.old_cell hm)
/-- A block. -/
def blkE (g : Nat) (T : TypeId) (cs : List Value) : Ent := ⟨fun b => b = g, fun w => OBlk w g T cs, fun h k => k.of_heap (h g rfl)⟩
/-- Bytes of the call's own, or nil. -/
def bytesE (v : Value) (l : List UInt8) : Ent := ⟨fun g => v.ownBlock = some g, fun w => OwB w 0 v l, fun h k => Own.heap k h⟩
def ownE (T : TypeId) (size : Nat) (v : Value) (n : Nat) (xs : List Value) : Ent := ⟨fun g => v.ownBlock = some g, fun w => Own w 0 T size v n xs, fun h k => Own.heap k h⟩
theorem Sep.alloc (h : Sep w0 w L) (T : TypeId) (cs : List Value) : Sep w0 (w.alloc (.cells cs.toArray T)) (blkE w.heap.size T cs :: L) :=
  h.new ((Below.refl _ _).alloc (Nat.le_refl _) _) (OBlk.new' w T cs) (fun g hg => by have hg' : g = w.heap.size := hg; rw [World.size_alloc]; omega)
theorem Sep.setCell {g : Nat} {T : TypeId} {cs : List Value} (h : Sep w0 w (blkE g T cs :: L)) (j : Nat) (u : Value) : Sep w0 (w.setCell ⟨g, j, none⟩ u) (blkE g T (cs.set j u) :: L) :=
  h.upd (Turn.of_grown (grownBy_setCell w ⟨g, j, none⟩ u) (fun k e => (Option.some.inj e).symm)) (OBlk.set (h.head : OBlk w g T cs) j u) (fun b hb => ⟨.inl hb, by have h' := h.lt b hb; simpa using h'⟩)
theorem Sep.bytes {b : Nat} {v : Value} {l : List UInt8} (h : Sep w0 w L) (hb : Below w.heap.size w w') (ho : OwB w' b v l) (hB : w.heap.size ≤ b) : Sep w0 w' (bytesE v l :: L) :=
  h.new hb (OwB.low ho (Nat.zero_le _)) (fun g hg => ⟨Nat.le_trans hB (Own.lt ho g hg).1, (Own.lt ho g hg).2⟩)
/-- A list that is read, in whichever piece. -/
def RdIn (L : List Ent) (v : Value) (l : List UInt8) : Prop := ∃ E ∈ L, ∀ w, E.p w → RdB w v l
theorem RdIn.cons {v : Value} {l : List UInt8} (h : RdIn L v l) : RdIn (E :: L) v l := by obtain ⟨X, hX, h⟩ := h; exact ⟨X, List.mem_cons_of_mem _ hX, h⟩
theorem Sep.rdIn {v : Value} {l : List UInt8} (h : Sep w0 w L) (hr : RdIn L v l) : RdB w v l := by obtain ⟨X, hX, hr⟩ := hr; exact hr w (h.of_mem hX)
/-- Many pieces as one. -/
def allE (D : List Ent) : Ent := ⟨fun g => ∃ E ∈ D, E.F g, fun w => (∀ E ∈ D, E.p w) ∧ D.Pairwise (fun (a b : Ent) => ∀ g : Nat, a.F g → ¬ b.F g),
  fun h ⟨h1, h2⟩ => ⟨fun E hE => E.loc (fun g hg => h g ⟨E, hE, hg⟩) (h1 E hE), h2⟩⟩
theorem Sep.pack {D : List Ent} (h : Sep w0 w (D ++ L)) : Sep w0 w (allE D :: L) := by
  have h1 := List.pairwise_append.1 h.apart
  refine Sep.cons ⟨h.same, fun X hX => h.each X (List.mem_append_right _ hX), h1.2.1⟩ ⟨fun E hE => (h.each E (List.mem_append_left _ hE)).1, h1.1⟩ (fun g hg => ?_) (fun X hX g hg => ?_)
  · obtain ⟨E, hE, hg⟩ := hg
    exact (h.each E (List.mem_append_left _ hE)).2 g hg
  · obtain ⟨E, hE, hg⟩ := hg
    exact h1.2.2 E hE X hX g hg
theorem Sep.unpack {D : List Ent} (h : Sep w0 w (allE D :: L)) : Sep w0 w (D ++ L) := by
  have hp := h.head
  refine ⟨h.same, fun X hX => ?_, List.pairwise_append.2 ⟨hp.2, h.tail.apart, fun E hE X hX g hg => h.far hX g ⟨E, hE, hg⟩⟩⟩
  rcases List.mem_append.1 hX with hX | hX
  · exact ⟨hp.1 X hX, fun g hg => h.lt g ⟨X, hX, hg⟩⟩
  · exact h.tail.each X hX
end
end Go.Proofs.Ytonbcipofakpjaa

-- espalierref03.Book: lists of bytes that came out: words and laws.
namespace Go.Proofs.Ytonbcipofakpjaa
open Go.RowKit
/-- The mark of a byte: of list k, at place q. -/
def mrk (k q : Nat) : UInt8 := UInt8.ofNat (k + q / 251)
theorem mrk_val (k q : Nat) : ((k : Int) + (q : Int) / 251) % 256 = ((mrk k q).toNat : Int) := by
  unfold mrk; rw [UInt8.toNat_ofNat']; omega
def mkL (k m : Nat) : List UInt8 := (List.range m).map (mrk k)
theorem mkL_length (k m : Nat) : (mkL k m).length = m := by simp [mkL]
theorem mkL_snoc (k m : Nat) : mkL k (m + 1) = mkL k m ++ [mrk k m] := by simp [mkL, List.range_succ]
theorem mkL_take (k : Nat) {m n : Nat} (h : m ≤ n) : (mkL k n).take m = mkL k m := by
  unfold mkL
  rw [← List.map_take, List.take_range, Nat.min_eq_left h]
theorem mkL_get (k m q : Nat) (h : q < (mkL k m).length) : (mkL k m)[q] = mrk k q := by simp [mkL]
def OwLs (w : World) (base : Nat) (vs : List Value) (f : Nat → List UInt8) : Prop := ∀ (j : Nat) (u : Value), vs[j]? = some u → OwB w base u (f j)
def ApartL (vs : List Value) : Prop := ∀ (i j : Nat) (u u' : Value), i ≠ j → vs[i]? = some u → vs[j]? = some u' → ∀ g, u.ownBlock = some g → some g ≠ u'.ownBlock
theorem OwLs.grown {w w' : World} {base : Nat} {vs : List Value} {f : Nat → List UInt8} {row : Option Nat} (h : OwLs w base vs f) (hg : w.grownBy w' row) (hne : ∀ (j : Nat) (u : Value), vs[j]? = some u → ∀ g, u.ownBlock = some g → some g ≠ row) : OwLs w' base vs f :=
  fun j u hj => (h j u hj).grown hg (hne j u hj)
theorem OwLs.below' {w w' : World} {base B : Nat} {vs : List Value} {f : Nat → List UInt8} (h : OwLs w base vs f) (hb : Below B w w') (hB : w.heap.size ≤ B) : OwLs w' base vs f := fun j u hj => (h j u hj).below' hb hB
theorem OwLs.alloc {w : World} {base : Nat} {vs : List Value} {f : Nat → List UInt8} (h : OwLs w base vs f) (o : Obj) : OwLs (w.alloc o) base vs f := fun j u hj => (h j u hj).alloc o
/-- One byte of one of them is written. -/
theorem OwLs.set {w : World} {base : Nat} {vs : List Value} {f : Nat → List UInt8} (h : OwLs w base vs f) (ha : ApartL vs) {i g n c : Nat} (hi : vs[i]? = some (.slice (some ⟨g, 0, none⟩) n c)) (j : Nat) (x : UInt8) {f' : Nat → List UInt8} (hf : f' i = (f i).set j x) (hf' : ∀ k, k ≠ i → f' k = f k) :
    OwLs (w.setCell ⟨g, j, none⟩ (.int .u8 (x.toNat : Int))) base vs f' := by
  intro k u hk
  by_cases e : k = i
  · subst e
    rw [hi] at hk
    injection hk with hk
    subst hk
    rw [hf]
    exact (h k _ hi).set j x
  · rw [hf' k e]
    exact (h k u hk).grown (grownBy_setCell w _ _) (fun g' hg' => by
      have := ha k i u _ e hk hi g' hg'
      simpa [Value.ownBlock] using this)
/-- The slice e holds the marks of list b; where it lies in x's block it is no longer than n, and b is x's list. -/
def EOk (w : World) (base : Nat) (x : Value) (n : Nat) (bx : Nat) (e : Value) (m b : Nat) : Prop := OwB w base e (mkL b m) ∧ (∀ g, e.ownBlock = some g → x.ownBlock = some g → m ≤ n ∧ b = bx)
/-- What an append to x leaves of e. -/
theorem EOk.step {w w' : World} {base n s : Nat} {x x' e : Value} {bx m b : Nat} (h : EOk w base x n bx e m b) (hx : OwB w base x (mkL bx n)) (hx' : OwB w' base x (mkL bx n)) (hg : w.grownBy w' x.ownBlock)
    (hb : x'.ownBlock = x.ownBlock ∨ x'.ownBlock = some s) (hs : w.heap.size ≤ s) : EOk w' base x' (n + 1) bx e m b := by
  obtain ⟨ho, hm⟩ := h
  have hnew : ∀ g, e.ownBlock = some g → x'.ownBlock = some g → m ≤ n + 1 ∧ b = bx := by
    intro g he hxe
    rcases hb with hb | hb
    · rw [hb] at hxe
      have := hm g he hxe
      exact ⟨by omega, this.2⟩
    · rw [hb] at hxe
      injection hxe with hxe
      have := (ho.lt g he).2; omega
  refine ⟨?_, hnew⟩
  by_cases hsame : ∃ g, e.ownBlock = some g ∧ x.ownBlock = some g
  · obtain ⟨g, he, hxg⟩ := hsame
    obtain ⟨hmn, rfl⟩ := hm g he hxg
    rcases ho.form with ⟨rfl, _⟩ | ⟨g1, c1, rfl, _⟩
    · cases he
    rcases hx.form with ⟨rfl, _⟩ | ⟨g2, c2, rfl, _⟩
    · cases hxg
    simp [Value.ownBlock] at he hxg
    subst he; subst hxg
    have hc := ho.cap_eq hx
    subst hc
    have := hx'.take (m := m) (by rw [mkL_length]; exact hmn)
    rw [mkL_take _ hmn] at this
    rw [mkL_length]
    exact this
  · exact ho.grown hg (fun g he hr => hsame ⟨g, he, hr.symm⟩)
theorem EOk.grown {w w' : World} {base n : Nat} {x e : Value} {bx m b : Nat} {row : Option Nat} (h : EOk w base x n bx e m b) (hg : w.grownBy w' row) (hne : ∀ g, e.ownBlock = some g → some g ≠ row) : EOk w' base x n bx e m b :=
  ⟨h.1.grown hg hne, h.2⟩
/-- Another slice comes into x's place: one in another block. -/
theorem EOk.fresh {w : World} {base n n' : Nat} {x y e : Value} {bx by' m b : Nat} (h : EOk w base x n bx e m b) (hne : ∀ g, e.ownBlock = some g → y.ownBlock ≠ some g) : EOk w base y n' by' e m b :=
  ⟨h.1, fun g he hy => absurd hy (hne g he)⟩
theorem OwB.ne_own' {w : World} {b b' : Nat} {u v : Value} {l : List UInt8} {n : Nat} {vs : List Value} (h : OwB w b u l) (h' : Own w b' 27 1 v n vs) : ∀ g, u.ownBlock = some g → some g ≠ v.ownBlock :=
  fun _ hg he => h.ne_own h' he.symm hg.symm
/-- How many of the first q are kept. -/
def cntQ (q : Nat) : Nat := min q 3 + (if 8 < q then 1 else 0) + (if 19 < q then 1 else 0)
def keptQ (q : Nat) : Bool := decide (q < 3 ∨ q = 8 ∨ q = 19)
theorem cntQ_keep {q : Nat} (h : keptQ q = true) : cntQ (q + 1) = cntQ q + 1 ∧ cntQ q < 5 := by
  have h := of_decide_eq_true h
  unfold cntQ
  rcases h with h | rfl | rfl
  · rw [if_neg (by omega), if_neg (by omega), if_neg (by omega), if_neg (by omega)]; omega
  · decide
  · decide
theorem cntQ_drop {q : Nat} (h : keptQ q = false) (hq : q < 20) : cntQ (q + 1) = cntQ q := by
  have h := of_decide_eq_false h
  unfold cntQ
  by_cases h1 : 8 < q
  · rw [if_pos (by omega), if_pos h1, if_neg (by omega), if_neg (by omega)]; omega
  · rw [if_neg (by omega), if_neg h1, if_neg (by omega), if_neg (by omega)]; omega
/-- Where the growing of slice k stands. -/
structure InvQ (F : Nat → Prop) (w : World) (s2 base : Nat) (vs : List Value) (f : Nat → List UInt8) (v : Value) (k q : Nat) (gr x : Value) (es : List Value) (wi : World) : Prop where
  len : es.length = 5 * k + cntQ q
  own : Own wi s2 27 1 gr es.length es
  ox : OwB wi base x (mkL k ((f k).length + q))
  hE : ∀ (j : Nat) (e : Value), es[j]? = some e → (∃ m, EOk wi base x ((f k).length + q) k e m (j / 5)) ∧ ∀ (i : Nat) (u : Value), k < i → vs[i]? = some u → ∀ g, e.ownBlock = some g → u.ownBlock ≠ some g
  hk : ∀ (u : Value), vs[k]? = some u → EOk wi base x ((f k).length + q) k u (f k).length k
  hx : ∀ (i : Nat) (u : Value), i ≠ k → vs[i]? = some u → ∀ g, x.ownBlock = some g → u.ownBlock ≠ some g
  hv : Own wi base 27 1 v vs.length vs
  hl : ∀ (j : Nat) (u : Value), j ≠ k → vs[j]? = some u → OwB wi base u (mkL j (f j).length)
  hs : ∀ (j : Nat) (u : Value), vs[j]? = some u → ∀ g, u.ownBlock = some g → g < s2
  ht : Turn F w wi
  hxF : ∀ g, x.ownBlock = some g → F g ∨ w.heap.size ≤ g
  s2w : w.heap.size ≤ s2
  size : s2 ≤ wi.heap.size
section
variable {F : Nat → Prop} {w wi w3 w4 : World} {s2 base : Nat} {vs : List Value} {f : Nat → List UInt8} {v : Value} {k q : Nat} {gr x x3 gr4 : Value} {es : List Value}
/-- A byte is put behind x. -/
theorem InvQ.grow (h : InvQ F w s2 base vs f v k q gr x es wi)
    (ho3 : OwB w3 base x3 (mkL k ((f k).length + q) ++ [mrk k ((f k).length + q)])) (hg3 : wi.grownBy w3 x.ownBlock) (hb3 : x3.ownBlock = x.ownBlock ∨ x3.ownBlock = some (wi.heap.size + 1)) (hk3 : OwB w3 base x (mkL k ((f k).length + q)))
    (hq : es.length = 5 * k + cntQ (q + 1) ∨ es.length = 5 * k + cntQ q) :
    Own w3 s2 27 1 gr es.length es ∧ OwB w3 base x3 (mkL k ((f k).length + (q + 1))) ∧
    (∀ (j : Nat) (e : Value), es[j]? = some e → (∃ m, EOk w3 base x3 ((f k).length + (q + 1)) k e m (j / 5)) ∧ ∀ (i : Nat) (u : Value), k < i → vs[i]? = some u → ∀ g, e.ownBlock = some g → u.ownBlock ≠ some g) ∧
    (∀ (u : Value), vs[k]? = some u → EOk w3 base x3 ((f k).length + (q + 1)) k u (f k).length k) ∧
    (∀ (i : Nat) (u : Value), i ≠ k → vs[i]? = some u → ∀ g, x3.ownBlock = some g → u.ownBlock ≠ some g) ∧
    Own w3 base 27 1 v vs.length vs ∧ (∀ (j : Nat) (u : Value), j ≠ k → vs[j]? = some u → OwB w3 base u (mkL j (f j).length)) ∧ Turn F w w3 ∧ (∀ g, x3.ownBlock = some g → F g ∨ w.heap.size ≤ g) ∧ s2 ≤ w3.heap.size := by
  have hgr3 : Own w3 s2 27 1 gr es.length es := h.own.grown hg3 (fun g hg => h.ox.ne_own h.own hg)
  rw [← mkL_snoc, Nat.add_assoc] at ho3
  have hsz := h.ht.size
  have s3 := hg3.size
  have hz := h.size
  refine ⟨hgr3, ho3, fun j e hj => ?_, fun u hu => ?_, ?_, h.hv.grown hg3 (fun g hg => h.ox.ne_own h.hv hg), fun j u hj hu => (h.hl j u hj hu).grown hg3 (fun g hg he => h.hx j u hj hu g he.symm hg), h.ht.grown hg3 (fun g hg => h.hxF g hg), fun g hg => ?_, by omega⟩
  · obtain ⟨⟨m, he⟩, hne⟩ := h.hE j e hj
    exact ⟨⟨m, he.step h.ox hk3 hg3 hb3 (by omega)⟩, hne⟩
  · exact (h.hk u hu).step h.ox hk3 hg3 hb3 (by omega)
  · intro i u hi hu g hg hu'
    rcases hb3 with e | e
    · exact h.hx i u hi hu g (e ▸ hg) hu'
    · rw [e] at hg
      injection hg with hg
      have := h.hs i u hu g hu'
      omega
  · rcases hb3 with e | e
    · exact h.hxF g (e ▸ hg)
    · rw [e] at hg
      injection hg with hg
      right; omega
/-- .. and it is not kept. -/
theorem InvQ.drop (h : InvQ F w s2 base vs f v k q gr x es wi) (hq : q < 20) (hk : keptQ q = false)
    (ho3 : OwB w3 base x3 (mkL k ((f k).length + q) ++ [mrk k ((f k).length + q)])) (hg3 : wi.grownBy w3 x.ownBlock) (hb3 : x3.ownBlock = x.ownBlock ∨ x3.ownBlock = some (wi.heap.size + 1)) (hk3 : OwB w3 base x (mkL k ((f k).length + q))) :
    InvQ F w s2 base vs f v k (q + 1) gr x3 es w3 := by
  have hlen := h.len
  have hc := cntQ_drop hk hq
  obtain ⟨h1, h2, h3, h4, h5, h6, h7, h8, h8', h9⟩ := h.grow ho3 hg3 hb3 hk3 (.inr hlen)
  exact ⟨by rw [hc]; exact hlen, h1, h2, h3, h4, h5, h6, h7, h.hs, h8, h8', h.s2w, h9⟩
/-- .. and it is kept. -/
theorem InvQ.step (h : InvQ F w s2 base vs f v k q gr x es wi) (hk : keptQ q = true)
    (hV : ∀ g, v.ownBlock = some g → g < s2)
    (ho3 : OwB w3 base x3 (mkL k ((f k).length + q) ++ [mrk k ((f k).length + q)])) (hg3 : wi.grownBy w3 x.ownBlock) (hb3 : x3.ownBlock = x.ownBlock ∨ x3.ownBlock = some (wi.heap.size + 1)) (hk3 : OwB w3 base x (mkL k ((f k).length + q)))
    (hgr4 : Own w4 s2 27 1 gr4 (es.length + 1) (es ++ [x3])) (hg4 : w3.grownBy w4 gr.ownBlock) : InvQ F w s2 base vs f v k (q + 1) gr4 x3 (es ++ [x3]) w4 := by
  have hlen := h.len
  obtain ⟨hc, hc5⟩ := cntQ_keep hk
  obtain ⟨hgr3, ho, h3, h4, h5, h6, h7, h8, h8', h9⟩ := h.grow ho3 hg3 hb3 hk3 (.inr hlen)
  have ho4 := ho.grown hg4 (ho.ne_own' hgr3)
  have s4 := hg4.size
  have hsz := h8.size
  have hne : ∀ {u : Value} {l : List UInt8}, OwB w3 base u l → ∀ g, u.ownBlock = some g → some g ≠ gr.ownBlock := fun hu => OwB.ne_own' hu hgr3
  refine ⟨by simp [hlen, hc]; omega, by simpa using hgr4, ho4, ?_, fun u hu => (h4 u hu).grown hg4 (hne (h4 u hu).1), h5, ?_, fun j u hj hu => (h7 j u hj hu).grown hg4 (hne (h7 j u hj hu)), h.hs, ?_, h8', h.s2w, by omega⟩
  · intro j e hj
    rcases Nat.lt_or_ge j es.length with hlt | hge
    · rw [List.getElem?_append_left hlt] at hj
      obtain ⟨⟨m, he⟩, hn⟩ := h3 j e hj
      exact ⟨⟨m, he.grown hg4 (hne he.1)⟩, hn⟩
    · rw [List.getElem?_append_right hge] at hj
      have hj0 : j = es.length := by
        have := (List.getElem?_eq_some_iff.mp hj).1
        simp at this; omega
      subst hj0
      simp at hj
      subst hj
      have hd : es.length / 5 = k := by rw [hlen]; omega
      rw [hd]
      exact ⟨⟨_, ho4, fun g _ _ => ⟨Nat.le_refl _, rfl⟩⟩, fun i u hi hu => h5 i u (by omega) hu⟩
  · refine h6.grown hg4 (fun g hg he => ?_)
    have h1 := hV g hg
    have h2 := (hgr3.lt g he.symm).1
    omega
  · refine h8.grown hg4 (fun g hg => ?_)
    have h1 := (hgr3.lt g hg).1
    have h2 := h.s2w
    right; omega
end
theorem InvQ.gr3 {F : Nat → Prop} {w wi : World} {s2 base : Nat} {vs : List Value} {f : Nat → List UInt8} {v : Value} {k q : Nat} {gr x : Value} {es : List Value} (h : InvQ F w s2 base vs f v k q gr x es wi) :
    ∀ w3, wi.grownBy w3 x.ownBlock → Own w3 s2 27 1 gr es.length es := fun _ hg => h.own.grown hg (fun _ hg => h.ox.ne_own h.own hg)
theorem OwB.one {w : World} {b : Nat} {u : Value} {l : List UInt8} (h : OwB w b u l) : u.oneCell' = true := by
  rcases h.form with ⟨rfl, _⟩ | ⟨g, c, rfl, _⟩ <;> rfl
theorem OwB.slice' {w : World} {b n : Nat} {u : Value} {l : List UInt8} (h : OwB w b u l) (hn : l.length = n) : ∃ A c, u = .slice A n c := by
  subst hn; exact Own.slice h
def markF (f : Nat → List UInt8) (k : Nat) (j : Nat) : List UInt8 := bif decide (j < k) then mkL j (f j).length else f j
def markQ (f : Nat → List UInt8) (k q : Nat) (j : Nat) : List UInt8 := bif decide (j = k) then mkL k q ++ (f k).drop q else markF f k j
theorem markQ_0 (f : Nat → List UInt8) (k j : Nat) : markQ f k 0 j = markF f k j := by
  unfold markQ markF
  by_cases h : j = k <;> simp [h, mkL]
theorem markQ_n (f : Nat → List UInt8) (k j : Nat) : markQ f k (f k).length j = markF f (k + 1) j := by
  unfold markQ markF
  by_cases h : j = k
  · simp [h]
  · by_cases h2 : j < k
    · have : j < k + 1 := by omega
      simp [h, h2, this]
    · have : ¬ j < k + 1 := by omega
      simp [h, h2, this]
theorem markQ_set (f : Nat → List UInt8) (k q : Nat) (hq : q < (f k).length) : markQ f k (q + 1) k = (markQ f k q k).set q (mrk k q) := by
  unfold markQ
  simp only [decide_true, cond_true]
  rw [List.set_append_right _ _ (by rw [mkL_length]; exact Nat.le_refl _)]
  rw [mkL_length, Nat.sub_self, List.drop_eq_getElem_cons hq, List.set_cons_zero, mkL_snoc, List.append_assoc]
  rfl
theorem markQ_ne (f : Nat → List UInt8) (k q j : Nat) (h : j ≠ k) : markQ f k (q + 1) j = markQ f k q j := by
  unfold markQ; simp [h]
section laws
variable {w : World} {ops : Array Oper} {rest : List Oper} {o : Oper} {a : Act} {Q : Exit → Act → World → Prop}
/-- append(vs, u) of one slice that has just been laid. -/
theorem wp_append_L (hgd : o.guard = none) (s x : Operand)
    (ho : o.op = .call { callee := .builtin .append, args := #[s, x], argTypes := #[36, 36] })
    (base : Nat) (v : Value) (vs : List Value) (hs : a.eval s = v) (hown : Own w base 27 1 v vs.length vs)
    (u : Value) (hu : u.oneCell' = true) (T : TypeId) (hx : a.eval x = .slice (some ⟨w.heap.size, 0, none⟩) 1 1) (hsm : (vs.length + 1) * 24 ≤ 140737488355328) (hbase : base ≤ w.heap.size)
    (h : ∀ v' w', Own w' base 27 1 v' (vs.length + 1) (vs ++ [u]) → w.grownBy w' v.ownBlock → (v'.ownBlock = v.ownBlock ∨ (v'.ownBlock = some (w.heap.size + 1))) → wpList Try.prog ops Q rest (a.put o.dst v') w') :
    wpList Try.prog ops Q (o :: rest) a (w.alloc (.cells #[u] T)) := by
  obtain ⟨i, hi, hz0, hz1, hz2⟩ := info_parts L_info
  refine wp_append hgd s x _ _ ho base 27 i _ 1 24 Try.underlying36 hi hz0 hz1 hz2 rfl v vs.length vs hs (hown.alloc _) (.slice (some ⟨w.heap.size, 0, none⟩) 1 1) 1 [u] hx
    (Rd.src _ Try.underlying36 (by omega) (Rd.one w u T) (by simpa using hu)) (by omega) (by omega) (by simp; omega) ?_
  intro v' w' h1 h2 h3
  refine h v' w' h1 ⟨h2.os, h2.tape, h2.output, ?_, fun k hk hne => (h2.block k (by simp; omega) hne).trans (Below.heap_alloc _ _ _ hk)⟩ (by simpa using h3)
  have := h2.size
  simp at this; omega
end laws
end Go.Proofs.Ytonbcipofakpjaa
