/- slices.Collect(slices.Chunk(b, h)): its pieces. -/
import Derived.RangeFuncBox
import Derived.RangeFuncNested
import Derived.RangeFuncLeaves
import Derived.Shelf.Abstract
import Derived.WalkKit
import Derived.OwnWalkIn
import Derived.TacticsInMore
import Derived.LoopNIn
import Derived.LoopIn
import Derived.Maps.AppendAt
import Derived.Sort.QuietIn
import Derived.Test.YtgnhakgfgdelpaaCut
namespace Go.Proofs.Ytgnhakgfgdelpaa
open Go.RowKit Go.Shelf
attribute [local go_sem] Oper.semAt_some
/-- How many pieces of h bytes (the last one may be shorter). -/
def nCh (len h : Nat) : Nat := (len + h - 1) / h
theorem nCh_lt {len h k : Nat} (hh : 1 ≤ h) : k < nCh len h ↔ k * h < len := by
  unfold nCh
  rw [show k < (len + h - 1) / h ↔ k + 1 ≤ (len + h - 1) / h from Iff.rfl, Nat.le_div_iff_mul_le (by omega), Nat.add_mul]
  omega
def mCh (len h k : Nat) : Nat := min h (len - k * h)
/-- The value of piece k. -/
def chA (A : Option Addr) (len h k : Nat) : Option Addr := if mCh len h k = 0 then A else A.map (·.add (k * h))
abbrev chV (A : Option Addr) (len h k : Nat) : Value := .slice (chA A len h k) (mCh len h k) (mCh len h k)
theorem RdB.recapC {w : World} {A : Option Addr} {n c c' : Nat} {l : List UInt8} (h : RdB w (.slice A n c) l) (h1 : n ≤ c') (h2 : c' ≤ maxLen) : RdB w (.slice A n c') l := by
  obtain ⟨A', c'', hv, k1, k2, k3⟩ := h
  injection hv with hA hn hc
  subst hA hn hc
  exact ⟨A, c', rfl, h1, h2, k3⟩
theorem chV_run {w : World} {A : Option Addr} {c h k : Nat} {l : List UInt8} (hr : RdB w (.slice A l.length c) l) (hk : k * h < l.length) :
    (∀ w', (Instr.slice 25 (.slice A l.length c) (some (.int .i64 ((k * h : Nat) : Int))) (some (.int .i64 (((k * h : Nat) : Int) + ((mCh l.length h k : Nat) : Int)))) (some (.int .i64 (((k * h : Nat) : Int) + ((mCh l.length h k : Nat) : Int))))).run Try.prog w' = .ok (chV A l.length h k) w') ∧ RdB w (chV A l.length h k) ((l.drop (k * h)).take (mCh l.length h k)) := by
  obtain ⟨_, hc, hm⟩ := hr.cap
  have hmm : mCh l.length h k ≤ l.length - k * h := by unfold mCh; exact Nat.min_le_right _ _
  have e : (((k * h : Nat) : Int) + ((mCh l.length h k : Nat) : Int)).toNat = k * h + mCh l.length h k := by omega
  unfold chV chA
  generalize mCh l.length h k = n at *
  generalize k * h = lo at *
  refine ⟨fun w' => ?_, ?_⟩
  · have := run_slice_lhm (P := Try.prog) w' 25 A l.length c u8_elem .i64 .i64 .i64 lo ((lo : Int) + n) ((lo : Int) + n) (by omega) (by omega) (by omega) (by omega)
    rw [this, u8_sizeOf]
    simp [Result.andThen, sliced, e]
  · by_cases h0 : n = 0
    · subst h0
      exact ⟨A, 0, by simp, by simp, by simp [maxLen], fun j hj => by simp at hj⟩
    · have hr := hr.cut (lo := lo) (hi := lo + n) (by omega) (by omega)
      rw [show lo + n - lo = n by omega, ← List.take_drop, if_neg (show ¬ c = lo by omega)] at hr
      rw [if_neg h0]
      exact hr.recapC (Nat.le_refl _) (by simp only [maxLen]; omega)
set_option maxRecDepth 100000 in
set_option maxHeartbeats 4000000 in
/-- slices.Chunk's closure, for every loop body that keeps what lay below n₀. -/
theorem chunk1_in (F : Fence) (n : Nat) (h61 : F.fn 61) (hro : F.round = none) (hn : 1 ≤ n) (l Bs Bh n₀ : Nat) (A : Option Addr) (c h : Nat) (bs : List UInt8) (hh1 : 1 ≤ h) (hh2 : h ≤ 65536) (hbl : bs.length ≤ 70368744177664) (hbs : Bs < n₀) (hbh : Bh < n₀) (w0 : World) (hv : RdB w0 (.slice A bs.length c) bs) (J Jx : List Nat → World → Prop)
    (hY : ∀ pre x W, J pre W → pre.length < nCh bs.length h → YieldAt F (n - 1) Try.prog l #[chV A bs.length h x] W fun e W' =>
      (e = .returned (.bool true) ∧ J (pre ++ [x]) W' ∧ Below n₀ W W') ∨ (e = .returned (.bool false) ∧ Jx (pre ++ [x]) W'))
    (hJd : ∀ pre W nq, J pre W → J pre (W.drewN nq)) (W : World) (hBs : W.cell? ⟨Bs, 0, none⟩ = some (.slice A bs.length c)) (hBh : W.cell? ⟨Bh, 0, none⟩ = some (.int .i64 (h : Int))) (h0 : J [] W) :
    CallsIn F n Try.prog 61 #[.func (.yield l) #[] #[], .pointer (some ⟨Bs, 0, none⟩), .pointer (some ⟨Bh, 0, none⟩)] W fun e W' => (∃ v, e = .returned v) ∧
      ((∃ ys, ys = List.range (nCh bs.length h) ∧ J ys W') ∨ (∃ pre, True ∧ Jx pre W')) := by
  refine callsIn_of_wp Try.func61 rfl h61 ?_ hro
  simp only [Try.ntmps61, List.size_toArray, List.length_cons, List.length_nil, Nat.reduceAdd, Nat.reduceSub, Array.replicate_succ, Array.replicate_zero, List.push_toArray, List.append_toArray, List.nil_append, List.cons_append]
  gi_wp2
  gi_loopw [4] (fun i wr => ∃ k : Nat, k ≤ nCh bs.length h ∧ i = .int .i64 ((k * h : Nat) : Int) ∧ J (List.range k) wr ∧ Below n₀ W wr)
    (fun i _ => bs.length - (intOf i).toNat)
  case atStart => exact ⟨0, Nat.zero_le _, by simp, h0, Below.refl _ _⟩
  case round =>
    obtain ⟨k, hk, rfl, hJs, hnx⟩ := hrel
    have c1 : wr.cell? ⟨Bs, 0, none⟩ = some (.slice A bs.length c) := (hnx.cell (p := ⟨Bs, 0, none⟩) hbs).trans hBs
    have c2 : wr.cell? ⟨Bh, 0, none⟩ = some (.int .i64 (h : Int)) := (hnx.cell (p := ⟨Bh, 0, none⟩) hbh).trans hBh
    by_cases hlt : k < nCh bs.length h
    · have hklt : k * h < bs.length := (nCh_lt hh1).1 hlt
      obtain ⟨q2, _⟩ := chV_run hv hklt
      obtain ⟨A1, d1, q1, _⟩ := hv.run_l (k * h) (by omega)
      have hU := @List.range_succ k
      have hsk : (k + 1) * h = k * h + h := by rw [Nat.add_mul, Nat.one_mul]
      have hmv : mCh bs.length h k = min h (bs.length - k * h) := rfl
      have hR := fun nq => hY _ k (wr.drewN nq) (hJd _ _ nq hJs) (by rw [List.length_range]; exact hlt)
      have hcv : ∃ a m, chV A bs.length h k = .slice a m m := ⟨_, _, rfl⟩
      generalize chV A bs.length h k = cv at *
      generalize mCh bs.length h k = m at *
      generalize hlo : k * h = lo at *
      have i1 : (lo : Int) < (bs.length : Int) := by omega
      have hm1 : m ≤ h := by omega
      have wm : IntKind.i64.wrap ((lo : Int) + (m : Int)) = (lo : Int) + (m : Int) := by rw [IntKind.wrap_i64]; omega
      have wh : IntKind.i64.wrap ((lo : Int) + (h : Int)) = (lo : Int) + (h : Int) := by rw [IntKind.wrap_i64]; omega
      by_cases hmn : bs.length - lo < h
      · obtain rfl : m = bs.length - lo := by omega
        clear hmv hm1
        gi_wp2
        refine wpIn_region_quiet_lit hro (by kernel_rfl) (by kernel_rfl) ?_
        repeat (gi_big_quiet_step (fail))
        refine wpQuietIn_nil ?_
        rintro _ ⟨nq, rfl⟩
        obtain ⟨fn, tmps, assign, body, hy, hR⟩ := hR nq
        gi_wp2
        refine hR.mono ?_
        rintro e W3 (⟨rfl, hJ3, hk3⟩ | ⟨rfl, hJx3⟩)
        · have d2 : W3.cell? ⟨Bh, 0, none⟩ = some (.int .i64 (h : Int)) := (hk3.cell (p := ⟨Bh, 0, none⟩) hbh).trans c2
          gi_wp2
          go_roundw
          case rel => exact ⟨k + 1, by omega, by rw [hsk]; push_cast; rfl, by rw [hU]; exact hJ3, hnx.trans ((show Below n₀ wr (wr.drewN nq) from ⟨rfl, rfl, rfl, Nat.le_refl _, fun _ _ => rfl⟩).trans hk3)⟩
          case measure => simp [intOf]; omega
        · gi_wp2
          refine bodyPost_ret (results_none rfl _ _ _) rfl ?_
          first | exact ⟨⟨_, rfl⟩, .inr ⟨_, trivial, hJx3⟩⟩ | exact ⟨⟨_, rfl⟩, .inr ⟨_, hJx3⟩⟩
      · obtain rfl : h = m := by omega
        clear hmv hm1
        gi_wp2
        refine wpIn_region_quiet_lit hro (by kernel_rfl) (by kernel_rfl) ?_
        repeat (gi_big_quiet_step (fail))
        refine wpQuietIn_nil ?_
        rintro _ ⟨nq, rfl⟩
        obtain ⟨fn, tmps, assign, body, hy, hR⟩ := hR nq
        gi_wp2
        refine hR.mono ?_
        rintro e W3 (⟨rfl, hJ3, hk3⟩ | ⟨rfl, hJx3⟩)
        · have d2 : W3.cell? ⟨Bh, 0, none⟩ = some (.int .i64 (h : Int)) := (hk3.cell (p := ⟨Bh, 0, none⟩) hbh).trans c2
          gi_wp2
          go_roundw
          case rel => exact ⟨k + 1, by omega, by rw [hsk]; push_cast; rfl, by rw [hU]; exact hJ3, hnx.trans ((show Below n₀ wr (wr.drewN nq) from ⟨rfl, rfl, rfl, Nat.le_refl _, fun _ _ => rfl⟩).trans hk3)⟩
          case measure => simp [intOf]; omega
        · gi_wp2
          refine bodyPost_ret (results_none rfl _ _ _) rfl ?_
          first | exact ⟨⟨_, rfl⟩, .inr ⟨_, trivial, hJx3⟩⟩ | exact ⟨⟨_, rfl⟩, .inr ⟨_, hJx3⟩⟩
    · obtain rfl : k = nCh bs.length h := by omega
      have hge : ¬ ((nCh bs.length h * h : Nat) : Int) < (bs.length : Int) := by
        have := (nCh_lt (len := bs.length) (k := nCh bs.length h) hh1)
        omega
      gi_wp2
      go_end0
      first | exact ⟨⟨_, rfl⟩, .inl ⟨_, rfl, hJs⟩⟩ | exact ⟨⟨_, rfl⟩, .inl hJs⟩
set_option maxRecDepth 100000 in
set_option maxHeartbeats 1000000 in
theorem Chunk_any (A : Option Addr) (m c h : Nat) (hh1 : 1 ≤ h) (w : World) :
    Calls Try.prog 45 #[.slice A m c, .int .i64 (h : Int)] w fun e w' => e = .returned (.func (.func 61) #[] #[.pointer (some ⟨w.heap.size, 0, none⟩), .pointer (some ⟨w.heap.size + 1, 0, none⟩)]) ∧
      w' = (w.alloc (.cells #[.slice A m c] 25)).alloc (.cells #[.int .i64 (h : Int)] 3) := by
  have hmf : ∀ (fn : Fn) (first cap : Array Value) (w : World), (Instr.makeFunc fn first cap).run Try.prog w = .ok (.func fn first cap) w := fun _ _ _ _ => rfl
  have h1 : ¬ (h : Int) < 1 := by omega
  go_enter Try.func45, Try.ntmps45
  go_wp2_with fail
  go_ret
  exact ⟨rfl, rfl⟩
/-- What Chunk hands back, as an iterator. -/
theorem chunk_stops (F : Fence) (n : Nat) (h61 : F.fn 61) (hro : F.round = none) (hn : 1 ≤ n) (Bs Bh n₀ : Nat) (A : Option Addr) (c h : Nat) (bs : List UInt8) (hh1 : 1 ≤ h) (hh2 : h ≤ 65536) (hbl : bs.length ≤ 70368744177664) (hbs : Bs < n₀) (hbh : Bh < n₀) (w : World) (hv : RdB w (.slice A bs.length c) bs) (hn₀ : n₀ ≤ w.heap.size)
    (hBs : w.cell? ⟨Bs, 0, none⟩ = some (.slice A bs.length c)) (hBh : w.cell? ⟨Bh, 0, none⟩ = some (.int .i64 (h : Int))) :
    SeqStopsK F n Try.prog 61 #[.pointer (some ⟨Bs, 0, none⟩), .pointer (some ⟨Bh, 0, none⟩)] (fun x : Nat => #[chV A bs.length h x]) (Below n₀) (fun ys => ys = List.range (nCh bs.length h)) (fun _ => True) (nCh bs.length h) w := fun l J Jx W hW hJ _ hY h0 =>
  chunk1_in F n h61 hro hn l Bs Bh n₀ A c h bs hh1 hh2 hbl hbs hbh w hv J Jx hY (fun pre W' nq hp => hJ pre W' _ none hp ⟨rfl, rfl, rfl, Nat.le_refl _, fun _ _ _ => rfl⟩ (fun r e => by cases e)) W
    ((hW.cell (p := ⟨Bs, 0, none⟩) (by exact Nat.lt_of_lt_of_le hbs hn₀)).trans hBs) ((hW.cell (p := ⟨Bh, 0, none⟩) (by exact Nat.lt_of_lt_of_le hbh hn₀)).trans hBh) h0
theorem sl_info : (Try.prog.info? 25).map (fun i => (i.zero, i.size, i.bytes)) = some (some (.slice none 0 0), 1, 24) := by kernel_rfl
set_option maxRecDepth 100000 in
set_option maxHeartbeats 4000000 in
theorem AppendSeq_in (F : Fence) (n : Nat) (h60 : F.fn 60) (h61 : F.fn 61) (hro : F.round = none) (hn : 3 ≤ n) (Bs Bh : Nat) (A : Option Addr) (c sz : Nat) (bs : List UInt8) (hh1 : 1 ≤ sz) (hh2 : sz ≤ 65536) (hbl : bs.length ≤ 70368744177664) (hcnt : nCh bs.length sz ≤ 4294967296) (w : World) (hbs : Bs < w.heap.size) (hbh : Bh < w.heap.size) (hv : RdB w (.slice A bs.length c) bs)
    (hBs : w.cell? ⟨Bs, 0, none⟩ = some (.slice A bs.length c)) (hBh : w.cell? ⟨Bh, 0, none⟩ = some (.int .i64 (sz : Int))) :
    CallsIn F n Try.prog 60 #[.slice none 0 0, .func (.func 61) #[] #[.pointer (some ⟨Bs, 0, none⟩), .pointer (some ⟨Bh, 0, none⟩)]] w fun e W' => ∃ v, e = .returned v ∧ W'.ownsRow w.heap.size 25 1 v (nCh bs.length sz) ((List.range (nCh bs.length sz)).map (chV A bs.length sz)) ∧ Below w.heap.size w W' := by
  have h1 : 1 ≤ n := by omega
  obtain ⟨i0, hi, hz0, hz1, hz2⟩ := info_parts sl_info
  refine callsIn_of_wp_marks Try.func60 rfl h60 ?_ hro
  simp only [Try.ntmps60, List.size_toArray, List.length_cons, List.length_nil, Nat.reduceAdd, Nat.reduceSub, Array.replicate_succ, Array.replicate_zero, List.push_toArray, List.append_toArray, List.nil_append, List.cons_append]
  gi_wp2
  have bO := Boxed.new w 32 (.slice none 0 0)
  have hB0 : Below w.heap.size w (w.alloc (.cells #[.slice none 0 0] 32)) := (Below.refl _ w).alloc (Nat.le_refl _) _
  refine wpIn_rangeFunc_ownG hro h1 (gf := 61) (lb := #[.pointer (some ⟨Bs, 0, none⟩), .pointer (some ⟨Bh, 0, none⟩)]) rfl h61 (enters_of Try.func61 (by kernel_rfl) rfl)
    (chunk_stops F (n - 1) h61 hro (by omega) Bs Bh w.heap.size A c sz bs hh1 hh2 hbl hbs hbh _ (hv.alloc _) (by simp) ((hB0.cell (p := ⟨Bs, 0, none⟩) hbs).trans hBs) ((hB0.cell (p := ⟨Bh, 0, none⟩) hbh).trans hBh)) belowK_t (belowK_b (by simp)) (Below.refl _ _) (fun _ => rfl)
    (fun (pre : List Nat) W => (∃ v, Boxed W w.heap.size 32 v ∧ W.ownsRow w.heap.size 25 1 v pre.length (pre.map (chV A bs.length sz)) ∧ True) ∧ Below w.heap.size w W)
    (fun _ _ _ => False)
    (OwnFrom.and (Own.from (holdsRow_own w.heap.size w.heap.size 32 25 1 (fun pre : List Nat => pre.length) (fun pre : List Nat => pre.map (chV A bs.length sz)) (fun _ _ => True)) _) (ownFrom_below (Nat.le_refl _) (by simp)))
    (fun _ _ _ _ _ hs _ _ => hs)
    ⟨⟨_, bO, World.ownsRow_nil _ _ _ _, trivial⟩, hB0⟩
    (fun x => { tmps := #[.slice none 0 0, (.func (.func 61) #[] #[.pointer (some ⟨Bs, 0, none⟩), .pointer (some ⟨Bh, 0, none⟩)]), .pointer (some ⟨w.heap.size, 0, none⟩), undef, .slice none 0 0, (.slice (chA A bs.length sz x) (mCh bs.length sz x) (mCh bs.length sz x)), (.func (.func 61) #[] #[.pointer (some ⟨Bs, 0, none⟩), .pointer (some ⟨Bh, 0, none⟩)]), (.slice (chA A bs.length sz x) (mCh bs.length sz x) (mCh bs.length sz x)), undef, undef, undef, undef, undef], defers := [] }) ?assign ?body ?done ?stop
  case assign =>
    intro l x W K hK
    gi_wp2
    exact hK
  case body =>
    rintro l pre x W ⟨⟨v, hv, hrow, -⟩, hB⟩ hlt
    have hc := hv.cell
    gi_wp2_with (gi_at_builtin; refine wpListIn_append_own _ rfl _ _ 32 rfl w.heap.size 25 i0 (.slice none 0 0) 1 24 Try.underlying32 hi hz0 hz1 hz2 rfl (by decide) _ _ _ rfl (hrow.alloc _) ⟨W.heap.size, 0, none⟩ 1 1 [.slice (chA A bs.length sz x) (mCh bs.length sz x) (mCh bs.length sz x)] rfl rfl (cell_one_new _ _ _) (by simp [Value.oneCell']) (by simp only [maxLen]; omega) (by omega) (by have := hB.size; simp; omega) ?_; intro v' w1 hown' hgrow _; obtain ⟨g', cap', rfl⟩ := ownsRow_succ hown'; obtain ⟨hv1, hv2, hr2, hk2, hb2⟩ := hv.appended (by decide) hrow hB.size (Nat.le_refl _) hown' hgrow; have hc1 := hv1.cell; have hf1 := hv1.frozen)
    have hr3 : (w1.setCell ⟨w.heap.size, 0, none⟩ (.slice (some ⟨g', 0, none⟩) (pre.length + 1) cap')).ownsRow w.heap.size 25 1 (.slice (some ⟨g', 0, none⟩) (pre.length + 1) cap') (pre ++ [x]).length ((pre ++ [x]).map (chV A bs.length sz)) := by
      rw [List.length_append, List.map_append]
      exact hr2
    first | exact ⟨hk2.from _, hb2, ⟨_, hv2, hr3, trivial⟩, hB.trans hb2⟩ | exact ⟨hk2.from _, hb2, ⟨_, hv2, hr3⟩, hB.trans hb2⟩
  case done =>
    rintro D ys W hD rfl ⟨⟨v, hv, hrow, -⟩, hB⟩ hK
    have hc := hv.cell
    gi_wp2
    refine ⟨by simp, .inl ⟨_, _, rfl, run_takeDeferred hK, ?_⟩⟩
    rw [List.length_range] at hrow
    exact ⟨_, results_tmp rfl _ _ _, v, rfl, ownsRow_putObj hrow _ hK rfl, hB.trans (belowK_b (w := w) (Nat.le_refl _) W D _ _ (by simp at hD; omega) hK rfl rfl)⟩
  case stop =>
    rintro D c pre W _ _ h _
    exact h.elim
theorem own_of_row {w : World} {base : Nat} {T : TypeId} {v : Value} {n : Nat} {xs : List Value} (h : w.ownsRow base T 1 v n xs) : Own w base T 1 v n xs := by
  obtain ⟨h1, h2⟩ := h
  refine ⟨h1, ?_⟩
  rcases h2 with h2 | ⟨g, cap, cur, rfl, k1, k2, k3, k4, k5, k6⟩
  · exact .inl h2
  · exact .inr ⟨g, cap, cur.toList, rfl, k1, ⟨(0, 0), by simpa using k2, fun j _ => by simp⟩, k3, k4, by simpa using k5, k6⟩
set_option maxRecDepth 100000 in
set_option maxHeartbeats 1000000 in
/-- slices.Collect of what Chunk hands back. -/
theorem Collect_any (Bs Bh : Nat) (A : Option Addr) (c sz : Nat) (bs : List UInt8) (hh1 : 1 ≤ sz) (hh2 : sz ≤ 65536) (hbl : bs.length ≤ 70368744177664) (hcnt : nCh bs.length sz ≤ 4294967296) (w : World) (hbs : Bs < w.heap.size) (hbh : Bh < w.heap.size) (hv : RdB w (.slice A bs.length c) bs)
    (hBs : w.cell? ⟨Bs, 0, none⟩ = some (.slice A bs.length c)) (hBh : w.cell? ⟨Bh, 0, none⟩ = some (.int .i64 (sz : Int))) :
    Calls Try.prog 44 #[.func (.func 61) #[] #[.pointer (some ⟨Bs, 0, none⟩), .pointer (some ⟨Bh, 0, none⟩)]] w fun e W' => ∃ v, e = .returned v ∧ Own W' w.heap.size 25 1 v (nCh bs.length sz) ((List.range (nCh bs.length sz)).map (chV A bs.length sz)) ∧ Below w.heap.size w W' := by
  have hA := callsIn_wide.1 (AppendSeq_in Fence.wide 3 trivial trivial rfl (by omega) Bs Bh A c sz bs hh1 hh2 hbl hcnt w hbs hbh hv hBs hBh)
  go_enter Try.func44, Try.ntmps44
  go_wp2_with (first | (go_at_call 60; with_reducible refine hA.mono ?_; rintro e w1 ⟨v, rfl, ho, hB⟩) | fail)
  go_ret
  exact ⟨_, rfl, own_of_row ho, hB⟩
end Go.Proofs.Ytgnhakgfgdelpaa
