/- Texts joined: slices.Clone of bytes.; spill.Decode, Pages; slices.Collect(slices.Chunk(b, h)); slices.Index, Contains for integers; spill.Pages; the document's Pages.; espalierref03.IsPage; The document's Pages.; What Write of a long value does to a bench; A chain of pages, as a plain function over a bench.; Calls through api.Room, whose value is a bench. -/
import Derived.Test.YtgnhakgfgdelpaaP2
import Derived.Test.YtgnhakgfgdelpaaP3
import Derived.Test.YtgnhakgfgdelpaaP4
import Derived.Lib.SlBytesConst
import Derived.RangeFuncBox
import Derived.RangeFuncNested
import Derived.RangeFuncLeaves
import Derived.Shelf.Abstract
import Derived.WalkKit
import Derived.OwnWalkIn
import Derived.TacticsInMore
import Derived.LoopNIn
import Derived.LoopIn
import Derived.Maps.AppendAt
import Derived.Sort.QuietIn
-- slices.Clone of bytes.
namespace Go.Proofs.Ytgnhakgfgdelpaa
open Go.RowKit
set_option maxRecDepth 20000 in
set_option maxHeartbeats 1000000 in
theorem CloneB_any (v : Value) (l : List UInt8) (w : World) (hv : RdB w v l) (hl : l.length ≤ 140737488355328) :
    Calls Try.prog 42 #[v] w fun e w' => ∃ v', e = .returned v' ∧ OwB w' w.heap.size v' l ∧ Below w.heap.size w w' := by
  obtain ⟨A, c, rfl, hm⟩ := hv.form
  have q22 : ∀ (w : World) (a : Option Addr) (n c n' c' : Nat), (binOp .eql 25 (.slice a n c) (.slice none n' c')).run Try.prog w = .ok (.bool a.isNone) w := fun w a n c n' c' => Lib.run_eql_slice_nil w _ _ a n c n' c' Try.underlying25
  cases A with
  | none =>
    have : l = [] := by
      cases l with
      | nil => rfl
      | cons x r => obtain ⟨ad, h, _⟩ := hv.at_ (j := 0) (by simp); cases h
    subst this
    go_enter Try.func42, Try.ntmps42
    go_wp2_with fail
    go_ret
    exact ⟨_, rfl, OwB.nil _ _, Below.refl _ _⟩
  | some ad =>
    go_enter Try.func42, Try.ntmps42
    have hbase : OwB (w.alloc (.cells #[] 5)) w.heap.size (.slice (some ⟨w.heap.size, 0, none⟩) 0 0) [] := by
      have := (OBlk.new' w 5 []).owB' (base := w.heap.size) (m := []) (Nat.le_refl _) (by simp)
      exact this
    go_wp2_with (first
      | (at_builtin; refine wp_append_B rfl (.tmp 5) (.tmp 6) rfl w.heap.size _ [] rfl hbase _ l rfl (hv.alloc _) (by simp; omega) (by simp) ?_; intro v' w' ho hg hbk)
      | fail)
    go_ret
    exact ⟨v', rfl, ho, ((Below.refl w.heap.size w).alloc (Nat.le_refl _) _).grown hg (by simp) (fun k hk => Nat.le_of_eq (Option.some.inj hk))⟩
end Go.Proofs.Ytgnhakgfgdelpaa

-- spill.Decode, Pages: walks.
namespace Go.Proofs.Ytgnhakgfgdelpaa
open Go.RowKit
theorem num4_lt (b : List UInt8) (a : Nat) : numAt b a 4 < 4294967296 := by
  unfold numAt
  refine Nat.lt_of_lt_of_le (numF_lt _) ?_
  have h : ((b.drop a).take 4).length ≤ 4 := by rw [List.length_take]; exact Nat.min_le_left _ _
  exact Nat.le_trans (Nat.pow_le_pow_right (by decide) h) (by decide)
def decS (b : List UInt8) : Option (Int × List UInt8) :=
  if isPowB (b.length : Int) = true ∧ numAt b 8 4 + 16 ≤ b.length ∧ spZ ((numAt b 4 4 : Nat) : Int) ((b.drop 12).take (numAt b 8 4)) (b.length : Int) = 0 ∧ laidS ((numAt b 4 4 : Nat) : Int) ((b.drop 12).take (numAt b 8 4)) b.length = b
  then some (((numAt b 4 4 : Nat) : Int), (b.drop 12).take (numAt b 8 4)) else none
def decN (b : List UInt8) : Int := match decS b with | some (n, _) => n | none => 0
def decD (b : List UInt8) : List UInt8 := match decS b with | some (_, d) => d | none => []
def decZ (b : List UInt8) : Int := match decS b with | some _ => 0 | none => 60
theorem dec_none {b : List UInt8} (h : decS b = none) : decN b = 0 ∧ decD b = [] ∧ decZ b = 60 := by unfold decN decD decZ; rw [h]; exact ⟨rfl, rfl, rfl⟩
theorem dec_some {b : List UInt8} {n : Int} {d : List UInt8} (h : decS b = some (n, d)) : decN b = n ∧ decD b = d ∧ decZ b = 0 := by unfold decN decD decZ; rw [h]; exact ⟨rfl, rfl, rfl⟩
def SDecAt (w : World) (b : List UInt8) (e : Ending) (w' : World) : Prop := ∃ u, e = .returned (.tuple #[.int .i64 (decN b), u, .int .i64 (decZ b)]) ∧ OwB w' w.heap.size u (decD b) ∧ Below w.heap.size w w'
theorem SDecAt.bad {w w' : World} {b : List UInt8} (h : decS b = none) (hB : Below w.heap.size w w') : SDecAt w b (.returned (.tuple #[.int .i64 0, .slice none 0 0, .int .i64 60])) w' := by
  obtain ⟨h1, h2, h3⟩ := dec_none h
  exact ⟨_, by rw [h1, h3], by rw [h2]; exact OwB.nil _ _, hB⟩
set_option maxRecDepth 100000 in
set_option maxHeartbeats 8000000 in
theorem SDecode_any (v : Value) (b : List UInt8) (w : World) (hv : RdB w v b) : Calls Try.prog 20 #[v] w (SDecAt w b) := by
  obtain ⟨A, c, rfl, hm⟩ := hv.form
  have hPa := fun W => SisPage_any (b.length : Int) (by omega) W
  cases hp : isPowB (b.length : Int) with
  | false =>
    have HN : Hid (decS b = none) := by show _ = _; unfold decS; rw [if_neg (by rw [hp]; simp)]
    rw [hp] at hPa
    clear hp
    go_enter Try.func20, Try.ntmps20
    go_wp2_with (first | (go_at_call 33; refine (hPa _).mono ?_; rintro e w1 ⟨rfl, rfl⟩) | fail)
    refine bodyPost_ret (v := .tuple #[.int .i64 0, .slice none 0 0, .int .i64 60]) ?_ rfl ?_
    · simp [results, Try.results20, go_sem]
    · exact SDecAt.bad HN.out (Below.refl _ _)
  | true =>
    obtain ⟨hP1, hP2⟩ := isPowB_range hp
    have hb1 : 512 ≤ b.length := by omega
    have hb2 : b.length ≤ 65536 := by omega
    have HP := Lib.hid hp
    have hD : decS b = if numAt b 8 4 + 16 ≤ b.length ∧ spZ ((numAt b 4 4 : Nat) : Int) ((b.drop 12).take (numAt b 8 4)) (b.length : Int) = 0 ∧ laidS ((numAt b 4 4 : Nat) : Int) ((b.drop 12).take (numAt b 8 4)) b.length = b then some (((numAt b 4 4 : Nat) : Int), (b.drop 12).take (numAt b 8 4)) else none := by
      unfold decS; rw [hp]; simp
    rw [hp] at hPa
    clear hp
    have hN1 : Calls Try.prog 41 #[.slice A b.length c, .int .i64 4, .int .i64 4] w fun e w' => e = .returned (.tuple #[.int .u64 (numAt b 4 4 : Nat), .int .i64 0]) ∧ w = w' := ReadFixed_any (.slice A b.length c) b 4 4 (by omega) (by omega) (by omega) w hv
    have hN2 : Calls Try.prog 41 #[.slice A b.length c, .int .i64 8, .int .i64 4] w fun e w' => e = .returned (.tuple #[.int .u64 (numAt b 8 4 : Nat), .int .i64 0]) ∧ w = w' := ReadFixed_any (.slice A b.length c) b 8 4 (by omega) (by omega) (by omega) w hv
    have hl1 := num4_lt b 4
    have hl2 := num4_lt b 8
    generalize numAt b 4 4 = x at *
    generalize numAt b 8 4 = n at *
    have w1 : IntKind.i64.wrap (x : Int) = (x : Int) := by rw [IntKind.wrap_i64]; omega
    have w2 : IntKind.i64.wrap (n : Int) = (n : Int) := by rw [IntKind.wrap_i64]; omega
    have w3 : IntKind.u64.wrap ((b.length : Int) - 12 - 4) = (b.length : Int) - 12 - 4 := IntWalk.u64_in _ (by omega)
    have HD := Lib.hid hD
    clear hD
    by_cases h1 : n + 16 ≤ b.length
    · have i1 : ¬ (b.length : Int) - 12 - 4 < (n : Int) := by omega
      have i2 : (12 : Int) ≤ 12 + (n : Int) := by omega
      have i3 : (12 : Int) + (n : Int) ≤ (b.length : Int) := by omega
      have i4 : (12 : Int) ≤ (b.length : Int) := by omega
      have hdl : ((b.drop 12).take n).length = n := by rw [List.length_take, List.length_drop]; omega
      obtain ⟨A2, c2, q2', hr2⟩ := hv.run_lh 12 (12 + n) (by omega) (by omega)
      rw [show (b.take (12 + n)).drop 12 = (b.drop 12).take n by rw [List.drop_take, show 12 + n - 12 = n by omega]] at hr2
      rw [show 12 + n - 12 = n by omega] at q2' hr2
      have q2 : ∀ w', (Instr.slice 25 (.slice A b.length c) (some (.int .i64 12)) (some (.int .i64 (12 + (n : Int)))) none).run Try.prog w' = .ok (.slice A2 n c2) w' := fun w' => q2' w'
      clear q2'
      have HDL := Lib.hid hdl
      generalize (b.drop 12).take n = d at *
      have hE := fun (W : World) (u : Value) (hu : RdB W u d) => SEncode_any (x : Int) u d (b.length : Int) (by unfold i64w; omega) W hu
      have hpl : spL (x : Int) d (b.length : Int) = if spZ (x : Int) d (b.length : Int) = 0 then laidS (x : Int) d b.length else [] := by unfold spL; rfl
      by_cases hz : spZ (x : Int) d (b.length : Int) = 0
      · rw [if_pos hz] at hpl
        rw [hz, hpl] at hE
        by_cases heq : laidS (x : Int) d b.length = b
        · have HS : Hid (decS b = some ((x : Int), d)) := by show _ = _; rw [HD.out, if_pos ⟨h1, hz, heq⟩]
          rw [heq] at hE
          clear HD hz hpl heq
          go_enter Try.func20, Try.ntmps20
          go_upto_region 8 with (first
        | (go_at_call 33; refine (hPa _).mono ?_; rintro e w1 ⟨rfl, rfl⟩)
        | (go_at_call 41; with_reducible refine hN1.mono ?_; rintro e w1 ⟨rfl, rfl⟩)
        | (go_at_call 41; with_reducible refine hN2.mono ?_; rintro e w1 ⟨rfl, rfl⟩)
        | (go_at_call 42; with_reducible refine (CloneB_any _ _ _ hr2 (by rw [HDL.out]; omega)).mono ?_; rintro e w3 ⟨u3, rfl, ho3, hB3⟩)
        | fail)
          go_wp2_with (first
            | (go_at_call 15; with_reducible refine (hE _ _ ho3.rd).mono ?_; rintro e w4 ⟨u4, rfl, ho4, hB4⟩)
            | (go_at_call 43; with_reducible refine (Equal_any _ _ b b _ ho4.rd ((hv.below hB3 (Nat.le_refl _)).below hB4 (Nat.le_refl _))).mono ?_; rintro e w5 ⟨rfl, rfl⟩; rw [beq_self_eq_true])
            | fail)
          refine bodyPost_ret (v := .tuple #[.int .i64 (x : Int), u3, .int .i64 0]) ?_ rfl ?_
          · simp [results, Try.results20, go_sem]
          · obtain ⟨k1, k2, k3⟩ := dec_some HS.out
            exact ⟨u3, by rw [k1, k3], by rw [k2]; exact Own.below' ho3 hB4 (Nat.le_refl _), hB3.trans (hB4.mono hB3.size)⟩
        · have HN : Hid (decS b = none) := by show _ = _; rw [HD.out, if_neg (fun h => heq h.2.2)]
          have hbe : (laidS (x : Int) d b.length == b) = false := beq_eq_false_iff_ne.2 heq
          generalize laidS (x : Int) d b.length = l2 at *
          clear HD hz hpl heq
          go_enter Try.func20, Try.ntmps20
          go_upto_region 8 with (first
        | (go_at_call 33; refine (hPa _).mono ?_; rintro e w1 ⟨rfl, rfl⟩)
        | (go_at_call 41; with_reducible refine hN1.mono ?_; rintro e w1 ⟨rfl, rfl⟩)
        | (go_at_call 41; with_reducible refine hN2.mono ?_; rintro e w1 ⟨rfl, rfl⟩)
        | (go_at_call 42; with_reducible refine (CloneB_any _ _ _ hr2 (by rw [HDL.out]; omega)).mono ?_; rintro e w3 ⟨u3, rfl, ho3, hB3⟩)
        | fail)
          go_wp2_with (first
            | (go_at_call 15; with_reducible refine (hE _ _ ho3.rd).mono ?_; rintro e w4 ⟨u4, rfl, ho4, hB4⟩)
            | (go_at_call 43; with_reducible refine (Equal_any _ _ l2 b _ ho4.rd ((hv.below hB3 (Nat.le_refl _)).below hB4 (Nat.le_refl _))).mono ?_; rintro e w5 ⟨rfl, rfl⟩; rw [hbe])
            | fail)
          refine bodyPost_ret (v := .tuple #[.int .i64 0, .slice none 0 0, .int .i64 60]) ?_ rfl ?_
          · simp [results, Try.results20, go_sem]
          · exact SDecAt.bad HN.out (hB3.trans (hB4.mono hB3.size))
      · have HN : Hid (decS b = none) := by show _ = _; rw [HD.out, if_neg (fun h => hz h.2.1)]
        have e1 : (spZ (x : Int) d (b.length : Int) != 0) = true := by simp only [bne, beq_eq_false_iff_ne.2 hz]; rfl
        generalize spZ (x : Int) d (b.length : Int) = z at *
        clear HD hz hpl
        go_enter Try.func20, Try.ntmps20
        go_upto_region 8 with (first
        | (go_at_call 33; refine (hPa _).mono ?_; rintro e w1 ⟨rfl, rfl⟩)
        | (go_at_call 41; with_reducible refine hN1.mono ?_; rintro e w1 ⟨rfl, rfl⟩)
        | (go_at_call 41; with_reducible refine hN2.mono ?_; rintro e w1 ⟨rfl, rfl⟩)
        | (go_at_call 42; with_reducible refine (CloneB_any _ _ _ hr2 (by rw [HDL.out]; omega)).mono ?_; rintro e w3 ⟨u3, rfl, ho3, hB3⟩)
        | fail)
        go_wp2_with (first
          | (go_at_call 15; with_reducible refine (hE _ _ ho3.rd).mono ?_; rintro e w4 ⟨u4, rfl, ho4, hB4⟩)
          | fail)
        refine bodyPost_ret (v := .tuple #[.int .i64 0, .slice none 0 0, .int .i64 60]) ?_ rfl ?_
        · simp [results, Try.results20, go_sem]
        · exact SDecAt.bad HN.out (hB3.trans (hB4.mono hB3.size))
    · have i1 : (b.length : Int) - 12 - 4 < (n : Int) := by omega
      have HN : Hid (decS b = none) := by show _ = _; rw [HD.out, if_neg (fun h => h1 h.1)]
      clear HD
      go_enter Try.func20, Try.ntmps20
      go_wp2_with (first | (go_at_call 33; refine (hPa _).mono ?_; rintro e w1 ⟨rfl, rfl⟩) | (go_at_call 41; with_reducible refine hN1.mono ?_; rintro e w1 ⟨rfl, rfl⟩) | (go_at_call 41; with_reducible refine hN2.mono ?_; rintro e w1 ⟨rfl, rfl⟩) | fail)
      refine bodyPost_ret (v := .tuple #[.int .i64 0, .slice none 0 0, .int .i64 60]) ?_ rfl ?_
      · simp [results, Try.results20, go_sem]
      · exact SDecAt.bad HN.out (Below.refl _ _)
end Go.Proofs.Ytgnhakgfgdelpaa

-- slices.Collect(slices.Chunk(b, h)): its pieces.
namespace Go.Proofs.Ytgnhakgfgdelpaa
open Go.RowKit Go.Shelf
attribute [local go_sem] Oper.semAt_some
/-- How many pieces of h bytes (the last one may be shorter). -/
def nCh (len h : Nat) : Nat := (len + h - 1) / h
theorem nCh_lt {len h k : Nat} (hh : 1 ≤ h) : k < nCh len h ↔ k * h < len := by
  unfold nCh
  rw [show k < (len + h - 1) / h ↔ k + 1 ≤ (len + h - 1) / h from Iff.rfl, Nat.le_div_iff_mul_le (by omega), Nat.add_mul]
  omega
def mCh (len h k : Nat) : Nat := min h (len - k * h)
/-- The value of piece k. -/
def chA (A : Option Addr) (len h k : Nat) : Option Addr := if mCh len h k = 0 then A else A.map (·.add (k * h))
abbrev chV (A : Option Addr) (len h k : Nat) : Value := .slice (chA A len h k) (mCh len h k) (mCh len h k)
theorem RdB.recapC {w : World} {A : Option Addr} {n c c' : Nat} {l : List UInt8} (h : RdB w (.slice A n c) l) (h1 : n ≤ c') (h2 : c' ≤ maxLen) : RdB w (.slice A n c') l := by
  obtain ⟨A', c'', hv, k1, k2, k3⟩ := h
  injection hv with hA hn hc
  subst hA hn hc
  exact ⟨A, c', rfl, h1, h2, k3⟩
theorem chV_run {w : World} {A : Option Addr} {c h k : Nat} {l : List UInt8} (hr : RdB w (.slice A l.length c) l) (hk : k * h < l.length) :
    (∀ w', (Instr.slice 25 (.slice A l.length c) (some (.int .i64 ((k * h : Nat) : Int))) (some (.int .i64 (((k * h : Nat) : Int) + ((mCh l.length h k : Nat) : Int)))) (some (.int .i64 (((k * h : Nat) : Int) + ((mCh l.length h k : Nat) : Int))))).run Try.prog w' = .ok (chV A l.length h k) w') ∧ RdB w (chV A l.length h k) ((l.drop (k * h)).take (mCh l.length h k)) := by
  obtain ⟨_, hc, hm⟩ := hr.cap
  have hmm : mCh l.length h k ≤ l.length - k * h := by unfold mCh; exact Nat.min_le_right _ _
  have e : (((k * h : Nat) : Int) + ((mCh l.length h k : Nat) : Int)).toNat = k * h + mCh l.length h k := by omega
  unfold chV chA
  generalize mCh l.length h k = n at *
  generalize k * h = lo at *
  refine ⟨fun w' => ?_, ?_⟩
  · have := run_slice_lhm (P := Try.prog) w' 25 A l.length c u8_elem .i64 .i64 .i64 lo ((lo : Int) + n) ((lo : Int) + n) (by omega) (by omega) (by omega) (by omega)
    rw [this, u8_sizeOf]
    simp [Result.andThen, sliced, e]
  · by_cases h0 : n = 0
    · subst h0
      exact ⟨A, 0, by simp, by simp, by simp [maxLen], fun j hj => by simp at hj⟩
    · have hr := hr.cut (lo := lo) (hi := lo + n) (by omega) (by omega)
      rw [show lo + n - lo = n by omega, ← List.take_drop, if_neg (show ¬ c = lo by omega)] at hr
      rw [if_neg h0]
      exact hr.recapC (Nat.le_refl _) (by simp only [maxLen]; omega)
set_option maxRecDepth 100000 in
set_option maxHeartbeats 4000000 in
/-- slices.Chunk's closure, for every loop body that keeps what lay below n₀. -/
theorem chunk1_in (F : Fence) (n : Nat) (h61 : F.fn 61) (hro : F.round = none) (hn : 1 ≤ n) (l Bs Bh n₀ : Nat) (A : Option Addr) (c h : Nat) (bs : List UInt8) (hh1 : 1 ≤ h) (hh2 : h ≤ 65536) (hbl : bs.length ≤ 70368744177664) (hbs : Bs < n₀) (hbh : Bh < n₀) (w0 : World) (hv : RdB w0 (.slice A bs.length c) bs) (J Jx : List Nat → World → Prop)
    (hY : ∀ pre x W, J pre W → pre.length < nCh bs.length h → YieldAt F (n - 1) Try.prog l #[chV A bs.length h x] W fun e W' =>
      (e = .returned (.bool true) ∧ J (pre ++ [x]) W' ∧ Below n₀ W W') ∨ (e = .returned (.bool false) ∧ Jx (pre ++ [x]) W'))
    (hJd : ∀ pre W nq, J pre W → J pre (W.drewN nq)) (W : World) (hBs : W.cell? ⟨Bs, 0, none⟩ = some (.slice A bs.length c)) (hBh : W.cell? ⟨Bh, 0, none⟩ = some (.int .i64 (h : Int))) (h0 : J [] W) :
    CallsIn F n Try.prog 61 #[.func (.yield l) #[] #[], .pointer (some ⟨Bs, 0, none⟩), .pointer (some ⟨Bh, 0, none⟩)] W fun e W' => (∃ v, e = .returned v) ∧
      ((∃ ys, ys = List.range (nCh bs.length h) ∧ J ys W') ∨ (∃ pre, True ∧ Jx pre W')) := by
  refine callsIn_of_wp Try.func61 rfl h61 ?_ hro
  simp only [Try.ntmps61, List.size_toArray, List.length_cons, List.length_nil, Nat.reduceAdd, Nat.reduceSub, Array.replicate_succ, Array.replicate_zero, List.push_toArray, List.append_toArray, List.nil_append, List.cons_append]
  gi_wp2
  gi_loopw [4] (fun i wr => ∃ k : Nat, k ≤ nCh bs.length h ∧ i = .int .i64 ((k * h : Nat) : Int) ∧ J (List.range k) wr ∧ Below n₀ W wr)
    (fun i _ => bs.length - (intOf i).toNat)
  case atStart => exact ⟨0, Nat.zero_le _, by simp, h0, Below.refl _ _⟩
  case round =>
    obtain ⟨k, hk, rfl, hJs, hnx⟩ := hrel
    have c1 : wr.cell? ⟨Bs, 0, none⟩ = some (.slice A bs.length c) := (hnx.cell (p := ⟨Bs, 0, none⟩) hbs).trans hBs
    have c2 : wr.cell? ⟨Bh, 0, none⟩ = some (.int .i64 (h : Int)) := (hnx.cell (p := ⟨Bh, 0, none⟩) hbh).trans hBh
    by_cases hlt : k < nCh bs.length h
    · have hklt : k * h < bs.length := (nCh_lt hh1).1 hlt
      obtain ⟨q2, _⟩ := chV_run hv hklt
      obtain ⟨A1, d1, q1, _⟩ := hv.run_l (k * h) (by omega)
      have hU := @List.range_succ k
      have hsk : (k + 1) * h = k * h + h := by rw [Nat.add_mul, Nat.one_mul]
      have hmv : mCh bs.length h k = min h (bs.length - k * h) := rfl
      have hR := fun nq => hY _ k (wr.drewN nq) (hJd _ _ nq hJs) (by rw [List.length_range]; exact hlt)
      have hcv : ∃ a m, chV A bs.length h k = .slice a m m := ⟨_, _, rfl⟩
      generalize chV A bs.length h k = cv at *
      generalize mCh bs.length h k = m at *
      generalize hlo : k * h = lo at *
      have i1 : (lo : Int) < (bs.length : Int) := by omega
      have hm1 : m ≤ h := by omega
      have wm : IntKind.i64.wrap ((lo : Int) + (m : Int)) = (lo : Int) + (m : Int) := by rw [IntKind.wrap_i64]; omega
      have wh : IntKind.i64.wrap ((lo : Int) + (h : Int)) = (lo : Int) + (h : Int) := by rw [IntKind.wrap_i64]; omega
      by_cases hmn : bs.length - lo < h
      · obtain rfl : m = bs.length - lo := by omega
        clear hmv hm1
        gi_wp2
        refine wpIn_region_quiet_lit hro (by kernel_rfl) (by kernel_rfl) ?_
        repeat (gi_big_quiet_step (fail))
        refine wpQuietIn_nil ?_
        rintro _ ⟨nq, rfl⟩
        obtain ⟨fn, tmps, assign, body, hy, hR⟩ := hR nq
        gi_wp2
        refine hR.mono ?_
        rintro e W3 (⟨rfl, hJ3, hk3⟩ | ⟨rfl, hJx3⟩)
        · have d2 : W3.cell? ⟨Bh, 0, none⟩ = some (.int .i64 (h : Int)) := (hk3.cell (p := ⟨Bh, 0, none⟩) hbh).trans c2
          gi_wp2
          go_roundw
          case rel => exact ⟨k + 1, by omega, by rw [hsk]; push_cast; rfl, by rw [hU]; exact hJ3, hnx.trans ((show Below n₀ wr (wr.drewN nq) from ⟨rfl, rfl, rfl, Nat.le_refl _, fun _ _ => rfl⟩).trans hk3)⟩
          case measure => simp [intOf]; omega
        · gi_wp2
          refine bodyPost_ret (results_none rfl _ _ _) rfl ?_
          first | exact ⟨⟨_, rfl⟩, .inr ⟨_, trivial, hJx3⟩⟩ | exact ⟨⟨_, rfl⟩, .inr ⟨_, hJx3⟩⟩
      · obtain rfl : h = m := by omega
        clear hmv hm1
        gi_wp2
        refine wpIn_region_quiet_lit hro (by kernel_rfl) (by kernel_rfl) ?_
        repeat (gi_big_quiet_step (fail))
        refine wpQuietIn_nil ?_
        rintro _ ⟨nq, rfl⟩
        obtain ⟨fn, tmps, assign, body, hy, hR⟩ := hR nq
        gi_wp2
        refine hR.mono ?_
        rintro e W3 (⟨rfl, hJ3, hk3⟩ | ⟨rfl, hJx3⟩)
        · have d2 : W3.cell? ⟨Bh, 0, none⟩ = some (.int .i64 (h : Int)) := (hk3.cell (p := ⟨Bh, 0, none⟩) hbh).trans c2
          gi_wp2
          go_roundw
          case rel => exact ⟨k + 1, by omega, by rw [hsk]; push_cast; rfl, by rw [hU]; exact hJ3, hnx.trans ((show Below n₀ wr (wr.drewN nq) from ⟨rfl, rfl, rfl, Nat.le_refl _, fun _ _ => rfl⟩).trans hk3)⟩
          case measure => simp [intOf]; omega
        · gi_wp2
          refine bodyPost_ret (results_none rfl _ _ _) rfl ?_
          first | exact ⟨⟨_, rfl⟩, .inr ⟨_, trivial, hJx3⟩⟩ | exact ⟨⟨_, rfl⟩, .inr ⟨_, hJx3⟩⟩
    · obtain rfl : k = nCh bs.length h := by omega
      have hge : ¬ ((nCh bs.length h * h : Nat) : Int) < (bs.length : Int) := by
        have := (nCh_lt (len := bs.length) (k := nCh bs.length h) hh1)
        omega
      gi_wp2
      go_end0
      first | exact ⟨⟨_, rfl⟩, .inl ⟨_, rfl, hJs⟩⟩ | exact ⟨⟨_, rfl⟩, .inl hJs⟩
set_option maxRecDepth 100000 in
set_option maxHeartbeats 1000000 in
theorem Chunk_any (A : Option Addr) (m c h : Nat) (hh1 : 1 ≤ h) (w : World) :
    Calls Try.prog 45 #[.slice A m c, .int .i64 (h : Int)] w fun e w' => e = .returned (.func (.func 61) #[] #[.pointer (some ⟨w.heap.size, 0, none⟩), .pointer (some ⟨w.heap.size + 1, 0, none⟩)]) ∧
      w' = (w.alloc (.cells #[.slice A m c] 25)).alloc (.cells #[.int .i64 (h : Int)] 3) := by
  have hmf : ∀ (fn : Fn) (first cap : Array Value) (w : World), (Instr.makeFunc fn first cap).run Try.prog w = .ok (.func fn first cap) w := fun _ _ _ _ => rfl
  have h1 : ¬ (h : Int) < 1 := by omega
  go_enter Try.func45, Try.ntmps45
  go_wp2_with fail
  go_ret
  exact ⟨rfl, rfl⟩
/-- What Chunk hands back, as an iterator. -/
theorem chunk_stops (F : Fence) (n : Nat) (h61 : F.fn 61) (hro : F.round = none) (hn : 1 ≤ n) (Bs Bh n₀ : Nat) (A : Option Addr) (c h : Nat) (bs : List UInt8) (hh1 : 1 ≤ h) (hh2 : h ≤ 65536) (hbl : bs.length ≤ 70368744177664) (hbs : Bs < n₀) (hbh : Bh < n₀) (w : World) (hv : RdB w (.slice A bs.length c) bs) (hn₀ : n₀ ≤ w.heap.size)
    (hBs : w.cell? ⟨Bs, 0, none⟩ = some (.slice A bs.length c)) (hBh : w.cell? ⟨Bh, 0, none⟩ = some (.int .i64 (h : Int))) :
    SeqStopsK F n Try.prog 61 #[.pointer (some ⟨Bs, 0, none⟩), .pointer (some ⟨Bh, 0, none⟩)] (fun x : Nat => #[chV A bs.length h x]) (Below n₀) (fun ys => ys = List.range (nCh bs.length h)) (fun _ => True) (nCh bs.length h) w := fun l J Jx W hW hJ _ hY h0 =>
  chunk1_in F n h61 hro hn l Bs Bh n₀ A c h bs hh1 hh2 hbl hbs hbh w hv J Jx hY (fun pre W' nq hp => hJ pre W' _ none hp ⟨rfl, rfl, rfl, Nat.le_refl _, fun _ _ _ => rfl⟩ (fun r e => by cases e)) W
    ((hW.cell (p := ⟨Bs, 0, none⟩) (by exact Nat.lt_of_lt_of_le hbs hn₀)).trans hBs) ((hW.cell (p := ⟨Bh, 0, none⟩) (by exact Nat.lt_of_lt_of_le hbh hn₀)).trans hBh) h0
theorem sl_info : (Try.prog.info? 25).map (fun i => (i.zero, i.size, i.bytes)) = some (some (.slice none 0 0), 1, 24) := by kernel_rfl
set_option maxRecDepth 100000 in
set_option maxHeartbeats 4000000 in
theorem AppendSeq_in (F : Fence) (n : Nat) (h60 : F.fn 60) (h61 : F.fn 61) (hro : F.round = none) (hn : 3 ≤ n) (Bs Bh : Nat) (A : Option Addr) (c sz : Nat) (bs : List UInt8) (hh1 : 1 ≤ sz) (hh2 : sz ≤ 65536) (hbl : bs.length ≤ 70368744177664) (hcnt : nCh bs.length sz ≤ 4294967296) (w : World) (hbs : Bs < w.heap.size) (hbh : Bh < w.heap.size) (hv : RdB w (.slice A bs.length c) bs)
    (hBs : w.cell? ⟨Bs, 0, none⟩ = some (.slice A bs.length c)) (hBh : w.cell? ⟨Bh, 0, none⟩ = some (.int .i64 (sz : Int))) :
    CallsIn F n Try.prog 60 #[.slice none 0 0, .func (.func 61) #[] #[.pointer (some ⟨Bs, 0, none⟩), .pointer (some ⟨Bh, 0, none⟩)]] w fun e W' => ∃ v, e = .returned v ∧ W'.ownsRow w.heap.size 25 1 v (nCh bs.length sz) ((List.range (nCh bs.length sz)).map (chV A bs.length sz)) ∧ Below w.heap.size w W' := by
  have h1 : 1 ≤ n := by omega
  obtain ⟨i0, hi, hz0, hz1, hz2⟩ := info_parts sl_info
  refine callsIn_of_wp_marks Try.func60 rfl h60 ?_ hro
  simp only [Try.ntmps60, List.size_toArray, List.length_cons, List.length_nil, Nat.reduceAdd, Nat.reduceSub, Array.replicate_succ, Array.replicate_zero, List.push_toArray, List.append_toArray, List.nil_append, List.cons_append]
  gi_wp2
  have bO := Boxed.new w 32 (.slice none 0 0)
  have hB0 : Below w.heap.size w (w.alloc (.cells #[.slice none 0 0] 32)) := (Below.refl _ w).alloc (Nat.le_refl _) _
  refine wpIn_rangeFunc_ownG hro h1 (gf := 61) (lb := #[.pointer (some ⟨Bs, 0, none⟩), .pointer (some ⟨Bh, 0, none⟩)]) rfl h61 (enters_of Try.func61 (by kernel_rfl) rfl)
    (chunk_stops F (n - 1) h61 hro (by omega) Bs Bh w.heap.size A c sz bs hh1 hh2 hbl hbs hbh _ (hv.alloc _) (by simp) ((hB0.cell (p := ⟨Bs, 0, none⟩) hbs).trans hBs) ((hB0.cell (p := ⟨Bh, 0, none⟩) hbh).trans hBh)) belowK_t (belowK_b (by simp)) (Below.refl _ _) (fun _ => rfl)
    (fun (pre : List Nat) W => (∃ v, Boxed W w.heap.size 32 v ∧ W.ownsRow w.heap.size 25 1 v pre.length (pre.map (chV A bs.length sz)) ∧ True) ∧ Below w.heap.size w W)
    (fun _ _ _ => False)
    (OwnFrom.and (Own.from (holdsRow_own w.heap.size w.heap.size 32 25 1 (fun pre : List Nat => pre.length) (fun pre : List Nat => pre.map (chV A bs.length sz)) (fun _ _ => True)) _) (ownFrom_below (Nat.le_refl _) (by simp)))
    (fun _ _ _ _ _ hs _ _ => hs)
    ⟨⟨_, bO, World.ownsRow_nil _ _ _ _, trivial⟩, hB0⟩
    (fun x => { tmps := #[.slice none 0 0, (.func (.func 61) #[] #[.pointer (some ⟨Bs, 0, none⟩), .pointer (some ⟨Bh, 0, none⟩)]), .pointer (some ⟨w.heap.size, 0, none⟩), undef, .slice none 0 0, (.slice (chA A bs.length sz x) (mCh bs.length sz x) (mCh bs.length sz x)), (.func (.func 61) #[] #[.pointer (some ⟨Bs, 0, none⟩), .pointer (some ⟨Bh, 0, none⟩)]), (.slice (chA A bs.length sz x) (mCh bs.length sz x) (mCh bs.length sz x)), undef, undef, undef, undef, undef], defers := [] }) ?assign ?body ?done ?stop
  case assign =>
    intro l x W K hK
    gi_wp2
    exact hK
  case body =>
    rintro l pre x W ⟨⟨v, hv, hrow, -⟩, hB⟩ hlt
    have hc := hv.cell
    gi_wp2_with (gi_at_builtin; refine wpListIn_append_own _ rfl _ _ 32 rfl w.heap.size 25 i0 (.slice none 0 0) 1 24 Try.underlying32 hi hz0 hz1 hz2 rfl (by decide) _ _ _ rfl (hrow.alloc _) ⟨W.heap.size, 0, none⟩ 1 1 [.slice (chA A bs.length sz x) (mCh bs.length sz x) (mCh bs.length sz x)] rfl rfl (cell_one_new _ _ _) (by simp [Value.oneCell']) (by simp only [maxLen]; omega) (by omega) (by have := hB.size; simp; omega) ?_; intro v' w1 hown' hgrow _; obtain ⟨g', cap', rfl⟩ := ownsRow_succ hown'; obtain ⟨hv1, hv2, hr2, hk2, hb2⟩ := hv.appended (by decide) hrow hB.size (Nat.le_refl _) hown' hgrow; have hc1 := hv1.cell; have hf1 := hv1.frozen)
    have hr3 : (w1.setCell ⟨w.heap.size, 0, none⟩ (.slice (some ⟨g', 0, none⟩) (pre.length + 1) cap')).ownsRow w.heap.size 25 1 (.slice (some ⟨g', 0, none⟩) (pre.length + 1) cap') (pre ++ [x]).length ((pre ++ [x]).map (chV A bs.length sz)) := by
      rw [List.length_append, List.map_append]
      exact hr2
    first | exact ⟨hk2.from _, hb2, ⟨_, hv2, hr3, trivial⟩, hB.trans hb2⟩ | exact ⟨hk2.from _, hb2, ⟨_, hv2, hr3⟩, hB.trans hb2⟩
  case done =>
    rintro D ys W hD rfl ⟨⟨v, hv, hrow, -⟩, hB⟩ hK
    have hc := hv.cell
    gi_wp2
    refine ⟨by simp, .inl ⟨_, _, rfl, run_takeDeferred hK, ?_⟩⟩
    rw [List.length_range] at hrow
    exact ⟨_, results_tmp rfl _ _ _, v, rfl, ownsRow_putObj hrow _ hK rfl, hB.trans (belowK_b (w := w) (Nat.le_refl _) W D _ _ (by simp at hD; omega) hK rfl rfl)⟩
  case stop =>
    rintro D c pre W _ _ h _
    exact h.elim
theorem own_of_row {w : World} {base : Nat} {T : TypeId} {v : Value} {n : Nat} {xs : List Value} (h : w.ownsRow base T 1 v n xs) : Own w base T 1 v n xs := by
  obtain ⟨h1, h2⟩ := h
  refine ⟨h1, ?_⟩
  rcases h2 with h2 | ⟨g, cap, cur, rfl, k1, k2, k3, k4, k5, k6⟩
  · exact .inl h2
  · exact .inr ⟨g, cap, cur.toList, rfl, k1, ⟨(0, 0), by simpa using k2, fun j _ => by simp⟩, k3, k4, by simpa using k5, k6⟩
set_option maxRecDepth 100000 in
set_option maxHeartbeats 1000000 in
/-- slices.Collect of what Chunk hands back. -/
theorem Collect_any (Bs Bh : Nat) (A : Option Addr) (c sz : Nat) (bs : List UInt8) (hh1 : 1 ≤ sz) (hh2 : sz ≤ 65536) (hbl : bs.length ≤ 70368744177664) (hcnt : nCh bs.length sz ≤ 4294967296) (w : World) (hbs : Bs < w.heap.size) (hbh : Bh < w.heap.size) (hv : RdB w (.slice A bs.length c) bs)
    (hBs : w.cell? ⟨Bs, 0, none⟩ = some (.slice A bs.length c)) (hBh : w.cell? ⟨Bh, 0, none⟩ = some (.int .i64 (sz : Int))) :
    Calls Try.prog 44 #[.func (.func 61) #[] #[.pointer (some ⟨Bs, 0, none⟩), .pointer (some ⟨Bh, 0, none⟩)]] w fun e W' => ∃ v, e = .returned v ∧ Own W' w.heap.size 25 1 v (nCh bs.length sz) ((List.range (nCh bs.length sz)).map (chV A bs.length sz)) ∧ Below w.heap.size w W' := by
  have hA := callsIn_wide.1 (AppendSeq_in Fence.wide 3 trivial trivial rfl (by omega) Bs Bh A c sz bs hh1 hh2 hbl hcnt w hbs hbh hv hBs hBh)
  go_enter Try.func44, Try.ntmps44
  go_wp2_with (first | (go_at_call 60; with_reducible refine hA.mono ?_; rintro e w1 ⟨v, rfl, ho, hB⟩) | fail)
  go_ret
  exact ⟨_, rfl, own_of_row ho, hB⟩
end Go.Proofs.Ytgnhakgfgdelpaa

-- slices.Index, Contains for integers; spill.Pages; the document's Pages.
namespace Go.Proofs.Ytgnhakgfgdelpaa
open Go.RowKit
/-- Where x stands first. -/
def idxF (l : List Int) (x : Int) : Int := match l.findIdx? (· == x) with | some k => (k : Int) | none => -1
theorem idxF_none {l : List Int} {x : Int} (h : x ∉ l) : idxF l x = -1 := by
  unfold idxF
  have : l.findIdx? (· == x) = none := by
    rw [List.findIdx?_eq_none_iff]
    intro y hy
    simp only [beq_eq_false_iff_ne]
    rintro rfl; exact h hy
  rw [this]
theorem idxF_at {l : List Int} {x : Int} {k : Nat} (hk : k < l.length) (he : l[k] = x) (hb : ∀ j (hj : j < k), l[j]'(by omega) ≠ x) : idxF l x = (k : Int) := by
  unfold idxF
  have : l.findIdx? (· == x) = some k := by
    rw [List.findIdx?_eq_some_iff_getElem]
    refine ⟨hk, by simp [he], fun j hj => ?_⟩
    simp only [Bool.not_eq_true, beq_eq_false_iff_ne]
    exact hb j hj
  rw [this]
theorem idxF_ge {l : List Int} {x : Int} : decide (0 ≤ idxF l x) = decide (x ∈ l) := by
  by_cases h : x ∈ l
  · have h2 : idxF l x ≠ -1 → 0 ≤ idxF l x := by
      unfold idxF
      cases l.findIdx? (· == x) with
      | none => simp
      | some k => intro _; simp only; omega
    have h3 : idxF l x ≠ -1 := by
      unfold idxF
      cases e : l.findIdx? (· == x) with
      | none =>
        rw [List.findIdx?_eq_none_iff] at e
        have := e x h
        simp at this
      | some k => simp only; omega
    rw [decide_eq_true (h2 h3), decide_eq_true h]
  · rw [idxF_none h, decide_eq_false h]; rfl
set_option maxRecDepth 20000 in
set_option maxHeartbeats 2000000 in
theorem Index_any (v : Value) (l : List Int) (x : Int) (w : World) (hv : RdI w v l) :
    Calls Try.prog 68 #[v, .int .i64 x] w fun e w' => e = .returned (.int .i64 (idxF l x)) ∧ w' = w := by
  obtain ⟨A, c, rfl, hm, hc⟩ := hv.form
  go_enter Try.func68, Try.ntmps68
  go_upto_region 2 with (fail)
  go_loopw [8] (fun i wr => ∃ k : Nat, k ≤ l.length ∧ i = .int .i64 (k : Int) ∧ w = wr ∧ Hid (∀ j (hj : j < l.length), j < k → l[j] ≠ x)) (fun i _ => l.length - (intOf i).toNat)
  case atStart => exact ⟨0, Nat.zero_le _, rfl, rfl, Lib.hid (fun j _ h => absurd h (Nat.not_lt_zero _))⟩
  case round =>
    obtain ⟨k, hk, rfl, rfl, HB⟩ := hrel
    by_cases hlt : k < l.length
    · have i1 : (k : Int) < (l.length : Int) := by omega
      obtain ⟨ad, rfl, hcell⟩ := hv.at_ hlt
      by_cases he : l[k] = x
      · have HX : Hid (idxF l x = (k : Int)) := Lib.hid (idxF_at hlt he (fun j hj => HB.out j (by omega) hj))
        have e1 : (x == l[k]) = true := by rw [he]; simp
        clear he
        go_wp2_with fail
        go_ret
        rw [HX.out]
        exact ⟨rfl, rfl⟩
      · have e1 : (x == l[k]) = false := beq_eq_false_iff_ne.2 (fun h => he h.symm)
        have HN : Hid (∀ j (hj : j < l.length), j < k + 1 → l[j] ≠ x) := Lib.hid (fun j hj h => by
          rcases (by omega : j < k ∨ j = k) with h1 | rfl
          · exact HB.out j hj h1
          · exact he)
        clear he
        go_wp2_with fail
        go_roundw
        case rel => exact ⟨k + 1, by omega, by go_num, by trivial, HN⟩
        case measure => simp [intOf]; omega
    · obtain rfl : k = l.length := by omega
      have HX : Hid (idxF l x = -1) := Lib.hid (idxF_none (fun h => by
        obtain ⟨j, hj, he⟩ := List.getElem_of_mem h
        exact HB.out j hj hj he))
      have i1 : ¬ (l.length : Int) < (l.length : Int) := by omega
      go_wp2_with fail
      go_ret
      rw [HX.out]
      exact ⟨rfl, rfl⟩
set_option maxRecDepth 20000 in
theorem Contains_any (v : Value) (l : List Int) (x : Int) (w : World) (hv : RdI w v l) :
    Calls Try.prog 62 #[v, .int .i64 x] w fun e w' => e = .returned (.bool (decide (x ∈ l))) ∧ w' = w := by
  have hi := Index_any v l x w hv
  have hg := @idxF_ge l x
  generalize idxF l x = z at *
  go_enter Try.func62, Try.ntmps62
  go_wp2_with (first | (go_at_call 68; with_reducible refine hi.mono ?_; rintro e w1 ⟨rfl, rfl⟩) | fail)
  go_ret
  exact ⟨by rw [← hg]; rfl, rfl⟩
theorem pages_step {p n : Int} (hp : 512 ≤ p) (hn : 1 ≤ n) : (n - 1) / (p - 16) + 1 = (if n - (p - 16) < 1 then 0 else (n - (p - 16) - 1) / (p - 16) + 1) + 1 := by
  by_cases h : n - (p - 16) < 1
  · rw [if_pos h, Int.ediv_eq_zero_of_lt (by omega) (by omega)]
  · rw [if_neg h]
    have e : n - 1 = (n - (p - 16) - 1) + (p - 16) * 1 := by omega
    rw [e, Int.add_mul_ediv_left _ _ (by omega)]
set_option maxRecDepth 20000 in
set_option maxHeartbeats 2000000 in
theorem SPages_any (p n : Int) (hp : i64w p) (hn : i64w n) (w : World) :
    Calls Try.prog 10 #[.int .i64 p, .int .i64 n] w fun e w' => e = .returned (.int .i64 (pagesF p n)) ∧ w' = w := by
  have hPa := SisPage_any p hp w
  cases hpw : isPowB p with
  | false =>
    have HV : Hid (pagesF p n = 0) := by show _ = _; unfold pagesF; rw [if_pos (.inl hpw)]
    rw [hpw] at hPa
    go_enter Try.func10, Try.ntmps10
    go_wp2_with (first | (go_at_call 33; with_reducible refine hPa.mono ?_; rintro e w1 ⟨rfl, rfl⟩) | fail)
    go_ret
    rw [HV.out]
    exact ⟨rfl, rfl⟩
  | true =>
    obtain ⟨h1, h2⟩ := isPowB_range hpw
    rw [hpw] at hPa
    by_cases hl : n < 1
    · have HV : Hid (pagesF p n = 0) := by show _ = _; unfold pagesF; rw [if_pos (.inr hl)]
      go_enter Try.func10, Try.ntmps10
      go_wp2_with (first | (go_at_call 33; with_reducible refine hPa.mono ?_; rintro e w1 ⟨rfl, rfl⟩) | fail)
      go_ret
      rw [HV.out]
      exact ⟨rfl, rfl⟩
    · have HV : Hid (pagesF p n = (n - 1) / (p - 16) + 1) := by show _ = _; unfold pagesF; rw [if_neg (by rw [hpw]; simp; omega)]
      have nz : ¬ (p - 12 - 4 = 0) := by omega
      have e0 : ((p - 12 - 4) == 0) = false := beq_eq_false_iff_ne.2 nz
      have e1 : IntKind.i64.wrap (p - 12 - 4) = p - 12 - 4 := by rw [IntKind.wrap_i64]; omega
      have e2 : IntKind.i64.wrap (n - 1) = n - 1 := by unfold i64w at hn; rw [IntKind.wrap_i64]; omega
      go_enter Try.func10, Try.ntmps10
      go_wp2_with (first | (go_at_call 33; with_reducible refine hPa.mono ?_; rintro e w1 ⟨rfl, rfl⟩) | fail)
      go_ret
      rw [HV.out]
      refine ⟨?_, rfl⟩
      have d1 : (n - 1).tdiv (p - 12 - 4) = (n - 1) / (p - 16) := by
        rw [Int.tdiv_eq_ediv_of_nonneg (by omega)]
        congr 1
        omega
      have d2 : 0 ≤ (n - 1) / (p - 16) := Int.ediv_nonneg (by omega) (by omega)
      have d3 : (n - 1) / (p - 16) ≤ n - 1 := Int.ediv_le_self _ (by omega)
      unfold i64w at hn
      show Ending.returned (.int .i64 (wrap64 (wrap64 ((n - 1).tdiv (p - 12 - 4)) + 1))) = _
      rw [d1]
      generalize (n - 1) / (p - 16) = q at *
      have f1 : wrap64 q = q := by unfold wrap64; omega
      have f2 : wrap64 (q + 1) = q + 1 := by unfold wrap64; omega
      rw [f1, f2]
end Go.Proofs.Ytgnhakgfgdelpaa

-- espalierref03.IsPage: the walk.
namespace Go.Proofs.Ytgnhakgfgdelpaa
open Go.RowKit
def pw (j : Nat) : Int := 512 * 2 ^ j
theorem isPow_pw (p : Int) : isPow p ↔ ∃ j, j < 8 ∧ p = pw j := by
  unfold isPow pw
  constructor
  · rintro (h | h | h | h | h | h | h | h)
    · exact ⟨0, by omega, h⟩
    · exact ⟨1, by omega, h⟩
    · exact ⟨2, by omega, h⟩
    · exact ⟨3, by omega, h⟩
    · exact ⟨4, by omega, h⟩
    · exact ⟨5, by omega, h⟩
    · exact ⟨6, by omega, h⟩
    · exact ⟨7, by omega, h⟩
  · rintro ⟨j, hj, rfl⟩
    rcases (by omega : j = 0 ∨ j = 1 ∨ j = 2 ∨ j = 3 ∨ j = 4 ∨ j = 5 ∨ j = 6 ∨ j = 7) with rfl | rfl | rfl | rfl | rfl | rfl | rfl | rfl <;> simp
set_option maxRecDepth 20000 in
set_option maxHeartbeats 2000000 in
theorem IsPage_any (p : Int) (w : World) : Calls Try.prog 34 #[.int .i64 p] w fun e w' => e = .returned (.bool (isPowB p)) ∧ w = w' := by
  go_enter Try.func34, Try.ntmps34
  go_wp2_with fail
  go_loopw [3] (fun i wr => ∃ j : Nat, j ≤ 8 ∧ i = .int .i64 (pw j) ∧ Hid (∀ k, k < j → p ≠ pw k) ∧ w = wr) (fun i _ => (131072 - intOf i).toNat)
  case atStart => exact ⟨0, by omega, rfl, Lib.hid (by omega), rfl⟩
  case round =>
    obtain ⟨j, hj, rfl, HN, rfl⟩ := hrel
    rcases (by omega : j = 8 ∨ j < 8) with rfl | hlt
    · have HV := Lib.hid (show isPowB p = false from decide_eq_false fun h => by
        obtain ⟨k, hk, e⟩ := (isPow_pw p).1 h
        exact HN.out k hk e)
      have e8 : pw 8 = 131072 := by decide
      rw [e8]
      go_wp2_with fail
      go_ret
      rw [HV.out]
      exact ⟨rfl, rfl⟩
    · have hb : 512 ≤ pw j ∧ pw j ≤ 65536 ∧ pw (j + 1) = 2 * pw j := by
        rcases (by omega : j = 0 ∨ j = 1 ∨ j = 2 ∨ j = 3 ∨ j = 4 ∨ j = 5 ∨ j = 6 ∨ j = 7) with rfl | rfl | rfl | rfl | rfl | rfl | rfl | rfl <;> decide
      obtain ⟨h1, h2, h3⟩ := hb
      by_cases hp : p = pw j
      · have HV := Lib.hid (show isPowB p = true from decide_eq_true ((isPow_pw p).2 ⟨j, hlt, hp⟩))
        have hb : (pw j == p) = true := by simp [hp]
        clear hp h3
        generalize pw j = x at *
        go_wp2_with fail
        go_ret
        rw [HV.out]
        exact ⟨rfl, rfl⟩
      · have HN2 := Lib.hid (show ∀ k, k < j + 1 → p ≠ pw k from fun k hk => by
          rcases (by omega : k < j ∨ k = j) with h | rfl
          · exact HN.out k h
          · exact hp)
        have hb : (pw j == p) = false := by
          rw [Bool.eq_false_iff]
          simp only [ne_eq, beq_iff_eq]
          exact fun e => hp e.symm
        have H3 := Lib.hid h3
        clear hp h3
        generalize hx : pw j = x at *
        clear hx
        go_wp2_with fail
        go_roundw
        case rel => exact ⟨j + 1, by omega, by rw [H3.out], HN2, trivial⟩
        case measure => simp [intOf]; omega
end Go.Proofs.Ytgnhakgfgdelpaa

-- The document's Pages.
namespace Go.Proofs.Ytgnhakgfgdelpaa
open Go.RowKit
theorem pagesF_le {p n : Int} (h : n < 1) : pagesF p n = 0 := by unfold pagesF; rw [if_pos (.inr h)]
theorem pagesF_next {p n : Int} (hp : isPowB p = true) (h : 1 ≤ n) : pagesF p n = pagesF p (n - (p - 16)) + 1 := by
  have hr := isPowB_range hp
  unfold pagesF
  rw [if_neg (by rw [hp]; simp; omega)]
  rw [pages_step hr.1 h]
  by_cases h2 : n - (p - 16) < 1
  · rw [if_pos h2, if_pos (.inr h2)]
  · rw [if_neg h2, if_neg (by rw [hp]; simp; omega)]
theorem pagesF_nonneg {p n : Int} : 0 ≤ pagesF p n := by
  unfold pagesF
  split
  · omega
  · rename_i h
    have h1 : isPowB p = true := by
      cases e : isPowB p with
      | true => rfl
      | false => exact absurd (.inl e) h
    have hr := isPowB_range h1
    have h2 : ¬ n < 1 := fun e => h (.inr e)
    have := Int.ediv_nonneg (a := n - 1) (b := p - 16) (by omega) (by omega)
    omega
theorem pagesF_bound {p n : Int} (h : 0 ≤ n) : pagesF p n ≤ n := by
  unfold pagesF
  split
  · exact h
  · rename_i hh
    have h1 : isPowB p = true := by
      cases e : isPowB p with
      | true => rfl
      | false => exact absurd (.inl e) hh
    have hr := isPowB_range h1
    have h2 : ¬ n < 1 := fun e => hh (.inr e)
    have := Int.ediv_le_self (a := n - 1) (p - 16) (by omega)
    omega
set_option maxRecDepth 20000 in
set_option maxHeartbeats 2000000 in
theorem RPages_any (p n : Int) (hp : i64w p) (hn : i64w n) (w : World) :
    Calls Try.prog 11 #[.int .i64 p, .int .i64 n] w fun e w' => e = .returned (.int .i64 (pagesF p n)) ∧ w' = w := by
  have hPa := IsPage_any p w
  cases hpw : isPowB p with
  | false =>
    have HV : Hid (pagesF p n = 0) := by show _ = _; unfold pagesF; rw [if_pos (.inl hpw)]
    rw [hpw] at hPa
    go_enter Try.func11, Try.ntmps11
    go_upto_region 3 with (first | (go_at_call 34; with_reducible refine hPa.mono ?_; rintro e w1 ⟨rfl, rfl⟩) | fail)
    refine wp_loop_rounds 1 ?_
    rw [rounds_succ]
    go_wp2_with fail
    go_ret
    rw [HV.out]
    exact ⟨rfl, rfl⟩
  | true =>
    obtain ⟨h1, h2⟩ := isPowB_range hpw
    rw [hpw] at hPa
    have HP := Lib.hid hpw
    clear hpw
    go_enter Try.func11, Try.ntmps11
    go_upto_region 3 with (first | (go_at_call 34; with_reducible refine hPa.mono ?_; rintro e w1 ⟨rfl, rfl⟩) | fail)
    go_loopw [1, 6] (fun m c wr => ∃ y k : Int, m = .int .i64 y ∧ c = .int .i64 k ∧ w = wr ∧ y ≤ n ∧ (0 ≤ y ∨ (-65520 ≤ y ∨ y = n)) ∧ 0 ≤ k ∧ Hid (pagesF p y + k = pagesF p n)) (fun m _ _ => (intOf m).toNat)
    case atStart => exact ⟨n, 0, rfl, rfl, rfl, Int.le_refl _, .inr (.inr rfl), Int.le_refl _, Lib.hid (by omega)⟩
    case round =>
      obtain ⟨y, k, rfl, rfl, rfl, hy1, hy2, hk0, HS⟩ := hrel
      by_cases hy : 0 < y
      · have HN := Lib.hid (pagesF_next HP.out (show 1 ≤ y by omega))
        have hb := pagesF_bound (p := p) (n := n) (by omega)
        have hnn := pagesF_nonneg (p := p) (n := y - (p - 16))
        have hsum : k + 1 ≤ n := by have := HS.out; have := HN.out; omega
        unfold i64w at hn
        have e1 : IntKind.i64.wrap (p - 16) = p - 16 := by rw [IntKind.wrap_i64]; omega
        have e2 : IntKind.i64.wrap (y - (p - 16)) = y - (p - 16) := by rw [IntKind.wrap_i64]; omega
        have e3 : IntKind.i64.wrap (k + 1) = k + 1 := by rw [IntKind.wrap_i64]; omega
        clear hb hnn
        go_wp2_with fail
        go_roundw
        case rel => exact ⟨y - (p - 16), k + 1, rfl, rfl, by trivial, by omega, by omega, by omega, Lib.hid (by have := HS.out; have := HN.out; omega)⟩
        case measure => simp [intOf]; omega
      · have HV : Hid (pagesF p n = k) := by
          show _ = _
          rw [← HS.out, pagesF_le (by omega), Int.zero_add]
        go_wp2_with fail
        go_ret
        rw [HV.out]
        exact ⟨rfl, rfl⟩
end Go.Proofs.Ytgnhakgfgdelpaa

-- What Write of a long value does to a bench: plain laws.
namespace Go.Proofs.Ytgnhakgfgdelpaa
open Go.RowKit
/-- So many pages are taken, one after the other. -/
def allocN : Nat → BS → List Int → Option (List Int) × BS
  | 0, S, l => (some l, S)
  | k + 1, S, l => match allocF S with
    | none => (none, S)
    | some n => allocN k (S.put n (some (List.replicate S.page 0))) (l ++ [(n : Int)])
/-- Piece k of a value. -/
def pieceF (v : List UInt8) (h k : Nat) : List UInt8 := (v.drop (k * h)).take (mCh v.length h k)
def nextP (l : List Int) (k : Nat) : Int := l.getD (k + 1) 0
/-- The first i pages are written. -/
def putTo (S : BS) (l : List Int) (v : List UInt8) : Nat → BS
  | 0 => S
  | i + 1 => (putTo S l v i).put (l.getD i 0) (some (laidS (nextP l i) (pieceF v (S.page - 16) i) S.page))
def wrEnd (v : List UInt8) (N : Nat) : Option (List Int) × BS → Int × Int × BS
  | (none, S') => (0, 5, S')
  | (some l, S') => (l.getD 0 0, 0, putTo S' l v N)
def wrF (S : BS) (v : List UInt8) : Int × Int × BS :=
  if v.length < 1 ∨ 65536 < v.length then (0, 31, S) else
  if spareF S (pagesF S.page v.length) = false then (0, 5, S) else wrEnd v (pagesF S.page v.length).toNat (allocN (pagesF S.page v.length).toNat S [])
theorem wrF_bad {S : BS} {v : List UInt8} (h : v.length < 1 ∨ 65536 < v.length) : wrF S v = (0, 31, S) := by unfold wrF; rw [if_pos h]
theorem allocF_spec {S : BS} {n : Nat} (h : allocF S = some n) : 2 ≤ n ∧ n < S.pages ∧ S.held n = none := by
  unfold allocF at h
  have h1 := List.find?_some h
  have h2 := List.mem_of_find?_eq_some h
  simp [freeAt] at h1
  exact ⟨h1.1, List.mem_range.1 h2, h1.2⟩
theorem putTo_page (S : BS) (l : List Int) (v : List UInt8) : ∀ i, (putTo S l v i).page = S.page ∧ (putTo S l v i).pages = S.pages
  | 0 => ⟨rfl, rfl⟩
  | i + 1 => putTo_page S l v i
theorem held_put_some {S : BS} {n m : Int} {x : List UInt8} (h : S.held m ≠ none) : (S.put n (some x)).held m ≠ none := by
  unfold BS.put
  by_cases e : m = n
  · simp [e]
  · simp only [if_neg e]; exact h
theorem putTo_held {S : BS} {l : List Int} {v : List UInt8} {m : Int} (h : S.held m ≠ none) : ∀ i, (putTo S l v i).held m ≠ none
  | 0 => h
  | i + 1 => held_put_some (putTo_held h i)
/-- What is known of taken pages. -/
structure TakenAt (S S' : BS) (l : List Int) : Prop where
  page : S'.page = S.page
  pages : S'.pages = S.pages
  rng : ∀ n ∈ l, 2 ≤ n ∧ n < S.pages
  held : ∀ n ∈ l, S'.held n ≠ none
theorem TakenAt.put {S S' : BS} {l : List Int} (h : TakenAt S S' l) {n : Nat} (h1 : 2 ≤ n) (h2 : n < S.pages) (x : List UInt8) : TakenAt S (S'.put (n : Int) (some x)) (l ++ [(n : Int)]) := by
  refine ⟨h.page, h.pages, fun m hm => ?_, fun m hm => ?_⟩
  · rcases List.mem_append.1 hm with hm | hm
    · exact h.rng m hm
    · obtain rfl := List.mem_singleton.1 hm; omega
  · rcases List.mem_append.1 hm with hm | hm
    · exact held_put_some (h.held m hm)
    · obtain rfl := List.mem_singleton.1 hm; simp [BS.put]
theorem allocN_spec : ∀ (k : Nat) (S0 S : BS) (l : List Int), TakenAt S0 S l → (allocN k S l).2.page = S0.page ∧ (allocN k S l).2.pages = S0.pages ∧ ∀ l', (allocN k S l).1 = some l' → l'.length = l.length + k ∧ TakenAt S0 (allocN k S l).2 l'
  | 0, S0, S, l, h => ⟨h.page, h.pages, fun l' e => by obtain rfl := Option.some.inj (show some l = some l' from e); exact ⟨rfl, h⟩⟩
  | k + 1, S0, S, l, h => by
    cases e : allocF S with
    | none =>
      have e2 : allocN (k + 1) S l = (none, S) := by unfold allocN; rw [e]
      rw [e2]
      exact ⟨h.page, h.pages, fun l' e => by cases e⟩
    | some n =>
      have e2 : allocN (k + 1) S l = allocN k (S.put n (some (List.replicate S.page 0))) (l ++ [(n : Int)]) := by rw [allocN, e]
      rw [e2]
      obtain ⟨h1, h2, h3⟩ := allocF_spec e
      have h4 := h.put h1 (by rw [← h.pages]; exact h2) (List.replicate S.page 0)
      obtain ⟨k1, k2, k3⟩ := allocN_spec k S0 _ _ h4
      refine ⟨k1, k2, fun l' e => ?_⟩
      obtain ⟨k4, k5⟩ := k3 l' e
      exact ⟨by rw [k4, List.length_append]; simp; omega, k5⟩
theorem nCh_pages {p len : Nat} (hp : isPowB (p : Int) = true) (hl : 1 ≤ len) : ((nCh len (p - 16) : Nat) : Int) = pagesF p len ∧ (pagesF p len).toNat = nCh len (p - 16) := by
  obtain ⟨h1, h2⟩ := isPowB_range hp
  have e : pagesF p len = ((nCh len (p - 16) : Nat) : Int) := by
    unfold pagesF nCh
    rw [if_neg (by rw [hp]; simp; omega)]
    have e1 : (len : Int) - 1 = ((len - 1 : Nat) : Int) := by omega
    have e2 : (p : Int) - 16 = ((p - 16 : Nat) : Int) := by omega
    rw [e1, e2]
    have e3 : len + (p - 16) - 1 = (len - 1) + (p - 16) * 1 := by omega
    rw [e3, Nat.add_mul_div_left _ _ (by omega)]
    rfl
  exact ⟨e.symm, by rw [e]; rfl⟩
theorem wrF_ok {S : BS} {v : List UInt8} (hp : isPowB (S.page : Int) = true) (h : ¬ (v.length < 1 ∨ 65536 < v.length)) : wrF S v = if spareF S ((nCh v.length (S.page - 16) : Nat) : Int) = false then (0, 5, S) else wrEnd v (nCh v.length (S.page - 16)) (allocN (nCh v.length (S.page - 16)) S []) := by
  obtain ⟨h1, h2⟩ := nCh_pages (p := S.page) hp (show 1 ≤ v.length by omega)
  unfold wrF
  rw [if_neg h, h2, ← h1]
theorem pieceF_length (v : List UInt8) (h k : Nat) : (pieceF v h k).length = mCh v.length h k := by
  unfold pieceF
  rw [List.length_take, List.length_drop]
  unfold mCh
  omega
theorem piece_rng {v : List UInt8} {h k : Nat} (hh : 1 ≤ h) (hk : k < nCh v.length h) : 1 ≤ (pieceF v h k).length ∧ (pieceF v h k).length ≤ h := by
  have := (nCh_lt hh).1 hk
  rw [pieceF_length]
  unfold mCh
  omega
theorem spZ_piece {p : Nat} {next : Int} {d : List UInt8} (hp : isPowB (p : Int) = true) (hn : next = 0 ∨ (2 ≤ next ∧ next < 65536)) (h1 : 1 ≤ d.length) (h2 : d.length ≤ p - 16) : spZ next d (p : Int) = 0 := by
  have := isPowB_range hp
  unfold spZ
  rw [if_neg (by rw [hp]; simp; omega), if_neg (by omega)]
theorem nextP_rng {S S' : BS} {l : List Int} (h : TakenAt S S' l) (hp : S.pages ≤ 65536) (k : Nat) : nextP l k = 0 ∨ (2 ≤ nextP l k ∧ nextP l k < 65536) := by
  unfold nextP
  rcases Nat.lt_or_ge (k + 1) l.length with h1 | h1
  · have : l.getD (k + 1) 0 ∈ l := by
      rw [List.getD_eq_getElem?_getD, List.getElem?_eq_getElem h1]
      exact List.getElem_mem h1
    have := h.rng _ this
    omega
  · left
    rw [List.getD_eq_getElem?_getD, List.getElem?_eq_none h1]; rfl
theorem rep_set (l : List Int) (N k : Nat) (n : Int) (hl : l.length = k) (h : k < N) : (l ++ List.replicate (N - k) 0).set k n = (l ++ [n]) ++ List.replicate (N - (k + 1)) 0 := by
  have e : N - k = (N - (k + 1)) + 1 := by omega
  rw [List.set_append_right _ _ (by omega), hl, Nat.sub_self, e, List.replicate_succ, List.set_cons_zero, List.append_assoc]
  rfl
theorem next_at (l : List Int) (k : Nat) (h : k + 1 < (l ++ [0]).length) : (l ++ [0])[k + 1] = nextP l k := by
  unfold nextP
  rw [List.getD_eq_getElem?_getD]
  rcases Nat.lt_or_ge (k + 1) l.length with h1 | h1
  · rw [List.getElem_append_left h1, List.getElem?_eq_getElem h1]; rfl
  · have : k + 1 = l.length := by simp at h; omega
    rw [List.getElem_append_right h1, List.getElem?_eq_none h1]; simp
theorem page_at (l : List Int) (k : Nat) (h : k < l.length) (h' : k < (l ++ [0]).length) : (l ++ [0])[k] = l.getD k 0 := by
  rw [List.getD_eq_getElem?_getD, List.getElem_append_left h, List.getElem?_eq_getElem h]; rfl
theorem allocN_step {S S' : BS} {N k n : Nat} {l : List Int} (hk : k < N) (h : allocN N S [] = allocN (N - k) S' l) (hf : allocF S' = some n) : allocN N S [] = allocN (N - (k + 1)) (S'.put n (some (List.replicate S'.page 0))) (l ++ [(n : Int)]) := by
  rw [h, show N - k = (N - (k + 1)) + 1 by omega, allocN, hf]
theorem allocN_stop {S S' : BS} {N k : Nat} {l : List Int} (hk : k < N) (h : allocN N S [] = allocN (N - k) S' l) (hf : allocF S' = none) : allocN N S [] = (none, S') := by
  rw [h, show N - k = (N - (k + 1)) + 1 by omega, allocN, hf]
theorem putTo_write {S S' : BS} {l : List Int} {v : List UInt8} {k : Nat} (hp : isPowB (S'.page : Int) = true) (hT : TakenAt S S' l) (hk : k < l.length) (hd : (pieceF v (S'.page - 16) k).length ≤ S'.page - 16) :
    writeZ (putTo S' l v k) (l.getD k 0) (laidS (nextP l k) (pieceF v (S'.page - 16) k) S'.page) = 0 ∧ writeS (putTo S' l v k) (l.getD k 0) (laidS (nextP l k) (pieceF v (S'.page - 16) k) S'.page) = putTo S' l v (k + 1) := by
  have h1 := isPowB_range hp
  have hm : l.getD k 0 ∈ l := by
    rw [List.getD_eq_getElem?_getD, List.getElem?_eq_getElem hk]
    exact List.getElem_mem hk
  have h2 := putTo_held (l := l) (v := v) (hT.held _ hm) k
  have h3 : writeZ (putTo S' l v k) (l.getD k 0) (laidS (nextP l k) (pieceF v (S'.page - 16) k) S'.page) = 0 := by
    unfold writeZ
    rw [if_neg h2, laidS_length (by omega), (putTo_page S' l v k).1, if_neg (by simp)]
  refine ⟨h3, ?_⟩
  unfold writeS
  rw [if_pos h3]
  rfl
theorem chunk_mem (w : World) (x y : Value) (T U : TypeId) : ((w.alloc (.cells #[x] T)).alloc (.cells #[y] U)).cell? ⟨w.heap.size, 0, none⟩ = some x ∧ ((w.alloc (.cells #[x] T)).alloc (.cells #[y] U)).cell? ⟨w.heap.size + 1, 0, none⟩ = some y ∧
    Below w.heap.size w ((w.alloc (.cells #[x] T)).alloc (.cells #[y] U)) ∧ ((w.alloc (.cells #[x] T)).alloc (.cells #[y] U)).heap.size = w.heap.size + 2 := by
  have h1 := (OBlk.new' w T [x]).alloc (.cells #[y] U)
  have h2 := OBlk.new' (w.alloc (.cells #[x] T)) U [y]
  rw [World.size_alloc] at h2
  exact ⟨h1.cell' rfl, h2.cell' rfl, ((Below.refl _ _).alloc (Nat.le_refl _) _).alloc (by simp) _, by simp⟩
end Go.Proofs.Ytgnhakgfgdelpaa

-- A chain of pages, as a plain function over a bench.
namespace Go.Proofs.Ytgnhakgfgdelpaa
open Go.RowKit
abbrev ChR := Int × List Int × List UInt8 × BS
def stepQ (page : Nat) (left : Int) (len : Nat) : Option (Int × List UInt8) → Int
  | none => 60
  | some (next, d) => if len ≠ page then 60 else if (d.length : Int) ≠ min left ((page : Int) - 16) ∨ decide (next = 0) ≠ decide (left ≤ (page : Int) - 16) then 90 else 0
def stepZ (S : BS) (a left : Int) (pages : List Int) : Int :=
  if a ∈ pages then 90 else match S.held a with
  | none => 30
  | some b => stepQ S.page left b.length (decS b)
def stepS (S : BS) (a : Int) (pages : List Int) : BS := if a ∈ pages then S else match S.held a with | none => S | some _ => S.read
def stepN (S : BS) (a : Int) : Int := match S.held a with | some b => decN b | none => 0
def stepD (S : BS) (a : Int) : List UInt8 := match S.held a with | some b => decD b | none => []
def chF (most : Int) : Nat → BS → Int → Int → List Int → List UInt8 → ChR
  | 0, S, _, _, pages, out => (0, pages, out, S)
  | f + 1, S, a, left, pages, out => if most ≤ (out.length : Int) then (0, pages, out, S) else
      if stepZ S a left pages = 0 then chF most f S.read (stepN S a) (left - (stepD S a).length) (pages ++ [a]) (out ++ stepD S a) else (stepZ S a left pages, [], [], stepS S a pages)
section
variable {most : Int} {f : Nat} {S : BS} {a left : Int} {pages : List Int} {out : List UInt8} {b d : List UInt8} {next : Int}
theorem chF_done (h : most ≤ (out.length : Int)) : chF most f S a left pages out = (0, pages, out, S) := by
  cases f with
  | zero => rfl
  | succ f => rw [chF, if_pos h]
theorem chF_bad {z : Int} {S' : BS} (h : ¬ most ≤ (out.length : Int)) (hf : 1 ≤ f) (hz : stepZ S a left pages = z) (h0 : z ≠ 0) (hs : stepS S a pages = S') : chF most f S a left pages out = (z, [], [], S') := by
  obtain ⟨f, rfl⟩ : ∃ g, f = g + 1 := ⟨f - 1, by omega⟩
  rw [chF, if_neg h, hz, if_neg h0, hs]
theorem chF_next (h : ¬ most ≤ (out.length : Int)) (hf : 1 ≤ f) (hz : stepZ S a left pages = 0) (hn : stepN S a = next) (hd : stepD S a = d) : chF most f S a left pages out = chF most (f - 1) S.read next (left - d.length) (pages ++ [a]) (out ++ d) := by
  obtain ⟨f, rfl⟩ : ∃ g, f = g + 1 := ⟨f - 1, by omega⟩
  rw [chF, if_neg h, if_pos hz, hn, hd]
  rfl
theorem step_in (h : a ∈ pages) : stepZ S a left pages = 90 ∧ stepS S a pages = S := by
  unfold stepZ stepS
  rw [if_pos h, if_pos h]
  exact ⟨rfl, rfl⟩
theorem step_none (h : a ∉ pages) (hh : S.held a = none) : stepZ S a left pages = 30 ∧ stepS S a pages = S := by
  unfold stepZ stepS
  rw [if_neg h, if_neg h, hh]
  exact ⟨rfl, rfl⟩
theorem step_some (h : a ∉ pages) (hh : S.held a = some b) : stepZ S a left pages = stepQ S.page left b.length (decS b) ∧ stepS S a pages = S.read ∧ stepN S a = decN b ∧ stepD S a = decD b := by
  unfold stepZ stepS stepN stepD
  rw [if_neg h, if_neg h, hh]
  exact ⟨rfl, rfl, rfl, rfl⟩
theorem stepQ_len {page len : Nat} (h : len ≠ page) : stepQ page left len (some (next, d)) = 60 := by show (if _ then _ else _) = _; rw [if_pos h]
theorem stepQ_bad {page len : Nat} (h : len = page) (h2 : (d.length : Int) ≠ min left ((page : Int) - 16) ∨ decide (next = 0) ≠ decide (left ≤ (page : Int) - 16)) : stepQ page left len (some (next, d)) = 90 := by
  show (if _ then _ else if _ then _ else _) = _
  rw [if_neg (by simp [h]), if_pos h2]
theorem stepQ_ok {page len : Nat} (h : len = page) (h2 : (d.length : Int) = min left ((page : Int) - 16)) (h3 : decide (next = 0) = decide (left ≤ (page : Int) - 16)) : stepQ page left len (some (next, d)) = 0 := by
  show (if _ then _ else if _ then _ else _) = _
  rw [if_neg (by simp [h]), if_neg (fun e => e.elim (fun e => e h2) (fun e => e h3))]
theorem dec_rng {b : List UInt8} (h : decS b = some (next, d)) : (next = 0 ∨ (2 ≤ next ∧ next < 65536)) ∧ 1 ≤ d.length ∧ d.length + 16 ≤ b.length ∧ laidS next d b.length = b ∧ spZ next d (b.length : Int) = 0 := by
  unfold decS at h
  split at h
  · rename_i hc
    obtain ⟨rfl, rfl⟩ := Prod.mk.inj (Option.some.inj h)
    obtain ⟨h1, h2, h3, h4⟩ := hc
    have := spZ_zero h3
    exact ⟨this.2.1, this.2.2.1, by have := this.2.2.2.1; omega, h4, h3⟩
  · cases h
theorem step_zero (h : stepZ S a left pages = 0) : ∃ b next d, a ∉ pages ∧ S.held a = some b ∧ decS b = some (next, d) ∧ b.length = S.page ∧ (d.length : Int) = min left ((S.page : Int) - 16) ∧ (next = 0 ↔ left ≤ (S.page : Int) - 16) ∧ stepN S a = next ∧ stepD S a = d := by
  by_cases hin : a ∈ pages
  · rw [(step_in (left := left) hin).1] at h; cases h
  · cases hh : S.held a with
    | none => rw [(step_none (left := left) hin hh).1] at h; cases h
    | some b =>
      obtain ⟨k1, -, k3, k4⟩ := step_some (left := left) hin hh
      rw [k1] at h
      cases hd : decS b with
      | none => rw [hd] at h; cases h
      | some nd =>
        obtain ⟨nx, d⟩ := nd
        rw [hd] at h
        by_cases h1 : b.length = S.page
        · by_cases h2 : (d.length : Int) = min left ((S.page : Int) - 16)
          · by_cases h3 : decide (nx = 0) = decide (left ≤ (S.page : Int) - 16)
            · refine ⟨b, nx, d, hin, rfl, hd, h1, h2, decide_eq_decide.1 h3, by rw [k3, (dec_some hd).1], by rw [k4, (dec_some hd).2.1]⟩
            · rw [stepQ_bad h1 (.inr h3)] at h; cases h
          · rw [stepQ_bad h1 (.inl h2)] at h; cases h
        · rw [stepQ_len h1] at h; cases h
theorem chF_facts {most : Int} (hm : 0 ≤ most) : ∀ (f : Nat) (S : BS) (a left : Int) (pages : List Int) (out : List UInt8), most.toNat + 1 ≤ f + out.length → i64w a → (∀ p ∈ pages, i64w p) →
    ((chF most f S a left pages out).1 = 0 → most ≤ ((chF most f S a left pages out).2.2.1.length : Int)) ∧ ((chF most f S a left pages out).1 ≠ 0 → (chF most f S a left pages out).2.1 = [] ∧ (chF most f S a left pages out).2.2.1 = []) ∧ (∀ p ∈ (chF most f S a left pages out).2.1, i64w p)
  | 0, S, a, left, pages, out, h, _, hp => ⟨fun _ => by show most ≤ (out.length : Int); omega, fun h => absurd rfl h, hp⟩
  | f + 1, S, a, left, pages, out, h, ha, hp => by
    by_cases h1 : most ≤ (out.length : Int)
    · rw [chF_done h1]
      exact ⟨fun _ => h1, fun h => absurd rfl h, hp⟩
    · by_cases h2 : stepZ S a left pages = 0
      · obtain ⟨b, nx, d, -, -, hd, -, -, -, k3, k4⟩ := step_zero h2
        obtain ⟨r1, r2, -⟩ := dec_rng hd
        rw [chF_next h1 (by omega) h2 k3 k4]
        refine chF_facts hm (f + 1 - 1) _ _ _ _ _ (by rw [List.length_append]; omega) (by unfold i64w; omega) (fun p hpp => ?_)
        rcases List.mem_append.1 hpp with hpp | hpp
        · exact hp p hpp
        · obtain rfl := List.mem_singleton.1 hpp; exact ha
      · rw [chF_bad h1 (by omega) rfl h2 rfl]
        exact ⟨fun e => absurd e h2, fun _ => ⟨rfl, rfl⟩, fun p hp => by cases hp⟩
end
end Go.Proofs.Ytgnhakgfgdelpaa

-- Calls through api.Room, whose value is a bench.
namespace Go.Proofs.Ytgnhakgfgdelpaa
open Go.RowKit Go.Maps
abbrev roomV (gb : Nat) : Value := .iface 41 (.pointer (some ⟨gb, 0, none⟩))
theorem rm_size (p : Value) (k : Nat) (w : World) : (method (k + 1) 41 p "Size").run Try.prog w = .ok (65, p) w := by kernel_rfl
theorem rm_read (p : Value) (k : Nat) (w : World) : (method (k + 1) 41 p "Read").run Try.prog w = .ok (31, p) w := by kernel_rfl
theorem rm_alloc (p : Value) (k : Nat) (w : World) : (method (k + 1) 41 p "Alloc").run Try.prog w = .ok (70, p) w := by kernel_rfl
theorem rm_write (p : Value) (k : Nat) (w : World) : (method (k + 1) 41 p "Write").run Try.prog w = .ok (71, p) w := by kernel_rfl
theorem rm_free (p : Value) (k : Nat) (w : World) : (method (k + 1) 41 p "Free").run Try.prog w = .ok (66, p) w := by kernel_rfl
theorem rm_spare (p : Value) (k : Nat) (w : World) : (method (k + 1) 41 p "Spare").run Try.prog w = .ok (69, p) w := by kernel_rfl
theorem rm_nil (a : Addr) (k : Nat) (w : World) : (nilAhead (k + 1) 41 (.pointer (some a)) "Write").run Try.prog w = .ok (some false) w := by kernel_rfl
end Go.Proofs.Ytgnhakgfgdelpaa
