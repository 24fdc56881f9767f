/- spill.Decode, Pages: walks. -/
import Derived.Test.YtgnhakgfgdelpaaSpEnc
import Derived.Test.YtgnhakgfgdelpaaClo
import Derived.Test.YtgnhakgfgdelpaaInkReadFixed
namespace Go.Proofs.Ytgnhakgfgdelpaa
open Go.RowKit
theorem num4_lt (b : List UInt8) (a : Nat) : numAt b a 4 < 4294967296 := by
  unfold numAt
  refine Nat.lt_of_lt_of_le (numF_lt _) ?_
  have h : ((b.drop a).take 4).length ≤ 4 := by rw [List.length_take]; exact Nat.min_le_left _ _
  exact Nat.le_trans (Nat.pow_le_pow_right (by decide) h) (by decide)
def decS (b : List UInt8) : Option (Int × List UInt8) :=
  if isPowB (b.length : Int) = true ∧ numAt b 8 4 + 16 ≤ b.length ∧ spZ ((numAt b 4 4 : Nat) : Int) ((b.drop 12).take (numAt b 8 4)) (b.length : Int) = 0 ∧ laidS ((numAt b 4 4 : Nat) : Int) ((b.drop 12).take (numAt b 8 4)) b.length = b
  then some (((numAt b 4 4 : Nat) : Int), (b.drop 12).take (numAt b 8 4)) else none
def decN (b : List UInt8) : Int := match decS b with | some (n, _) => n | none => 0
def decD (b : List UInt8) : List UInt8 := match decS b with | some (_, d) => d | none => []
def decZ (b : List UInt8) : Int := match decS b with | some _ => 0 | none => 60
theorem dec_none {b : List UInt8} (h : decS b = none) : decN b = 0 ∧ decD b = [] ∧ decZ b = 60 := by unfold decN decD decZ; rw [h]; exact ⟨rfl, rfl, rfl⟩
theorem dec_some {b : List UInt8} {n : Int} {d : List UInt8} (h : decS b = some (n, d)) : decN b = n ∧ decD b = d ∧ decZ b = 0 := by unfold decN decD decZ; rw [h]; exact ⟨rfl, rfl, rfl⟩
def SDecAt (w : World) (b : List UInt8) (e : Ending) (w' : World) : Prop := ∃ u, e = .returned (.tuple #[.int .i64 (decN b), u, .int .i64 (decZ b)]) ∧ OwB w' w.heap.size u (decD b) ∧ Below w.heap.size w w'
theorem SDecAt.bad {w w' : World} {b : List UInt8} (h : decS b = none) (hB : Below w.heap.size w w') : SDecAt w b (.returned (.tuple #[.int .i64 0, .slice none 0 0, .int .i64 60])) w' := by
  obtain ⟨h1, h2, h3⟩ := dec_none h
  exact ⟨_, by rw [h1, h3], by rw [h2]; exact OwB.nil _ _, hB⟩
set_option maxRecDepth 100000 in
set_option maxHeartbeats 8000000 in
theorem SDecode_any (v : Value) (b : List UInt8) (w : World) (hv : RdB w v b) : Calls Try.prog 20 #[v] w (SDecAt w b) := by
  obtain ⟨A, c, rfl, hm⟩ := hv.form
  have hPa := fun W => SisPage_any (b.length : Int) (by omega) W
  cases hp : isPowB (b.length : Int) with
  | false =>
    have HN : Hid (decS b = none) := by show _ = _; unfold decS; rw [if_neg (by rw [hp]; simp)]
    rw [hp] at hPa
    clear hp
    go_enter Try.func20, Try.ntmps20
    go_wp2_with (first | (go_at_call 33; refine (hPa _).mono ?_; rintro e w1 ⟨rfl, rfl⟩) | fail)
    refine bodyPost_ret (v := .tuple #[.int .i64 0, .slice none 0 0, .int .i64 60]) ?_ rfl ?_
    · simp [results, Try.results20, go_sem]
    · exact SDecAt.bad HN.out (Below.refl _ _)
  | true =>
    obtain ⟨hP1, hP2⟩ := isPowB_range hp
    have hb1 : 512 ≤ b.length := by omega
    have hb2 : b.length ≤ 65536 := by omega
    have HP := Lib.hid hp
    have hD : decS b = if numAt b 8 4 + 16 ≤ b.length ∧ spZ ((numAt b 4 4 : Nat) : Int) ((b.drop 12).take (numAt b 8 4)) (b.length : Int) = 0 ∧ laidS ((numAt b 4 4 : Nat) : Int) ((b.drop 12).take (numAt b 8 4)) b.length = b then some (((numAt b 4 4 : Nat) : Int), (b.drop 12).take (numAt b 8 4)) else none := by
      unfold decS; rw [hp]; simp
    rw [hp] at hPa
    clear hp
    have hN1 : Calls Try.prog 41 #[.slice A b.length c, .int .i64 4, .int .i64 4] w fun e w' => e = .returned (.tuple #[.int .u64 (numAt b 4 4 : Nat), .int .i64 0]) ∧ w = w' := ReadFixed_any (.slice A b.length c) b 4 4 (by omega) (by omega) (by omega) w hv
    have hN2 : Calls Try.prog 41 #[.slice A b.length c, .int .i64 8, .int .i64 4] w fun e w' => e = .returned (.tuple #[.int .u64 (numAt b 8 4 : Nat), .int .i64 0]) ∧ w = w' := ReadFixed_any (.slice A b.length c) b 8 4 (by omega) (by omega) (by omega) w hv
    have hl1 := num4_lt b 4
    have hl2 := num4_lt b 8
    generalize numAt b 4 4 = x at *
    generalize numAt b 8 4 = n at *
    have w1 : IntKind.i64.wrap (x : Int) = (x : Int) := by rw [IntKind.wrap_i64]; omega
    have w2 : IntKind.i64.wrap (n : Int) = (n : Int) := by rw [IntKind.wrap_i64]; omega
    have w3 : IntKind.u64.wrap ((b.length : Int) - 12 - 4) = (b.length : Int) - 12 - 4 := IntWalk.u64_in _ (by omega)
    have HD := Lib.hid hD
    clear hD
    by_cases h1 : n + 16 ≤ b.length
    · have i1 : ¬ (b.length : Int) - 12 - 4 < (n : Int) := by omega
      have i2 : (12 : Int) ≤ 12 + (n : Int) := by omega
      have i3 : (12 : Int) + (n : Int) ≤ (b.length : Int) := by omega
      have i4 : (12 : Int) ≤ (b.length : Int) := by omega
      have hdl : ((b.drop 12).take n).length = n := by rw [List.length_take, List.length_drop]; omega
      obtain ⟨A2, c2, q2', hr2⟩ := hv.run_lh 12 (12 + n) (by omega) (by omega)
      rw [show (b.take (12 + n)).drop 12 = (b.drop 12).take n by rw [List.drop_take, show 12 + n - 12 = n by omega]] at hr2
      rw [show 12 + n - 12 = n by omega] at q2' hr2
      have q2 : ∀ w', (Instr.slice 25 (.slice A b.length c) (some (.int .i64 12)) (some (.int .i64 (12 + (n : Int)))) none).run Try.prog w' = .ok (.slice A2 n c2) w' := fun w' => q2' w'
      clear q2'
      have HDL := Lib.hid hdl
      generalize (b.drop 12).take n = d at *
      have hE := fun (W : World) (u : Value) (hu : RdB W u d) => SEncode_any (x : Int) u d (b.length : Int) (by unfold i64w; omega) W hu
      have hpl : spL (x : Int) d (b.length : Int) = if spZ (x : Int) d (b.length : Int) = 0 then laidS (x : Int) d b.length else [] := by unfold spL; rfl
      by_cases hz : spZ (x : Int) d (b.length : Int) = 0
      · rw [if_pos hz] at hpl
        rw [hz, hpl] at hE
        by_cases heq : laidS (x : Int) d b.length = b
        · have HS : Hid (decS b = some ((x : Int), d)) := by show _ = _; rw [HD.out, if_pos ⟨h1, hz, heq⟩]
          rw [heq] at hE
          clear HD hz hpl heq
          go_enter Try.func20, Try.ntmps20
          go_upto_region 8 with (first
        | (go_at_call 33; refine (hPa _).mono ?_; rintro e w1 ⟨rfl, rfl⟩)
        | (go_at_call 41; with_reducible refine hN1.mono ?_; rintro e w1 ⟨rfl, rfl⟩)
        | (go_at_call 41; with_reducible refine hN2.mono ?_; rintro e w1 ⟨rfl, rfl⟩)
        | (go_at_call 42; with_reducible refine (CloneB_any _ _ _ hr2 (by rw [HDL.out]; omega)).mono ?_; rintro e w3 ⟨u3, rfl, ho3, hB3⟩)
        | fail)
          go_wp2_with (first
            | (go_at_call 15; with_reducible refine (hE _ _ ho3.rd).mono ?_; rintro e w4 ⟨u4, rfl, ho4, hB4⟩)
            | (go_at_call 43; with_reducible refine (Equal_any _ _ b b _ ho4.rd ((hv.below hB3 (Nat.le_refl _)).below hB4 (Nat.le_refl _))).mono ?_; rintro e w5 ⟨rfl, rfl⟩; rw [beq_self_eq_true])
            | fail)
          refine bodyPost_ret (v := .tuple #[.int .i64 (x : Int), u3, .int .i64 0]) ?_ rfl ?_
          · simp [results, Try.results20, go_sem]
          · obtain ⟨k1, k2, k3⟩ := dec_some HS.out
            exact ⟨u3, by rw [k1, k3], by rw [k2]; exact Own.below' ho3 hB4 (Nat.le_refl _), hB3.trans (hB4.mono hB3.size)⟩
        · have HN : Hid (decS b = none) := by show _ = _; rw [HD.out, if_neg (fun h => heq h.2.2)]
          have hbe : (laidS (x : Int) d b.length == b) = false := beq_eq_false_iff_ne.2 heq
          generalize laidS (x : Int) d b.length = l2 at *
          clear HD hz hpl heq
          go_enter Try.func20, Try.ntmps20
          go_upto_region 8 with (first
        | (go_at_call 33; refine (hPa _).mono ?_; rintro e w1 ⟨rfl, rfl⟩)
        | (go_at_call 41; with_reducible refine hN1.mono ?_; rintro e w1 ⟨rfl, rfl⟩)
        | (go_at_call 41; with_reducible refine hN2.mono ?_; rintro e w1 ⟨rfl, rfl⟩)
        | (go_at_call 42; with_reducible refine (CloneB_any _ _ _ hr2 (by rw [HDL.out]; omega)).mono ?_; rintro e w3 ⟨u3, rfl, ho3, hB3⟩)
        | fail)
          go_wp2_with (first
            | (go_at_call 15; with_reducible refine (hE _ _ ho3.rd).mono ?_; rintro e w4 ⟨u4, rfl, ho4, hB4⟩)
            | (go_at_call 43; with_reducible refine (Equal_any _ _ l2 b _ ho4.rd ((hv.below hB3 (Nat.le_refl _)).below hB4 (Nat.le_refl _))).mono ?_; rintro e w5 ⟨rfl, rfl⟩; rw [hbe])
            | fail)
          refine bodyPost_ret (v := .tuple #[.int .i64 0, .slice none 0 0, .int .i64 60]) ?_ rfl ?_
          · simp [results, Try.results20, go_sem]
          · exact SDecAt.bad HN.out (hB3.trans (hB4.mono hB3.size))
      · have HN : Hid (decS b = none) := by show _ = _; rw [HD.out, if_neg (fun h => hz h.2.1)]
        have e1 : (spZ (x : Int) d (b.length : Int) != 0) = true := by simp only [bne, beq_eq_false_iff_ne.2 hz]; rfl
        generalize spZ (x : Int) d (b.length : Int) = z at *
        clear HD hz hpl
        go_enter Try.func20, Try.ntmps20
        go_upto_region 8 with (first
        | (go_at_call 33; refine (hPa _).mono ?_; rintro e w1 ⟨rfl, rfl⟩)
        | (go_at_call 41; with_reducible refine hN1.mono ?_; rintro e w1 ⟨rfl, rfl⟩)
        | (go_at_call 41; with_reducible refine hN2.mono ?_; rintro e w1 ⟨rfl, rfl⟩)
        | (go_at_call 42; with_reducible refine (CloneB_any _ _ _ hr2 (by rw [HDL.out]; omega)).mono ?_; rintro e w3 ⟨u3, rfl, ho3, hB3⟩)
        | fail)
        go_wp2_with (first
          | (go_at_call 15; with_reducible refine (hE _ _ ho3.rd).mono ?_; rintro e w4 ⟨u4, rfl, ho4, hB4⟩)
          | fail)
        refine bodyPost_ret (v := .tuple #[.int .i64 0, .slice none 0 0, .int .i64 60]) ?_ rfl ?_
        · simp [results, Try.results20, go_sem]
        · exact SDecAt.bad HN.out (hB3.trans (hB4.mono hB3.size))
    · have i1 : (b.length : Int) - 12 - 4 < (n : Int) := by omega
      have HN : Hid (decS b = none) := by show _ = _; rw [HD.out, if_neg (fun h => h1 h.1)]
      clear HD
      go_enter Try.func20, Try.ntmps20
      go_wp2_with (first | (go_at_call 33; refine (hPa _).mono ?_; rintro e w1 ⟨rfl, rfl⟩) | (go_at_call 41; with_reducible refine hN1.mono ?_; rintro e w1 ⟨rfl, rfl⟩) | (go_at_call 41; with_reducible refine hN2.mono ?_; rintro e w1 ⟨rfl, rfl⟩) | fail)
      refine bodyPost_ret (v := .tuple #[.int .i64 0, .slice none 0 0, .int .i64 60]) ?_ rfl ?_
      · simp [results, Try.results20, go_sem]
      · exact SDecAt.bad HN.out (Below.refl _ _)
end Go.Proofs.Ytgnhakgfgdelpaa
