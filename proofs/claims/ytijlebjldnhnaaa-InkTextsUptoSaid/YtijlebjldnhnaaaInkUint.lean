/- ink.Uint, espalierref01.Uint: walks. -/
import Derived.Test.YtijlebjldnhnaaaInkBytes
import Derived.Test.YtijlebjldnhnaaaInkUintF
namespace Go.Proofs.Ytijlebjldnhnaaa
open Go.RowKit
section laws
variable {w : World} {ops : Array Oper} {rest : List Oper} {o : Oper} {a : Act} {Q : Exit → Act → World → Prop}
/-- make([]byte, 0, n). -/
theorem wp_make_B0 (hg : o.guard = none) (l c : Operand) (hop : o.op = Op.makeSlice 24 l c)
    (C : Int) (n : Nat) (hl : a.eval l = .int .i64 0) (hc : a.eval c = .int .i64 C) (hL : C = (n : Int)) (hn : n ≤ 281474976710656) (base : Nat) (hb : base ≤ w.heap.size)
    (hK : ∀ w', OwB w' base (.slice (some ⟨w.heap.size, 0, none⟩) 0 n) [] → Below w.heap.size w w' → w'.heap.size = w.heap.size + 1 → wpList Try.prog ops Q rest (a.put o.dst (.slice (some ⟨w.heap.size, 0, none⟩) 0 n)) w') :
    wpList Try.prog ops Q (o :: rest) a w := by
  obtain ⟨i, hi, hz0, hz1, hz2⟩ := info_parts u8_info
  refine wpList_plain hg fun K hK' => ?_
  have hr := run_make (P := Try.prog) w 24 5 i _ Try.underlying24 hi hz0 .i64 .i64 0 n (by omega) (by omega) (by rw [hz2]; omega) (by omega)
  subst hL
  unfold Oper.wp
  simp [execOp, hop, hl, hc, Result.andThen]
  simp at hr
  rw [hr]
  simp [Result.andThen]
  refine hK' _ _ (hK _ ?_ ((Below.refl _ _).alloc (Nat.le_refl _) _) (by simp))
  have e := toList_madeCells_one (.int .u8 0) n
  have h1 := OBlk.new w 5 (madeCells #[.int .u8 0] n)
  rw [e, ← bvs_replicate] at h1
  have := h1.owB (base := base) hb (by simp only [maxLen, List.length_replicate]; omega) (n := 0) (by omega)
  rw [List.length_replicate] at this
  simpa [Value.cells, hz1] using this
end laws
set_option maxRecDepth 20000 in
theorem or128 (n : Nat) : bits .or .u8 ((n : Int) % 256) 128 = ((UInt8.ofNat (128 + n % 128)).toNat : Int) := by
  have h1 : (BitVec.ofInt 8 ((n : Int) % 256)).toNat = n % 256 := by rw [BitVec.toNat_ofInt]; omega
  have h2 : (BitVec.ofInt 8 (128 : Int)).toNat = 128 := rfl
  show IntKind.u8.wrap ((BitVec.ofInt 8 ((n : Int) % 256) ||| BitVec.ofInt 8 (128 : Int)).toNat : Int) = _
  rw [BitVec.toNat_or, h1, h2, IntKind.wrap_u8]
  have key : ∀ k : Fin 256, k.val ||| 128 = 128 + k.val % 128 := by decide
  have := key ⟨n % 256, by omega⟩
  simp only at this
  rw [this]
  simp
set_option maxRecDepth 20000 in
set_option maxHeartbeats 1000000 in
theorem Uint_any (n : Nat) (hn : n < 18446744073709551616) (w : World) :
    Calls Try.prog 15 #[.int .u64 n] w fun e w' => ∃ v, e = .returned v ∧ OwB w' w.heap.size v (uintF n) ∧ Below w.heap.size w w' := by
  have HL := Lib.hid (uintF_le10 hn)
  go_enter Try.func15, Try.ntmps15
  go_wp2_with (first | (at_make; refine wp_make_B0 rfl _ _ rfl _ 10 rfl rfl rfl (by omega) w.heap.size (Nat.le_refl _) ?_; intro w1 ho1 hw1 hs1) | fail)
  go_loopw [0, 3] (fun m v wr => ∃ (k : Nat) (pre : List UInt8), m = .int .u64 (k : Int) ∧ k < 18446744073709551616 ∧ Hid (uintF n = pre ++ uintF k) ∧ OwB wr w.heap.size v pre ∧ Below w.heap.size w wr)
    (fun m _ _ => (intOf m).toNat)
  case atStart => exact ⟨n, [], rfl, hn, Lib.hid rfl, ho1, hw1⟩
  case round =>
    clear ho1 hw1 hs1
    obtain ⟨k, pre, rfl, hk, HE, ho, hb⟩ := hrel
    have hbs := hb.size
    by_cases h : k < 128
    · have hlen : pre.length + 1 ≤ 10 := by
        have h1 := HL.out
        rw [HE.out, uintF_lt h] at h1
        simpa using h1
      go_wp2_with (first
        | (at_builtin; refine wp_append_B1 rfl (.tmp 15) (.tmp 18) rfl w.heap.size _ pre rfl ho (UInt8.ofNat k) _ (by rw [u8_byte]; first | rfl | (congr 1; omega)) 5 rfl (by omega) hbs ?_; intro v2 w2 ho2 hg2 _)
        | fail)
      go_ret
      refine ⟨v2, rfl, ?_, hb.grown hg2 hbs (fun g hg => (ho.lt g hg).1)⟩
      rw [HE.out, uintF_lt h]
      exact ho2
    · have hlen : pre.length + 1 ≤ 10 := by
        have h1 := HL.out
        rw [HE.out, uintF_ge h] at h1
        simp at h1; omega
      have hor := or128 k
      have hu := uintF_ge h
      have HU := Lib.hid hu
      clear hu
      go_wp2_with (first
        | (at_builtin; refine wp_append_B1 rfl (.tmp 9) (.tmp 13) rfl w.heap.size _ pre rfl ho (UInt8.ofNat (128 + k % 128)) _ rfl 5 rfl (by omega) hbs ?_; intro v2 w2 ho2 hg2 _)
        | fail)
      go_roundw
      case rel => exact ⟨k / 128, pre ++ [UInt8.ofNat (128 + k % 128)], by go_num, by omega, Lib.hid (by rw [HE.out, HU.out]; simp), ho2, hb.grown hg2 hbs (fun g hg => (ho.lt g hg).1)⟩
      case measure => simp [intOf]; omega
set_option maxRecDepth 20000 in
set_option maxHeartbeats 1000000 in
theorem RUint_any (n : Nat) (hn : n < 18446744073709551616) (w : World) :
    Calls Try.prog 17 #[.int .u64 n] w fun e w' => ∃ v, e = .returned v ∧ OwB w' w.heap.size v (uintF n) ∧ Below w.heap.size w w' := by
  have HL := Lib.hid (uintF_le10 hn)
  go_enter Try.func17, Try.ntmps17
  go_wp2_with fail
  go_loopw [0, 3] (fun m v wr => ∃ (k : Nat) (pre : List UInt8), m = .int .u64 (k : Int) ∧ k < 18446744073709551616 ∧ Hid (uintF n = pre ++ uintF k) ∧ OwB wr w.heap.size v pre ∧ Below w.heap.size w wr)
    (fun m _ _ => (intOf m).toNat)
  case atStart => exact ⟨n, [], rfl, hn, Lib.hid rfl, OwB.nil _ _, Below.refl _ _⟩
  case round =>
    obtain ⟨k, pre, rfl, hk, HE, ho, hb⟩ := hrel
    have hbs := hb.size
    by_cases h : k < 128
    · have hlen : pre.length + 1 ≤ 10 := by
        have h1 := HL.out
        rw [HE.out, uintF_lt h] at h1
        simpa using h1
      go_wp2_with (first
        | (at_builtin; refine wp_append_B1 rfl (.tmp 15) (.tmp 18) rfl w.heap.size _ pre rfl ho (UInt8.ofNat k) _ (by rw [u8_byte]; first | rfl | (congr 1; omega)) 5 rfl (by omega) hbs ?_; intro v2 w2 ho2 hg2 _)
        | fail)
      go_ret
      refine ⟨v2, rfl, ?_, hb.grown hg2 hbs (fun g hg => (ho.lt g hg).1)⟩
      rw [HE.out, uintF_lt h]
      exact ho2
    · have hlen : pre.length + 1 ≤ 10 := by
        have h1 := HL.out
        rw [HE.out, uintF_ge h] at h1
        simp at h1; omega
      have hu := uintF_ge h
      have HU := Lib.hid hu
      clear hu
      go_wp2_with (first
        | (at_builtin; refine wp_append_B1 rfl (.tmp 6) (.tmp 11) rfl w.heap.size _ pre rfl ho (UInt8.ofNat (128 + k % 128)) _ (by rw [u8_byte]; first | rfl | (congr 1; omega)) 5 rfl (by omega) hbs ?_; intro v2 w2 ho2 hg2 _)
        | fail)
      go_roundw
      case rel => exact ⟨k / 128, pre ++ [UInt8.ofNat (128 + k % 128)], by go_num, by omega, Lib.hid (by rw [HE.out, HU.out]; simp), ho2, hb.grown hg2 hbs (fun g hg => (ho.lt g hg).1)⟩
      case measure => simp [intOf]; omega
end Go.Proofs.Ytijlebjldnhnaaa
