/- ink.Sum: the walk. -/
import Derived.Test.YtgnhakgfgdelpaaInkHalf
namespace Go.Proofs.Ytgnhakgfgdelpaa
open Go.RowKit
def halfC (r : Nat) : Nat := halfF r ^^^ r / 16
theorem halfC_lt (r : Nat) (h : r < 4294967296) : halfC r < 4294967296 := Nat.xor_lt_two_pow (n := 32) (halfF_lt r) (by omega)
theorem crcByte_half (r : Nat) (x : UInt8) : crcByte r x = halfC (halfC (r ^^^ x.toNat)) := crcByte_eq r x
theorem xor_half (r : Nat) (h : r < 4294967296) : bits .xor .u32 (halfF r : Nat) ((r : Int) / 16) = (halfC r : Nat) := by
  exact u32_xor_nat (halfF r) (r / 16) (halfF_lt r) (by omega)
theorem not_u32 (r : Nat) (h : r < 4294967296) : bits .xor .u32 IntKind.u32.max (r : Int) = ((r ^^^ 4294967295 : Nat) : Int) := by
  rw [Nat.xor_comm]; exact u32_xor_nat 4294967295 r (by omega) h
set_option maxHeartbeats 400000 in
theorem Sum_any (v : Value) (ls : List (List UInt8)) (w : World) (hv : RdL w v ls) :
    Calls Try.prog 38 #[v] w fun e w' => e = .returned (.int .u32 (sumF ls.flatten : Nat)) ∧ Below w.heap.size w w' := by
  obtain ⟨A, c, rfl, hm⟩ := hv.form
  go_enter Try.func38, Try.ntmps38
  go_wp2
  go_loopw [3, 10] (fun r i wr => ∃ (k : Nat), i = .int .i64 (k : Int) ∧ k ≤ ls.length ∧ r = .int .u32 (crcF 4294967295 (ls.take k).flatten : Nat) ∧ Below w.heap.size w wr)
    (fun _ i _ => ls.length - (intOf i).toNat)
  case atStart => exact ⟨0, rfl, Nat.zero_le _, rfl, Below.refl _ _⟩
  case round =>
    obtain ⟨k, rfl, hk, rfl, hw⟩ := hrel
    by_cases hlt : k < ls.length
    · obtain ⟨ad, A2, c2, rfl, hcell, hru0⟩ := (hv.below hw (Nat.le_refl _)).at_ hlt
      have hm2 := hru0.le
      have hfl := flat_snoc ls k hlt
      have HF := Lib.hid hfl
      generalize ls[k] = l at *
      clear hfl
      go_wp2
      obtain ⟨wo, rfl⟩ : ∃ wo : World, wo = wr := ⟨_, rfl⟩
      go_loopw [3, 16] (fun r i wi => ∃ (j : Nat), i = .int .i64 (j : Int) ∧ j ≤ l.length ∧ r = .int .u32 (crcF (crcF 4294967295 (ls.take k).flatten) (l.take j) : Nat) ∧ Below wo.heap.size wo wi)
        (fun _ i _ => l.length - (intOf i).toNat)
      case atStart => exact ⟨0, rfl, Nat.zero_le _, rfl, Below.refl _ _⟩
      case round =>
        obtain ⟨j, rfl, hj, rfl, hwi⟩ := hrel
        have hr0 : crcF (crcF 4294967295 (ls.take k).flatten) (l.take j) < 4294967296 := crcF_lt _ _ (crcF_lt _ _ (by omega))
        by_cases hjl : j < l.length
        · obtain ⟨ad2, hA2, hcell2⟩ := (hru0.below hwi (Nat.le_refl _)).at_ hjl
          subst hA2
          have hsn : crcF (crcF 4294967295 (ls.take k).flatten) (l.take (j + 1)) = halfC (halfC (crcF (crcF 4294967295 (ls.take k).flatten) (l.take j) ^^^ l[j].toNat)) := by
            rw [List.take_succ_eq_append_getElem hjl, crcF_snoc, crcByte_half]
          have HS := Lib.hid hsn
          clear hsn
          have hx := u32_xor_nat _ l[j].toNat hr0 (by have := l[j].toNat_lt; omega)
          have hx1 : crcF (crcF 4294967295 (ls.take k).flatten) (l.take j) ^^^ l[j].toNat < 4294967296 := Nat.xor_lt_two_pow (n := 32) hr0 (by have := l[j].toNat_lt; omega)
          have hxb : l[j].toNat < 256 := l[j].toNat_lt
          generalize crcF (crcF 4294967295 (ls.take k).flatten) (l.take j) = r at *
          generalize l[j].toNat = x at *
          generalize r ^^^ x = y at *
          have hy1 := xor_half y hx1
          have hy2 := xor_half (halfC y) (halfC_lt y hx1)
          go_wp2_with fail
          refine (half_any y hx1 _).mono ?_
          rintro e w1 ⟨rfl, hb1⟩
          go_wp2_with fail
          refine (half_any (halfC y) (halfC_lt y hx1) _).mono ?_
          rintro e w2 ⟨rfl, hb2⟩
          go_wp2
          go_roundw
          case rel => exact ⟨j + 1, by go_num, by omega, by rw [HS.out], hwi.trans (((hb1.mono hwi.size)).trans (hb2.mono (Nat.le_trans hwi.size hb1.size)))⟩
          case measure => simp [intOf]; omega
        · obtain rfl : j = l.length := by omega
          rw [List.take_length] at *
          have hz : crcF (crcF 4294967295 (ls.take k).flatten) l = crcF 4294967295 (ls.take (k + 1)).flatten := by rw [HF.out, crcF_append]
          rw [hz]
          clear hz
          go_wp2
          go_roundw
          case rel => exact ⟨k + 1, by go_num, by omega, rfl, hw.trans (hwi.mono hw.size)⟩
          case measure => simp [intOf]; omega
    · obtain rfl : k = ls.length := by omega
      rw [List.take_length]
      have hr0 : crcF 4294967295 ls.flatten < 4294967296 := crcF_lt _ _ (by omega)
      have hn := not_u32 _ hr0
      rw [show crcF 4294967295 ls.flatten ^^^ 4294967295 = sumF ls.flatten from rfl] at hn
      go_wp2
      go_ret
      exact ⟨rfl, hw⟩
end Go.Proofs.Ytgnhakgfgdelpaa
