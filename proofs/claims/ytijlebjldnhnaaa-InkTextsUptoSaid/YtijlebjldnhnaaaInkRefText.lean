/- espalierref01.Great, Sum, begins, Between, Behind: walks. -/
import Derived.Test.YtijlebjldnhnaaaInkBoth
import Derived.Test.YtijlebjldnhnaaaInkBetween
import Derived.Test.YtijlebjldnhnaaaRefInk
namespace Go.Proofs.Ytijlebjldnhnaaa
open Go.RowKit
def bulkL (ls : List (List UInt8)) : Nat := (ls.map fun l => l.length + 1).sum
theorem bulkL_snoc (ls : List (List UInt8)) (k : Nat) (h : k < ls.length) : bulkL (ls.take (k + 1)) = bulkL (ls.take k) + (ls[k].length + 1) := by
  unfold bulkL
  rw [← List.take_append_getElem h, List.map_append, List.sum_append]
  simp only [List.map_cons, List.map_nil, List.sum_cons, List.sum_nil, Nat.add_zero]
theorem bulkL_le (ls : List (List UInt8)) (k : Nat) : bulkL (ls.take k) ≤ bulkL ls := by
  conv => rhs; rw [← List.take_append_drop k ls]
  unfold bulkL
  rw [List.map_append, List.sum_append]
  omega
set_option maxRecDepth 20000 in
set_option maxHeartbeats 2000000 in
theorem Great_any (v : Value) (ls : List (List UInt8)) (w : World) (hv : RdL w v ls) (hsz : ∀ l ∈ ls, l.length ≤ 140737488355328) :
    Calls Try.prog 31 #[v] w fun e w' => (∃ N : Nat, e = .returned (.bool (decide ((1000000 : Int) < (N : Int)))) ∧ (N ≤ 1000000 → bulkL ls ≤ 1000000)) ∧ w = w' := by
  obtain ⟨A, c, rfl, hm⟩ := hv.form
  go_enter Try.func31, Try.ntmps31
  go_wp2_with fail
  go_loopw [3, 4] (fun n i wr => ∃ j N : Nat, i = .int .i64 (j : Int) ∧ n = .int .i64 (N : Int) ∧ j ≤ ls.length ∧ Hid (N = bulkL (ls.take j)) ∧ N ≤ 140737489355329 ∧ w = wr)
    (fun _ i _ => ls.length - (intOf i).toNat)
  case atStart => exact ⟨0, 0, rfl, rfl, Nat.zero_le _, Lib.hid (by simp [bulkL]), by omega, rfl⟩
  case round =>
    obtain ⟨j, N, rfl, rfl, hj, HN, hN, rfl⟩ := hrel
    by_cases hC : j < ls.length ∧ N ≤ 1000000
    · obtain ⟨j1, j2⟩ := hC
      obtain ⟨ad, A2, c2, rfl, hcell, hr⟩ := hv.at_ j1
      have hl := hsz ls[j] (List.getElem_mem j1)
      have HB : Hid (bulkL (ls.take (j + 1)) = N + (ls[j].length + 1)) := Lib.hid (by rw [bulkL_snoc ls j j1, HN.out])
      generalize ls[j].length = n at *
      go_wp2_with fail
      go_roundw
      case rel => exact ⟨j + 1, N + (n + 1), by go_num, by first | go_num | (congr 1; omega), by omega, Lib.hid HB.out.symm, by omega, trivial⟩
      case measure => simp [intOf]; omega
    · rcases (by omega : j = ls.length ∨ (j < ls.length ∧ 1000000 < N)) with h1 | ⟨h1, h2⟩
      · have HZ : Hid (N = bulkL ls) := Lib.hid (by rw [HN.out, h1, List.take_length])
        have j1 : ¬ (j : Int) < (ls.length : Int) := by omega
        clear hC h1
        go_wp2_with fail
        go_ret
        exact ⟨⟨N, rfl, fun hf => by have := HZ.out; omega⟩, rfl⟩
      · have j1 : (j : Int) < (ls.length : Int) := by omega
        have j2 : (1000000 : Int) < (N : Int) := by omega
        clear hC h1
        go_wp2_with fail
        go_ret
        exact ⟨⟨N, by rw [decide_eq_true j2]; rfl, fun hf => by omega⟩, rfl⟩
set_option maxRecDepth 20000 in
set_option maxHeartbeats 2000000 in
theorem RSum_any (v : Value) (ls : List (List UInt8)) (w : World) (hv : RdL w v ls) :
    Calls Try.prog 40 #[v] w fun e w' => e = .returned (.int .u32 (sumF ls.flatten : Nat)) ∧ w = w' := by
  obtain ⟨A, c, rfl, hm⟩ := hv.form
  go_enter Try.func40, Try.ntmps40
  go_wp2_with fail
  go_loopw [3, 4] (fun q i wr => ∃ k : Nat, i = .int .i64 (k : Int) ∧ k ≤ ls.length ∧ q = .int .u32 (crcF 4294967295 (ls.take k).flatten : Nat) ∧ w = wr) (fun _ i _ => ls.length - (intOf i).toNat)
  case atStart => exact ⟨0, rfl, by omega, rfl, rfl⟩
  case round =>
    obtain ⟨k, rfl, hk, rfl, rfl⟩ := hrel
    by_cases hlt : k < ls.length
    · obtain ⟨ad, A2, c2, rfl, hcell, hr⟩ := hv.at_ hlt
      have hml := hr.le
      have hs : crcF 4294967295 (ls.take (k + 1)).flatten = crcF (crcF 4294967295 (ls.take k).flatten) ls[k] := by rw [flat_snoc ls k hlt, crcF_append]
      have HS := Lib.hid hs
      have hq0 : crcF 4294967295 (ls.take k).flatten < 4294967296 := crcF_lt _ _ (by omega)
      clear hs
      generalize crcF 4294967295 (ls.take k).flatten = q0 at *
      generalize ls[k] = l at *
      go_wp2_with fail
      go_loopw [3, 5] (fun q i wr => ∃ j : Nat, i = .int .i64 (j : Int) ∧ j ≤ l.length ∧ q = .int .u32 (crcF q0 (l.take j) : Nat) ∧ w = wr) (fun _ i _ => l.length - (intOf i).toNat)
      case atStart => exact ⟨0, rfl, by omega, rfl, rfl⟩
      case round =>
        obtain ⟨j, rfl, hj, rfl, rfl⟩ := hrel
        by_cases hlt2 : j < l.length
        · obtain ⟨ad2, rfl, hcell2⟩ := hr.at_ hlt2
          have hq : crcF q0 (l.take j) < 4294967296 := crcF_lt _ _ hq0
          have hs2 : crcF q0 (l.take (j + 1)) = crcByte (crcF q0 (l.take j)) l[j] := by
            rw [List.take_succ_eq_append_getElem hlt2, crcF_snoc]
          have HS2 := Lib.hid hs2
          clear hs2
          generalize l[j] = x at *
          generalize crcF q0 (l.take j) = q at *
          go_wp2_with (go_at_call 48; refine (step_any q hq x _).mono ?_; rintro e w' ⟨rfl, rfl⟩)
          go_roundw
          case rel => exact ⟨j + 1, by go_num, by omega, by rw [HS2.out], trivial⟩
          case measure => simp [intOf]; omega
        · obtain rfl : j = l.length := by omega
          rw [List.take_length]
          go_wp2_with fail
          go_roundw
          case rel => exact ⟨k + 1, by go_num, by omega, by rw [HS.out], trivial⟩
          case measure => simp [intOf]; omega
    · obtain rfl : k = ls.length := by omega
      rw [List.take_length]
      have hr0 : crcF 4294967295 ls.flatten < 4294967296 := crcF_lt _ _ (by omega)
      have hn : bits .xor .u32 (crcF 4294967295 ls.flatten : Nat) 4294967295 = (sumF ls.flatten : Nat) := u32_xor_nat _ 4294967295 hr0 (by omega)
      go_wp2_with fail
      go_ret
      exact ⟨rfl, rfl⟩
end Go.Proofs.Ytijlebjldnhnaaa
