/- espalierref01.ReadUint: the walk. -/
import Derived.Test.YtijlebjldnhnaaaInkReadUint
namespace Go.Proofs.Ytijlebjldnhnaaa
open Go.RowKit
theorem wrap_u64_nat {n : Nat} (h : n < 18446744073709551616) : IntKind.u64.wrap (n : Int) = (n : Int) := by rw [IntKind.wrap_u64]; omega
set_option maxRecDepth 20000 in
set_option maxHeartbeats 2000000 in
theorem RReadUint_any (v : Value) (l : List UInt8) (at_ : Int) (w : World) (hv : RdB w v l) : Calls Try.prog 24 #[v, .int .i64 at_] w (RuPost l at_ w) := by
  obtain ⟨A, c, rfl, hm⟩ := hv.form
  by_cases h1 : at_ < 0
  · have hV : Hid (ruV l at_ = (0, 0, 1)) := by show _ = _; unfold ruV; rw [if_pos (.inl h1)]
    go_enter Try.func24, Try.ntmps24
    go_wp2_with fail
    go_ret3
    unfold RuPost; rw [hV.out]; exact ⟨rfl, rfl⟩
  by_cases h2 : (l.length : Int) < at_
  · have hV : Hid (ruV l at_ = (0, 0, 1)) := by show _ = _; unfold ruV; rw [if_pos (.inr h2)]
    go_enter Try.func24, Try.ntmps24
    go_wp2_with fail
    go_ret3
    unfold RuPost; rw [hV.out]; exact ⟨rfl, rfl⟩
  obtain ⟨a, rfl⟩ := Int.eq_ofNat_of_zero_le (show 0 ≤ at_ by omega)
  have hV : Hid (∀ N K C, ruF 0 0 (l.drop a) = (N, K, C) → ruV l a = (N, bif C == 0 then (a : Int) + K else 0, C)) := Lib.hid fun N K C h => by
    unfold ruV; rw [if_neg (by omega), Int.toNat_natCast, h]
  have hal : a ≤ l.length := by omega
  go_enter Try.func24, Try.ntmps24
  go_wp2_with fail
  go_loopw [7, 8, 9] (fun n u i wr => ∃ (j k U : Nat), i = .int .i64 (j : Int) ∧ n = .int .u64 (k : Int) ∧ u = .int .u64 (U : Int) ∧ a + j ≤ l.length ∧ j ≤ 9 ∧ Hid (k < 128 ^ j) ∧ Hid (U = 128 ^ j) ∧ Hid (ruF 0 0 (l.drop a) = ruF j k (l.drop (a + j))) ∧ w = wr)
    (fun _ _ i _ => l.length - (intOf i).toNat)
  case atStart => exact ⟨0, 0, 1, rfl, rfl, rfl, by omega, by omega, Lib.hid (by simp), Lib.hid (by simp), Lib.hid (by simp), rfl⟩
  case round =>
    obtain ⟨j, k, U, rfl, rfl, rfl, hj, hj9, HK, HU, HE, rfl⟩ := hrel
    by_cases hlt : a + j < l.length
    · obtain ⟨ad, rfl, hc⟩ := hv.at_ hlt
      have hd := List.drop_eq_getElem_cons hlt
      have hxb : l[a + j].toNat < 256 := l[a + j].toNat_lt
      generalize l[a + j] = x at hc hd hxb
      have HE2 := Lib.hid (HE.out.trans (by rw [hd, Nat.add_assoc]))
      clear hd HE
      have ib : (a : Int) + (j : Int) < (l.length : Int) := by omega
      by_cases hA : j = 9 ∧ 1 < x.toNat
      · have HE3 := Lib.hid (hV.out _ _ _ (HE2.out.trans (ruF_big hA)))
        have e9 : ((j : Int) == 9) = true := by simp; omega
        have e1 : (1 : Int) < (x.toNat : Int) := by omega
        clear hA
        go_wp2_with fail
        go_ret3
        unfold RuPost; rw [HE3.out]; exact ⟨rfl, rfl⟩
      · have HA := Lib.hid hA
        have hst := step_bound (k := k) (x := x.toNat) HK.out hj9 (fun h => by omega)
        obtain ⟨s1, s2, s3⟩ := hst
        rw [← HU.out] at s1 s2 s3
        obtain ⟨P, hP⟩ : ∃ P, P = x.toNat % 128 * U := ⟨_, rfl⟩
        rw [← hP] at s1 s2 s3
        have hmul : IntKind.u64.wrap ((x.toNat : Int) % 128 * (U : Int)) = (P : Int) := by
          rw [show (x.toNat : Int) % 128 * (U : Int) = (P : Int) by rw [hP]; push_cast; rfl]
          exact wrap_u64_nat s1
        have HK' : Hid (k + P = k + x.toNat % 128 * 128 ^ j) := Lib.hid (by rw [hP, HU.out])
        have S3 := Lib.hid s3
        clear hP s3 hA
        have h9c : ((j : Int) == 9) = false ∨ ((j : Int) == 9) = true ∧ ¬ (1 : Int) < (x.toNat : Int) := by
          by_cases h9 : j = 9
          · exact .inr ⟨by simp; omega, by have := HA.out; omega⟩
          · exact .inl (by simp; omega)
        rcases (by omega : (x.toNat = 0 ∧ 0 < j) ∨ (¬ (x.toNat = 0 ∧ 0 < j) ∧ x.toNat < 128) ∨ ¬ x.toNat < 128) with hB | ⟨hB, hx⟩ | hx
        · have HE3 := Lib.hid (hV.out _ _ _ (HE2.out.trans (ruF_form HA.out hB)))
          obtain ⟨hB1, hB2⟩ := hB
          have ex : ((x.toNat : Int) == 0) = true := by simp; omega
          have hx : (x.toNat : Int) < 128 := by omega
          clear hB1
          rcases h9c with e9 | ⟨e9, e1⟩
          · go_wp2_with fail
            go_ret3
            unfold RuPost; rw [HE3.out]; exact ⟨rfl, rfl⟩
          · go_wp2_with fail
            go_ret3
            unfold RuPost; rw [HE3.out]; exact ⟨rfl, rfl⟩
        · have HE3 := Lib.hid (hV.out _ _ _ (HE2.out.trans ((ruF_end HA.out hB hx).trans (by rw [← HK'.out]))))
          have hbool : ((x.toNat : Int) == 0) = true ∧ ¬ (0 : Int) < (j : Int) ∨ ((x.toNat : Int) == 0) = false := by
            by_cases h0 : x.toNat = 0
            · exact .inl ⟨by simp; omega, by omega⟩
            · exact .inr (by simp; omega)
          clear hB
          rcases hbool with ⟨ex, ej⟩ | ex <;> rcases h9c with e9 | ⟨e9, e1⟩
          · go_wp2_with fail
            go_ret3
            unfold RuPost; rw [HE3.out]; exact ⟨ret3 rfl (congrArg (Value.int .i64) (by show (a : Int) + (j : Int) + 1 = (a : Int) + ((j + 1 : Nat) : Int); omega)) rfl, rfl⟩
          · go_wp2_with fail
            go_ret3
            unfold RuPost; rw [HE3.out]; exact ⟨ret3 rfl (congrArg (Value.int .i64) (by show (a : Int) + (j : Int) + 1 = (a : Int) + ((j + 1 : Nat) : Int); omega)) rfl, rfl⟩
          · go_wp2_with fail
            go_ret3
            unfold RuPost; rw [HE3.out]; exact ⟨ret3 rfl (congrArg (Value.int .i64) (by show (a : Int) + (j : Int) + 1 = (a : Int) + ((j + 1 : Nat) : Int); omega)) rfl, rfl⟩
          · go_wp2_with fail
            go_ret3
            unfold RuPost; rw [HE3.out]; exact ⟨ret3 rfl (congrArg (Value.int .i64) (by show (a : Int) + (j : Int) + 1 = (a : Int) + ((j + 1 : Nat) : Int); omega)) rfl, rfl⟩
        · have ex : ((x.toNat : Int) == 0) = false := by simp; omega
          have h9 : j ≠ 9 := fun e => by have := HA.out; omega
          have e9 : ((j : Int) == 9) = false := by simp; omega
          have HE3 := Lib.hid (HE2.out.trans ((ruF_more HA.out hx).trans (by rw [← HK'.out])))
          have hU8 : U ≤ 72057594037927936 := by
            rw [HU.out]
            have : 128 ^ j ≤ 128 ^ 8 := Nat.pow_le_pow_right (by omega) (by omega)
            exact Nat.le_trans this (by decide)
          clear h9c
          go_wp2_with fail
          refine ⟨⟨j + 1, k + P, U * 128, by go_num, by go_num, by go_num, by omega, by omega, Lib.hid (by rw [Nat.pow_succ, ← HU.out]; have := S3.out; rw [Nat.pow_succ] at this; rw [← HU.out] at this; exact this), Lib.hid (by rw [Nat.pow_succ, HU.out]), HE3, trivial⟩, by simp [intOf]; omega⟩
    · have HE3 := Lib.hid (hV.out _ _ _ (HE.out.trans (by rw [List.drop_of_length_le (by omega)])))
      go_wp2_with fail
      go_ret3
      unfold RuPost; rw [HE3.out]; exact ⟨rfl, rfl⟩
end Go.Proofs.Ytijlebjldnhnaaa
