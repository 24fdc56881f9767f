/- espalierlaw05.turned: the walk. -/
import Derived.Test.YtdnfbjmapdgnnaaLawTurnA
namespace Go.Proofs.Ytdnfbjmapdgnnaa
open Go.RowKit
theorem rem_pos (a r : Int) (ha : 0 ≤ a) (hr : 0 < r) : ∃ q : Nat, a.tmod r = (q : Int) ∧ (q : Int) < r := by
  refine ⟨(a % r).toNat, ?_, ?_⟩
  · rw [Int.tmod_eq_emod_of_nonneg ha, Int.toNat_of_nonneg (Int.emod_nonneg _ (by omega))]
  · rw [Int.toNat_of_nonneg (Int.emod_nonneg _ (by omega))]; exact Int.emod_lt_of_pos _ hr
theorem nz_u8 (y : UInt8) : ((y.toNat : Int) != 0) = (y != 0) := by
  by_cases h : y = 0
  · subst h; rfl
  · have h1 : y.toNat ≠ 0 := fun e => h (UInt8.toNat_inj.mp e)
    have h2 : (y != 0) = true := by simp [h]
    rw [h2]; simp; omega
set_option maxRecDepth 100000 in
set_option maxHeartbeats 4000000 in
theorem turned_pos {L t : List UInt8} (hL : isMeta L = true) (hn : 512 ≤ L.length) (hm : L.length ≤ 65536) (at_ : Int) (h1 : -9223372036854775808 ≤ at_) (h2 : at_ ≤ 9223372036854775807) (h0 : 0 ≤ at_) (vb vt : Value) (w : World) (rb : RdB w vb L) (rt : RdB w vt t) :
    Calls Try.prog 23 #[vb, .int .i64 at_, vt] w fun e w' => e = .returned (.bool true) ∧ Below w.heap.size w w' := by
  obtain ⟨A, ca, rfl, hma⟩ := rb.form
  obtain ⟨B, ct, rfl, hmt⟩ := rt.form
  obtain ⟨f, hf⟩ : ∃ f : Nat, L.length = f + 4 := ⟨L.length - 4, by omega⟩
  have hf' : (L.length : Int) - 4 = (f : Int) := by omega
  have HF := Lib.hid hf
  clear hf
  have f1 : 508 ≤ f := by omega
  obtain ⟨q, hq, hql⟩ := rem_pos at_ (f : Int) (by omega) (by omega)
  have q1 := run_B_string rb
  obtain ⟨cc, w2, q2, ho2, hb2, hs2⟩ := run_string_B w ⟨L.toArray⟩ (by show L.toArray.size ≤ _; simp [maxLen]; omega)
  have hsz : (⟨L.toArray⟩ : ByteArray).size = L.length := by show L.toArray.size = _; simp
  rw [hsz] at q2 ho2
  change OwB w2 w.heap.size _ L at ho2
  have HM := Lib.hid hL
  clear hma hsz hL
  go_enter Try.func23, Try.ntmps23
  go_wp2_with fail
  clear q1 q2 hq
  go_loopw [10, 11] (fun ch k wr => ∃ j : Nat, k = .int .i64 (j : Int) ∧ j ≤ 4 ∧ j ≤ t.length ∧ q + j ≤ f ∧ ch = .bool (anyNZ (t.take j)) ∧ OwB wr w.heap.size (.slice (some ⟨w.heap.size, 0, none⟩) L.length cc) (turnF L q (t.take j)) ∧ Below w.heap.size w wr)
    (fun _ k _ => 4 - (intOf k).toNat)
  case atStart => exact ⟨0, rfl, by omega, by omega, by omega, rfl, by rw [List.take_zero, turnF_nil]; exact ho2, hb2⟩
  case round =>
    clear ho2 hb2 hs2
    obtain ⟨j, rfl, hj4, hjt, hjr, rfl, ho, hb⟩ := hrel
    have hf := HF.out
    by_cases hC : j < 4 ∧ j < t.length ∧ q + j < f
    · obtain ⟨k1, k2, k3⟩ := hC
      have hlenT : (t.take j).length = j := by simp; omega
      have htl : (turnF L q (t.take j)).length = L.length := turnF_length _ _ _ (by omega)
      have hc := ho.cell (j := q + j) (by omega)
      have hfz := ho.frozen (j := q + j) (by omega)
      have hv : (turnF L q (t.take j))[q + j]'(by omega) = L[q + j]'(by omega) := by
        have := turnF_get L q (t.take j) (by omega) (by omega)
        simpa only [hlenT] using this
      rw [hv] at hc
      have hset : turnF L q (t.take (j + 1)) = (turnF L q (t.take j)).set (q + j) (L[q + j]'(by omega) ^^^ t[j]) := by
        have := turnF_snoc L q (t.take j) t[j] (by omega)
        rw [List.take_append_getElem] at this
        simpa only [hlenT] using this
      have hany : anyNZ (t.take (j + 1)) = (anyNZ (t.take j) || t[j] != 0) := by rw [← anyNZ_snoc, List.take_append_getElem]
      obtain ⟨ad, rfl, hc2⟩ := (rt.below hb (Nat.le_refl _)).at_ (j := j) k2
      have hall : Hid (∀ w', Below w.heap.size w w' → w'.cell? (ad.add j) = some (.int .u8 (t[j].toNat : Int))) := Lib.hid fun w' hb' => by
        obtain ⟨a2, e, h⟩ := (rt.below hb' (Nat.le_refl _)).at_ (j := j) k2
        injection e with e
        subst e; exact h
      have hx := u8_xor (L[q + j]'(by omega)) t[j]
      generalize (L[q + j]'(by omega)) = x at hc hx hset
      generalize t[j] = y at hc2 hx hset hany hall
      have HS := Lib.hid hset
      have HA := Lib.hid hany
      clear hv htl hlenT hset hany hf
      have i1 : ((q : Int) + (j : Int)) < (L.length : Int) := by omega
      have i2 : (0 : Int) ≤ ((q : Int) + (j : Int)) := by omega
      have i3 : (j : Int) < (t.length : Int) := by omega
      have i4 : IntKind.i64.wrap (((q : Int) + (j : Int))) = ((q : Int) + (j : Int)) := by rw [IntKind.wrap_i64]; omega
      have i5 : IntKind.i64.wrap (((q : Int))) = ((q : Int)) := by rw [IntKind.wrap_i64]; omega
      go_upto_region 13 with (fail)
      go_region
      have hbn := (hb.setCell (p := ⟨w.heap.size, q + j, none⟩) (Nat.le_refl _) (.int .u8 ((x.toNat ^^^ y.toNat : Nat) : Int))).drew
      have hon := (ho.set (q + j) (x ^^^ y)).drew
      rw [← HS.out, UInt8.toNat_xor] at hon
      generalize (wr.setCell ⟨w.heap.size, q + j, none⟩ (.int .u8 ((x.toNat ^^^ y.toNat : Nat) : Int))).drew = w5 at *
      clear hc hc2 hfz hx hb ho HS i1 i2 i4 i5
      have hc3 := hall.out _ hbn
      rcases tf (anyNZ (t.take j)) with hz | hz
      · rw [hz]
        go_wp2_with fail
        exact ⟨⟨j + 1, by go_num, by omega, by omega, by omega, by rw [HA.out, hz]; rfl, hon, hbn⟩, by simp [intOf]; omega⟩
      · rw [hz]
        go_wp2_with fail
        exact ⟨⟨j + 1, by go_num, by omega, by omega, by omega, by rw [HA.out, hz, Bool.false_or, nz_u8], hon, hbn⟩, by simp [intOf]; omega⟩
    · have hlenT : (t.take j).length = j := by simp; omega
      have hsplit : (¬ j < 4) ∨ (j < 4 ∧ ¬ j < t.length) ∨ (j < 4 ∧ j < t.length ∧ ¬ q + j < f) := by omega
      have hmz : anyNZ (t.take j) = true → Hid (isMeta (turnF L q (t.take j)) = false) := fun h => Lib.hid (turn_body HM.out (by omega) (by omega) h)
      have hsame : anyNZ (t.take j) = false → Hid (isMeta (turnF L q (t.take j)) = true) := fun h => Lib.hid (by rw [turnF_zero L _ _ (by omega) (anyNZ_false h)]; exact HM.out)
      have hrd := ho.rd
      clear hlenT hf ho hC
      rcases tf (anyNZ (t.take j)) with hz | hz
      · have HZ := hmz hz
        rw [hz]
        clear hz hmz hsame
        rcases hsplit with hs | ⟨hs, hs2⟩ | ⟨hs, hs2, hs3⟩
        · go_wp2_with fail
          refine (Decode_n _ _ HZ.out _ hrd).mono ?_
          rintro e w6 ⟨rfl, hw6⟩
          have hb6 := hb.trans (hw6.mono hb.size)
          go_wp2_with fail
          go_ret
          exact ⟨rfl, hb6.alloc hb6.size _⟩
        · go_wp2_with fail
          refine (Decode_n _ _ HZ.out _ hrd).mono ?_
          rintro e w6 ⟨rfl, hw6⟩
          have hb6 := hb.trans (hw6.mono hb.size)
          go_wp2_with fail
          go_ret
          exact ⟨rfl, hb6.alloc hb6.size _⟩
        · go_wp2_with fail
          refine (Decode_n _ _ HZ.out _ hrd).mono ?_
          rintro e w6 ⟨rfl, hw6⟩
          have hb6 := hb.trans (hw6.mono hb.size)
          go_wp2_with fail
          go_ret
          exact ⟨rfl, hb6.alloc hb6.size _⟩
      · have HZ := hsame hz
        rw [hz]
        clear hz hmz hsame
        rcases hsplit with hs | ⟨hs, hs2⟩ | ⟨hs, hs2, hs3⟩
        · go_wp2_with fail
          refine (Decode_y _ _ HZ.out _ hrd).mono ?_
          rintro e w6 ⟨rfl, hw6⟩
          have hb6 := hb.trans (hw6.mono hb.size)
          go_wp2_with fail
          go_ret
          exact ⟨rfl, hb6.alloc hb6.size _⟩
        · go_wp2_with fail
          refine (Decode_y _ _ HZ.out _ hrd).mono ?_
          rintro e w6 ⟨rfl, hw6⟩
          have hb6 := hb.trans (hw6.mono hb.size)
          go_wp2_with fail
          go_ret
          exact ⟨rfl, hb6.alloc hb6.size _⟩
        · go_wp2_with fail
          refine (Decode_y _ _ HZ.out _ hrd).mono ?_
          rintro e w6 ⟨rfl, hw6⟩
          have hb6 := hb.trans (hw6.mono hb.size)
          go_wp2_with fail
          go_ret
          exact ⟨rfl, hb6.alloc hb6.size _⟩

set_option maxRecDepth 100000 in
set_option maxHeartbeats 4000000 in
theorem turned_neg {L t : List UInt8} (hL : isMeta L = true) (hn : 512 ≤ L.length) (hm : L.length ≤ 65536) (at_ : Int) (h1 : -9223372036854775808 ≤ at_) (h2 : at_ ≤ 9223372036854775807) (h0 : at_ < 0) (vb vt : Value) (w : World) (rb : RdB w vb L) (rt : RdB w vt t) :
    Calls Try.prog 23 #[vb, .int .i64 at_, vt] w fun e w' => e = .returned (.bool true) ∧ Below w.heap.size w w' := by
  obtain ⟨A, ca, rfl, hma⟩ := rb.form
  obtain ⟨B, ct, rfl, hmt⟩ := rt.form
  obtain ⟨f, hf⟩ : ∃ f : Nat, L.length = f + 4 := ⟨L.length - 4, by omega⟩
  have hf' : (L.length : Int) - 4 = (f : Int) := by omega
  have HF := Lib.hid hf
  clear hf
  have f1 : 508 ≤ f := by omega
  obtain ⟨q, hq, hql⟩ := rem_pos (-(at_ + 1)) 4 (by omega) (by omega)
  have q1 := run_B_string rb
  obtain ⟨cc, w2, q2, ho2, hb2, hs2⟩ := run_string_B w ⟨L.toArray⟩ (by show L.toArray.size ≤ _; simp [maxLen]; omega)
  have hsz : (⟨L.toArray⟩ : ByteArray).size = L.length := by show L.toArray.size = _; simp
  rw [hsz] at q2 ho2
  change OwB w2 w.heap.size _ L at ho2
  have HM := Lib.hid hL
  clear hma hsz hL
  go_enter Try.func23, Try.ntmps23
  go_wp2_with fail
  clear q1 q2 hq
  go_loopw [10, 11] (fun ch k wr => ∃ j : Nat, k = .int .i64 (j : Int) ∧ j ≤ 4 ∧ j ≤ t.length ∧ q + j ≤ 4 ∧ ch = .bool (anyNZ (t.take j)) ∧ OwB wr w.heap.size (.slice (some ⟨w.heap.size, 0, none⟩) L.length cc) (turnF L (f + q) (t.take j)) ∧ Below w.heap.size w wr)
    (fun _ k _ => 4 - (intOf k).toNat)
  case atStart => exact ⟨0, rfl, by omega, by omega, by omega, rfl, by rw [List.take_zero, turnF_nil]; exact ho2, hb2⟩
  case round =>
    clear ho2 hb2 hs2
    obtain ⟨j, rfl, hj4, hjt, hjr, rfl, ho, hb⟩ := hrel
    have hf := HF.out
    by_cases hC : j < 4 ∧ j < t.length ∧ q + j < 4
    · obtain ⟨k1, k2, k3⟩ := hC
      have hlenT : (t.take j).length = j := by simp; omega
      have htl : (turnF L (f + q) (t.take j)).length = L.length := turnF_length _ _ _ (by omega)
      have hc := ho.cell (j := f + q + j) (by omega)
      have hfz := ho.frozen (j := f + q + j) (by omega)
      have hv : (turnF L (f + q) (t.take j))[f + q + j]'(by omega) = L[f + q + j]'(by omega) := by
        have := turnF_get L (f + q) (t.take j) (by omega) (by omega)
        simpa only [hlenT] using this
      rw [hv] at hc
      have hset : turnF L (f + q) (t.take (j + 1)) = (turnF L (f + q) (t.take j)).set (f + q + j) (L[f + q + j]'(by omega) ^^^ t[j]) := by
        have := turnF_snoc L (f + q) (t.take j) t[j] (by omega)
        rw [List.take_append_getElem] at this
        simpa only [hlenT] using this
      have hany : anyNZ (t.take (j + 1)) = (anyNZ (t.take j) || t[j] != 0) := by rw [← anyNZ_snoc, List.take_append_getElem]
      obtain ⟨ad, rfl, hc2⟩ := (rt.below hb (Nat.le_refl _)).at_ (j := j) k2
      have hall : Hid (∀ w', Below w.heap.size w w' → w'.cell? (ad.add j) = some (.int .u8 (t[j].toNat : Int))) := Lib.hid fun w' hb' => by
        obtain ⟨a2, e, h⟩ := (rt.below hb' (Nat.le_refl _)).at_ (j := j) k2
        injection e with e
        subst e; exact h
      have hx := u8_xor (L[f + q + j]'(by omega)) t[j]
      generalize (L[f + q + j]'(by omega)) = x at hc hx hset
      generalize t[j] = y at hc2 hx hset hany hall
      have HS := Lib.hid hset
      have HA := Lib.hid hany
      clear hv htl hlenT hset hany hf
      have i1 : ((f : Int) + (q : Int) + (j : Int)) < (L.length : Int) := by omega
      have i2 : (0 : Int) ≤ ((f : Int) + (q : Int) + (j : Int)) := by omega
      have i3 : (j : Int) < (t.length : Int) := by omega
      have i4 : IntKind.i64.wrap (((f : Int) + (q : Int) + (j : Int))) = ((f : Int) + (q : Int) + (j : Int)) := by rw [IntKind.wrap_i64]; omega
      have i5 : IntKind.i64.wrap (((f : Int) + (q : Int))) = ((f : Int) + (q : Int)) := by rw [IntKind.wrap_i64]; omega
      go_upto_region 13 with (fail)
      go_region
      have hbn := (hb.setCell (p := ⟨w.heap.size, f + q + j, none⟩) (Nat.le_refl _) (.int .u8 ((x.toNat ^^^ y.toNat : Nat) : Int))).drew
      have hon := (ho.set (f + q + j) (x ^^^ y)).drew
      rw [← HS.out, UInt8.toNat_xor] at hon
      generalize (wr.setCell ⟨w.heap.size, f + q + j, none⟩ (.int .u8 ((x.toNat ^^^ y.toNat : Nat) : Int))).drew = w5 at *
      clear hc hc2 hfz hx hb ho HS i1 i2 i4 i5
      have hc3 := hall.out _ hbn
      rcases tf (anyNZ (t.take j)) with hz | hz
      · rw [hz]
        go_wp2_with fail
        exact ⟨⟨j + 1, by go_num, by omega, by omega, by omega, by rw [HA.out, hz]; rfl, hon, hbn⟩, by simp [intOf]; omega⟩
      · rw [hz]
        go_wp2_with fail
        exact ⟨⟨j + 1, by go_num, by omega, by omega, by omega, by rw [HA.out, hz, Bool.false_or, nz_u8], hon, hbn⟩, by simp [intOf]; omega⟩
    · have hlenT : (t.take j).length = j := by simp; omega
      have hsplit : (¬ j < 4) ∨ (j < 4 ∧ ¬ j < t.length) ∨ (j < 4 ∧ j < t.length ∧ ¬ q + j < 4) := by omega
      have hmz : anyNZ (t.take j) = true → Hid (isMeta (turnF L (f + q) (t.take j)) = false) := fun h => Lib.hid (turn_sum HM.out (by omega) (by omega) h)
      have hsame : anyNZ (t.take j) = false → Hid (isMeta (turnF L (f + q) (t.take j)) = true) := fun h => Lib.hid (by rw [turnF_zero L _ _ (by omega) (anyNZ_false h)]; exact HM.out)
      have hrd := ho.rd
      clear hlenT hf ho hC
      rcases tf (anyNZ (t.take j)) with hz | hz
      · have HZ := hmz hz
        rw [hz]
        clear hz hmz hsame
        rcases hsplit with hs | ⟨hs, hs2⟩ | ⟨hs, hs2, hs3⟩
        · go_wp2_with fail
          refine (Decode_n _ _ HZ.out _ hrd).mono ?_
          rintro e w6 ⟨rfl, hw6⟩
          have hb6 := hb.trans (hw6.mono hb.size)
          go_wp2_with fail
          go_ret
          exact ⟨rfl, hb6.alloc hb6.size _⟩
        · go_wp2_with fail
          refine (Decode_n _ _ HZ.out _ hrd).mono ?_
          rintro e w6 ⟨rfl, hw6⟩
          have hb6 := hb.trans (hw6.mono hb.size)
          go_wp2_with fail
          go_ret
          exact ⟨rfl, hb6.alloc hb6.size _⟩
        · go_wp2_with fail
          refine (Decode_n _ _ HZ.out _ hrd).mono ?_
          rintro e w6 ⟨rfl, hw6⟩
          have hb6 := hb.trans (hw6.mono hb.size)
          go_wp2_with fail
          go_ret
          exact ⟨rfl, hb6.alloc hb6.size _⟩
      · have HZ := hsame hz
        rw [hz]
        clear hz hmz hsame
        rcases hsplit with hs | ⟨hs, hs2⟩ | ⟨hs, hs2, hs3⟩
        · go_wp2_with fail
          refine (Decode_y _ _ HZ.out _ hrd).mono ?_
          rintro e w6 ⟨rfl, hw6⟩
          have hb6 := hb.trans (hw6.mono hb.size)
          go_wp2_with fail
          go_ret
          exact ⟨rfl, hb6.alloc hb6.size _⟩
        · go_wp2_with fail
          refine (Decode_y _ _ HZ.out _ hrd).mono ?_
          rintro e w6 ⟨rfl, hw6⟩
          have hb6 := hb.trans (hw6.mono hb.size)
          go_wp2_with fail
          go_ret
          exact ⟨rfl, hb6.alloc hb6.size _⟩
        · go_wp2_with fail
          refine (Decode_y _ _ HZ.out _ hrd).mono ?_
          rintro e w6 ⟨rfl, hw6⟩
          have hb6 := hb.trans (hw6.mono hb.size)
          go_wp2_with fail
          go_ret
          exact ⟨rfl, hb6.alloc hb6.size _⟩

theorem turned_any {L t : List UInt8} (hL : isMeta L = true) (hn : 512 ≤ L.length) (hm : L.length ≤ 65536) (at_ : Int) (h1 : -9223372036854775808 ≤ at_) (h2 : at_ ≤ 9223372036854775807) (vb vt : Value) (w : World) (rb : RdB w vb L) (rt : RdB w vt t) :
    Calls Try.prog 23 #[vb, .int .i64 at_, vt] w fun e w' => e = .returned (.bool true) ∧ Below w.heap.size w w' := by
  by_cases h0 : 0 ≤ at_
  · exact turned_pos hL hn hm at_ h1 h2 h0 vb vt w rb rt
  · exact turned_neg hL hn hm at_ h1 h2 (by omega) vb vt w rb rt
end Go.Proofs.Ytdnfbjmapdgnnaa
