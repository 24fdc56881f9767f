/- Texts joined: node.Cells; espalierref08.Cells, espalierlaw08.alike; espalierlaw08.alike; packed pages; node.Open, Decode and the document's, of any bytes -/
import Derived.Test.YtfcnkpofcekmgaaGreatNR6
import Derived.Test.YtfcnkpofcekmgaaGreatNR8
import Derived.Test.YtfcnkpofcekmgaaGreatNR9
import Derived.Test.YtfcnkpofcekmgaaGreatNR14
import Derived.Test.YtfcnkpofcekmgaaGreatNR18
import Derived.Test.YtfcnkpofcekmgaaGreatNR22
import Derived.Test.YtfcnkpofcekmgaaGreatNR27
-- node.Cells: the walk, for either engine.
namespace Go.Proofs.YtfcnkpofcekmgaaGreat
open Go.RowKit
theorem cellC_in {l : List PC} {k : Nat} (h : k < l.length) : cellC l (k : Int) = l[k] := by
  unfold cellC
  rw [if_neg (by omega), Int.toNat_natCast, List.getD_eq_getElem?_getD, List.getElem?_eq_getElem h]; rfl
theorem cellZ_in {l : List PC} {k : Nat} (h : k < l.length) : cellZ l (k : Int) = 0 := by
  unfold cellZ
  rw [if_neg (by omega)]
set_option maxRecDepth 100000 in
set_option maxHeartbeats 8000000 in
theorem NdCells_1 {w0 w : World} {L : List Ent} {p P : Nat} {kind : Int} {s : KP} (hS : NdP1 w0 w L p P kind s) (hI : NdI1 kind P s) (hP : P ≤ 65536) :
    Calls Tryz.prog 10 #[ndV1 p] w fun e w' => ∃ A c m, e = .returned (.slice A m.length c) ∧ pcs m = s.l ∧ RngC m ∧ NdP1 w0 w' (csE (.slice A m.length c) m :: L) p P kind s := by
  have i1 := im1_len
  have i2 := im1_cell
  have hln := hI.len hP
  have hl := NdLen1 hS
  obtain ⟨n, hn⟩ : ∃ n, s.l.length = n := ⟨_, rfl⟩
  rw [hn] at hl hln
  have HN := Lib.hid hn
  have hS0 : NdP1 w0 w (ownE 43 5 (.slice none 0 0) 0 [] :: (cellsE [] ++ L)) p P kind s := by
    obtain ⟨E, h1, B⟩ := NdP1.sep hS
    exact B _ _ (h1.nilC.sw1)
  clear hS hn
  go_enter Tryz.func10, Tryz.ntmps10
  go_upto_region 5 with (first
    | (go_at_call 203; (with_reducible refine hl.mono ?_); rintro e w1 ⟨rfl, rfl⟩)
    | fail)
  clear hl
  go_loopw [3, 11] (fun cv i wr => ∃ (k : Nat) (m : List CV), k ≤ n ∧ i = .int .i64 (k : Int) ∧ Hid (pcs m = s.l.take k) ∧ Hid (m.length = k) ∧ RngC m ∧ NdP1 w0 wr (ownE 43 5 cv m.length (flatC m) :: (cellsE m ++ L)) p P kind s) (fun _ i _ => n - (intOf i).toNat)
  case atStart => exact ⟨0, [], Nat.zero_le _, rfl, Lib.hid (by simp [pcs]), Lib.hid rfl, by simp [RngC], hS0⟩
  case round =>
    clear hS0
    obtain ⟨k, m, hk, rfl, HM, HK, hR, hS⟩ := hrel
    obtain ⟨E0, hS1, B0⟩ := NdP1.sep hS
    obtain ⟨B, cc, rfl⟩ := Own.slice (show Own wr 0 43 5 _ m.length (flatC m) from hS1.tail.head)
    rw [HK.out]
    by_cases hlt : k < n
    · have ik : (k : Int) < (n : Int) := by omega
      have hkl : k < s.l.length := by rw [HN.out]; exact hlt
      have hc := NdCel1 hS hI hP (k : Int) (by unfold i64r; omega)
      rw [cellZ_in hkl, cellC_in hkl] at hc
      have htk : s.l.take (k + 1) = s.l.take k ++ [s.l[k]] := List.take_succ_eq_append_getElem hkl
      have HTK := Lib.hid htk
      clear hS hS1 B0 htk
      go_wp2_with fail
      refine hc.mono ?_
      rintro e w2 ⟨x, rfl, hx, hr, hS2⟩
      obtain ⟨E, hS3, BB⟩ := NdP1.sep hS2
      have HB := Lib.hid BB
      have HX := Lib.hid hx
      rw [← hx] at hr
      obtain ⟨hr1, hr2, hr3⟩ := hr
      obtain ⟨kv, vv, key, ck, val, pg, ct⟩ := x
      simp only at hr1 hr2 hr3 hS3 HX
      have hkO := (show OwB w2 0 kv key from hS3.tail.head)
      have hvO := (show OwB w2 0 vv val from hS3.tail.tail.head)
      obtain ⟨xK, xk, rfl⟩ := Own.slice hkO
      obtain ⟨xV, xv, rfl⟩ := Own.slice hvO
      have hone := cells_one (x := ⟨.slice xK key.length xk, .slice xV val.length xv, ⟨key, ck, val, pg, ct⟩⟩) hkO hvO
      have hS4 := hS3.alloc 43 [.slice xK key.length xk, .int .i64 ck, .slice xV val.length xv, .int .i64 pg, .int .i64 ct]
      clear hc hkO hvO hS2 hS3 BB hx
      unfold cellV
      go_upto_region 8 with (fail)
      generalize hW4 : w2.alloc (.cells #[.slice xK key.length xk, .int .i64 ck, .slice xV val.length xv, .int .i64 pg, .int .i64 ct] 43) = w4 at *
      generalize w2.heap.size = cb at *
      clear hW4
      obtain ⟨y0, y1, y2, y3, y4⟩ := cells5 hS4.blk
      have hS5 := hS4.alloc 43 [.slice xK key.length xk, .int .i64 ck, .slice xV val.length xv, .int .i64 pg, .int .i64 ct]
      have hown2 := (show Own _ 0 43 5 (.slice B m.length cc) m.length (flatC m) from hS5.tail.tail.tail.tail.tail.head)
      have hfive := Rd.five w4 (.slice xK key.length xk) (.int .i64 ck) (.slice xV val.length xv) (.int .i64 pg) (.int .i64 ct) 43
      have hl9 : m.length + 1 ≤ 65536 := by rw [HK.out]; omega
      have HL9 := Lib.hid hl9
      rw [HK.out] at hown2
      clear hl9
      go_upto_region 9 with (first
        | (at_builtin; refine wp_append_C rfl (.tmp 20) (.tmp 22) rfl 0 (.slice B k cc) m rfl (by rw [HK.out]; exact hown2) (.slice (some ⟨w4.heap.size, 0, none⟩) 1 1) [⟨.slice xK key.length xk, .slice xV val.length xv, ⟨key, ck, val, pg, ct⟩⟩] rfl hfive (by simpa [flatC] using hone) (by have := HL9.out; simp only [List.length_singleton]; omega) (Nat.zero_le _) ?_; intro v5 w5 ho5 hg5 hk5)
        | fail)
      rw [HK.out] at hS5
      have hS6 := (hS5.sw [_, _, _, _, _]).appC ho5 hg5 (by rcases hk5 with e | e; exact .inl e; exact .inr ⟨_, e, Nat.le_refl _⟩)
      have hS8 := Sep.snocC' (y := ⟨.slice xK key.length xk, .slice xV val.length xv, ⟨key, ck, val, pg, ct⟩⟩) (L := L) (E := E) (Sep.pick (L := [_, _, _, _, _, _]) [3, 0, 4, 5] (by decide) rfl hS6)
      have HS8 := Lib.hid (HB.out _ _ hS8)
      have hM2 : pcs (m ++ [(⟨.slice xK key.length xk, .slice xV val.length xv, ⟨key, ck, val, pg, ct⟩⟩ : CV)]) = s.l.take (k + 1) := by rw [HTK.out, ← HX.out, pcs_append, HM.out]; rfl
      have HM2 := Lib.hid hM2
      clear hS4 hS5 hS6 hS8 hown2 hfive hone ho5 hg5 hk5 y0 y1 y2 y3 y4 hM2
      go_wp2_with fail
      go_roundw
      case rel => exact ⟨k + 1, _, by omega, by go_num, HM2, Lib.hid (by rw [List.length_append, HK.out]; rfl), fun y hy => by rcases List.mem_append.1 hy with hy | hy; exact hR y hy; obtain rfl := List.mem_singleton.1 hy; exact ⟨hr1, hr2, hr3⟩, HS8.out⟩
      case measure => simp [intOf]; omega
    · obtain rfl : k = n := by omega
      have hM : pcs m = s.l := by rw [HM.out, List.take_of_length_le (by rw [HN.out]; exact Nat.le_refl _)]
      have hS9 : NdP1 w0 wr (csE (.slice B m.length cc) m :: L) p P kind s := B0 _ _ ((Sep.pack (D := ownE 43 5 (.slice B m.length cc) m.length (flatC m) :: cellsE m) (L := E0 :: L) (hS1.perm (List.perm_middle (l₁ := ownE 43 5 (.slice B m.length cc) m.length (flatC m) :: cellsE m)).symm)).sw1)
      have HM9 := Lib.hid hM
      have HS9 := Lib.hid hS9
      clear hM hS hS1 B0 hS9
      go_wp2_with fail
      go_ret
      exact ⟨B, cc, m, by rw [HK.out]; rfl, HM9.out, hR, HS9.out⟩
set_option maxRecDepth 100000 in
set_option maxHeartbeats 8000000 in
theorem NdCells_2 {w0 w : World} {L : List Ent} {p P : Nat} {kind : Int} {s : KP} (hS : NdP2 w0 w L p P kind s) (hI : NdI2 kind P s) (hP : P ≤ 65536) :
    Calls Tryz.prog 10 #[ndV2 p] w fun e w' => ∃ A c m, e = .returned (.slice A m.length c) ∧ pcs m = s.l ∧ RngC m ∧ NdP2 w0 w' (csE (.slice A m.length c) m :: L) p P kind s := by
  have i1 := im2_len
  have i2 := im2_cell
  have hln := hI.len hP
  have hl := NdLen2 hS
  obtain ⟨n, hn⟩ : ∃ n, s.l.length = n := ⟨_, rfl⟩
  rw [hn] at hl hln
  have HN := Lib.hid hn
  have hS0 : NdP2 w0 w (ownE 43 5 (.slice none 0 0) 0 [] :: (cellsE [] ++ L)) p P kind s := by
    obtain ⟨E, h1, B⟩ := NdP2.sep hS
    exact B _ _ (h1.nilC.sw1)
  clear hS hn
  go_enter Tryz.func10, Tryz.ntmps10
  go_upto_region 5 with (first
    | (go_at_call 221; (with_reducible refine hl.mono ?_); rintro e w1 ⟨rfl, rfl⟩)
    | fail)
  clear hl
  go_loopw [3, 11] (fun cv i wr => ∃ (k : Nat) (m : List CV), k ≤ n ∧ i = .int .i64 (k : Int) ∧ Hid (pcs m = s.l.take k) ∧ Hid (m.length = k) ∧ RngC m ∧ NdP2 w0 wr (ownE 43 5 cv m.length (flatC m) :: (cellsE m ++ L)) p P kind s) (fun _ i _ => n - (intOf i).toNat)
  case atStart => exact ⟨0, [], Nat.zero_le _, rfl, Lib.hid (by simp [pcs]), Lib.hid rfl, by simp [RngC], hS0⟩
  case round =>
    clear hS0
    obtain ⟨k, m, hk, rfl, HM, HK, hR, hS⟩ := hrel
    obtain ⟨E0, hS1, B0⟩ := NdP2.sep hS
    obtain ⟨B, cc, rfl⟩ := Own.slice (show Own wr 0 43 5 _ m.length (flatC m) from hS1.tail.head)
    rw [HK.out]
    by_cases hlt : k < n
    · have ik : (k : Int) < (n : Int) := by omega
      have hkl : k < s.l.length := by rw [HN.out]; exact hlt
      have hc := NdCel2 hS hI hP (k : Int) (by unfold i64r; omega)
      rw [cellZ_in hkl, cellC_in hkl] at hc
      have htk : s.l.take (k + 1) = s.l.take k ++ [s.l[k]] := List.take_succ_eq_append_getElem hkl
      have HTK := Lib.hid htk
      clear hS hS1 B0 htk
      go_wp2_with fail
      refine hc.mono ?_
      rintro e w2 ⟨x, rfl, hx, hr, hS2⟩
      obtain ⟨E, hS3, BB⟩ := NdP2.sep hS2
      have HB := Lib.hid BB
      have HX := Lib.hid hx
      rw [← hx] at hr
      obtain ⟨hr1, hr2, hr3⟩ := hr
      obtain ⟨kv, vv, key, ck, val, pg, ct⟩ := x
      simp only at hr1 hr2 hr3 hS3 HX
      have hkO := (show OwB w2 0 kv key from hS3.tail.head)
      have hvO := (show OwB w2 0 vv val from hS3.tail.tail.head)
      obtain ⟨xK, xk, rfl⟩ := Own.slice hkO
      obtain ⟨xV, xv, rfl⟩ := Own.slice hvO
      have hone := cells_one (x := ⟨.slice xK key.length xk, .slice xV val.length xv, ⟨key, ck, val, pg, ct⟩⟩) hkO hvO
      have hS4 := hS3.alloc 43 [.slice xK key.length xk, .int .i64 ck, .slice xV val.length xv, .int .i64 pg, .int .i64 ct]
      clear hc hkO hvO hS2 hS3 BB hx
      unfold cellV
      go_upto_region 8 with (fail)
      generalize hW4 : w2.alloc (.cells #[.slice xK key.length xk, .int .i64 ck, .slice xV val.length xv, .int .i64 pg, .int .i64 ct] 43) = w4 at *
      generalize w2.heap.size = cb at *
      clear hW4
      obtain ⟨y0, y1, y2, y3, y4⟩ := cells5 hS4.blk
      have hS5 := hS4.alloc 43 [.slice xK key.length xk, .int .i64 ck, .slice xV val.length xv, .int .i64 pg, .int .i64 ct]
      have hown2 := (show Own _ 0 43 5 (.slice B m.length cc) m.length (flatC m) from hS5.tail.tail.tail.tail.tail.head)
      have hfive := Rd.five w4 (.slice xK key.length xk) (.int .i64 ck) (.slice xV val.length xv) (.int .i64 pg) (.int .i64 ct) 43
      have hl9 : m.length + 1 ≤ 65536 := by rw [HK.out]; omega
      have HL9 := Lib.hid hl9
      rw [HK.out] at hown2
      clear hl9
      go_upto_region 9 with (first
        | (at_builtin; refine wp_append_C rfl (.tmp 20) (.tmp 22) rfl 0 (.slice B k cc) m rfl (by rw [HK.out]; exact hown2) (.slice (some ⟨w4.heap.size, 0, none⟩) 1 1) [⟨.slice xK key.length xk, .slice xV val.length xv, ⟨key, ck, val, pg, ct⟩⟩] rfl hfive (by simpa [flatC] using hone) (by have := HL9.out; simp only [List.length_singleton]; omega) (Nat.zero_le _) ?_; intro v5 w5 ho5 hg5 hk5)
        | fail)
      rw [HK.out] at hS5
      have hS6 := (hS5.sw [_, _, _, _, _]).appC ho5 hg5 (by rcases hk5 with e | e; exact .inl e; exact .inr ⟨_, e, Nat.le_refl _⟩)
      have hS8 := Sep.snocC' (y := ⟨.slice xK key.length xk, .slice xV val.length xv, ⟨key, ck, val, pg, ct⟩⟩) (L := L) (E := E) (Sep.pick (L := [_, _, _, _, _, _]) [3, 0, 4, 5] (by decide) rfl hS6)
      have HS8 := Lib.hid (HB.out _ _ hS8)
      have hM2 : pcs (m ++ [(⟨.slice xK key.length xk, .slice xV val.length xv, ⟨key, ck, val, pg, ct⟩⟩ : CV)]) = s.l.take (k + 1) := by rw [HTK.out, ← HX.out, pcs_append, HM.out]; rfl
      have HM2 := Lib.hid hM2
      clear hS4 hS5 hS6 hS8 hown2 hfive hone ho5 hg5 hk5 y0 y1 y2 y3 y4 hM2
      go_wp2_with fail
      go_roundw
      case rel => exact ⟨k + 1, _, by omega, by go_num, HM2, Lib.hid (by rw [List.length_append, HK.out]; rfl), fun y hy => by rcases List.mem_append.1 hy with hy | hy; exact hR y hy; obtain rfl := List.mem_singleton.1 hy; exact ⟨hr1, hr2, hr3⟩, HS8.out⟩
      case measure => simp [intOf]; omega
    · obtain rfl : k = n := by omega
      have hM : pcs m = s.l := by rw [HM.out, List.take_of_length_le (by rw [HN.out]; exact Nat.le_refl _)]
      have hS9 : NdP2 w0 wr (csE (.slice B m.length cc) m :: L) p P kind s := B0 _ _ ((Sep.pack (D := ownE 43 5 (.slice B m.length cc) m.length (flatC m) :: cellsE m) (L := E0 :: L) (hS1.perm (List.perm_middle (l₁ := ownE 43 5 (.slice B m.length cc) m.length (flatC m) :: cellsE m)).symm)).sw1)
      have HM9 := Lib.hid hM
      have HS9 := Lib.hid hS9
      clear hM hS hS1 B0 hS9
      go_wp2_with fail
      go_ret
      exact ⟨B, cc, m, by rw [HK.out]; rfl, HM9.out, hR, HS9.out⟩
end Go.Proofs.YtfcnkpofcekmgaaGreat

-- espalierref08.Cells, espalierlaw08.alike: walks, for either engine.
namespace Go.Proofs.YtfcnkpofcekmgaaGreat
open Go.RowKit
set_option maxRecDepth 100000 in
set_option maxHeartbeats 8000000 in
theorem RnCells_1 {w0 w : World} {L : List Ent} {x P : Nat} {kind : Int} {s : KP} (hS : RnP1 w0 w L x P kind s) (hI : NdI1 kind P s) (hP : P ≤ 65536) :
    Calls Tryz.prog 54 #[.pointer (some ⟨x, 0, none⟩)] w fun e w' => ∃ A c m, e = .returned (.slice A m.length c) ∧ pcs m = s.l ∧ RngC m ∧ RnP1 w0 w' (csE (.slice A m.length c) m :: L) x P kind s := by
  have hln := hI.len hP
  obtain ⟨n, hn⟩ : ∃ n, s.l.length = n := ⟨_, rfl⟩
  rw [hn] at hln
  have HN := Lib.hid hn
  have hS0 : RnP1 w0 w (ownE 43 5 (.slice none 0 0) 0 [] :: (cellsE [] ++ L)) x P kind s := by
    obtain ⟨E, h1, B⟩ := RnP1.sep hS
    exact B _ _ (h1.nilC.sw1)
  clear hS hn
  go_enter Tryz.func54, Tryz.ntmps54
  go_upto_region 5 with (fail)
  go_loopw [3, 4] (fun cv i wr => ∃ (k : Nat) (m : List CV), k ≤ n ∧ i = .int .i64 (k : Int) ∧ Hid (pcs m = s.l.take k) ∧ Hid (m.length = k) ∧ RngC m ∧ RnP1 w0 wr (ownE 43 5 cv m.length (flatC m) :: (cellsE m ++ L)) x P kind s) (fun _ i _ => n - (intOf i).toNat)
  case atStart => exact ⟨0, [], Nat.zero_le _, rfl, Lib.hid (by simp [pcs]), Lib.hid rfl, by simp [RngC], hS0⟩
  case round =>
    clear hS0
    obtain ⟨k, m, hk, rfl, HM, HK, hR, hS⟩ := hrel
    have hl := RnLen1 hS
    rw [HN.out] at hl
    obtain ⟨E0, hS1, B0⟩ := RnP1.sep hS
    obtain ⟨B, cc, rfl⟩ := Own.slice (show Own wr 0 43 5 _ m.length (flatC m) from hS1.tail.head)
    rw [HK.out]
    by_cases hlt : k < n
    · have ik : (k : Int) < (n : Int) := by omega
      have hkl : k < s.l.length := by rw [HN.out]; exact hlt
      have hc := RnCel1 hS hI hP (k : Int) (by unfold i64r; omega)
      rw [cellZ_in hkl, cellC_in hkl] at hc
      have htk : s.l.take (k + 1) = s.l.take k ++ [s.l[k]] := List.take_succ_eq_append_getElem hkl
      have HTK := Lib.hid htk
      clear hS hS1 B0 htk
      go_upto_region 7 with (first
        | (go_at_call 56; (with_reducible refine hl.mono ?_); rintro e w1 ⟨rfl, rfl⟩)
        | fail)
      clear hl
      go_wp2_with fail
      refine hc.mono ?_
      rintro e w2 ⟨y, rfl, hx, hr, hS2⟩
      obtain ⟨E, hS3, BB⟩ := RnP1.sep hS2
      have HB := Lib.hid BB
      have HX := Lib.hid hx
      rw [← hx] at hr
      obtain ⟨hr1, hr2, hr3⟩ := hr
      obtain ⟨kv, vv, key, ck, val, pg, ct⟩ := y
      simp only at hr1 hr2 hr3 hS3 HX
      have hkO := (show OwB w2 0 kv key from hS3.tail.head)
      have hvO := (show OwB w2 0 vv val from hS3.tail.tail.head)
      obtain ⟨xK, xk, rfl⟩ := Own.slice hkO
      obtain ⟨xV, xv, rfl⟩ := Own.slice hvO
      have hone := cells_one (x := ⟨.slice xK key.length xk, .slice xV val.length xv, ⟨key, ck, val, pg, ct⟩⟩) hkO hvO
      have hS4 := hS3.alloc 43 [.slice xK key.length xk, .int .i64 ck, .slice xV val.length xv, .int .i64 pg, .int .i64 ct]
      clear hc hkO hvO hS2 hS3 BB hx
      unfold cellV
      go_upto_region 8 with (fail)
      generalize hW4 : w2.alloc (.cells #[.slice xK key.length xk, .int .i64 ck, .slice xV val.length xv, .int .i64 pg, .int .i64 ct] 43) = w4 at *
      generalize w2.heap.size = cb at *
      clear hW4
      obtain ⟨y0, y1, y2, y3, y4⟩ := cells5 hS4.blk
      have hS5 := hS4.alloc 43 [.slice xK key.length xk, .int .i64 ck, .slice xV val.length xv, .int .i64 pg, .int .i64 ct]
      have hown2 := (show Own _ 0 43 5 (.slice B m.length cc) m.length (flatC m) from hS5.tail.tail.tail.tail.tail.head)
      have hfive := Rd.five w4 (.slice xK key.length xk) (.int .i64 ck) (.slice xV val.length xv) (.int .i64 pg) (.int .i64 ct) 43
      have hl9 : m.length + 1 ≤ 65536 := by rw [HK.out]; omega
      have HL9 := Lib.hid hl9
      rw [HK.out] at hown2
      clear hl9
      go_upto_region 6 with (first
        | (at_builtin; refine wp_append_C rfl (.tmp 21) (.tmp 23) rfl 0 (.slice B k cc) m rfl (by rw [HK.out]; exact hown2) (.slice (some ⟨w4.heap.size, 0, none⟩) 1 1) [⟨.slice xK key.length xk, .slice xV val.length xv, ⟨key, ck, val, pg, ct⟩⟩] rfl hfive (by simpa [flatC] using hone) (by have := HL9.out; simp only [List.length_singleton]; omega) (Nat.zero_le _) ?_; intro v5 w5 ho5 hg5 hk5)
        | fail)
      rw [HK.out] at hS5
      have hS6 := (hS5.sw [_, _, _, _, _]).appC ho5 hg5 (by rcases hk5 with e | e; exact .inl e; exact .inr ⟨_, e, Nat.le_refl _⟩)
      have hS8 := Sep.snocC' (y := ⟨.slice xK key.length xk, .slice xV val.length xv, ⟨key, ck, val, pg, ct⟩⟩) (L := L) (E := E) (Sep.pick (L := [_, _, _, _, _, _]) [3, 0, 4, 5] (by decide) rfl hS6)
      have HS8 := Lib.hid (HB.out _ _ hS8)
      have hM2 : pcs (m ++ [(⟨.slice xK key.length xk, .slice xV val.length xv, ⟨key, ck, val, pg, ct⟩⟩ : CV)]) = s.l.take (k + 1) := by rw [HTK.out, ← HX.out, pcs_append, HM.out]; rfl
      have HM2 := Lib.hid hM2
      clear hS4 hS5 hS6 hS8 hown2 hfive hone ho5 hg5 hk5 y0 y1 y2 y3 y4 hM2
      go_wp2_with fail
      go_roundw
      case rel => exact ⟨k + 1, _, by omega, by go_num, HM2, Lib.hid (by rw [List.length_append, HK.out]; rfl), fun y hy => by rcases List.mem_append.1 hy with hy | hy; exact hR y hy; obtain rfl := List.mem_singleton.1 hy; exact ⟨hr1, hr2, hr3⟩, HS8.out⟩
      case measure => simp [intOf]; omega
    · obtain rfl : k = n := by omega
      have hM : pcs m = s.l := by rw [HM.out, List.take_of_length_le (by rw [HN.out]; exact Nat.le_refl _)]
      have hS9 : RnP1 w0 wr (csE (.slice B m.length cc) m :: L) x P kind s := B0 _ _ ((Sep.pack (D := ownE 43 5 (.slice B m.length cc) m.length (flatC m) :: cellsE m) (L := E0 :: L) (hS1.perm (List.perm_middle (l₁ := ownE 43 5 (.slice B m.length cc) m.length (flatC m) :: cellsE m)).symm)).sw1)
      have HM9 := Lib.hid hM
      have HS9 := Lib.hid hS9
      clear hM hS hS1 B0 hS9
      go_wp2_with (first
        | (go_at_call 56; (with_reducible refine hl.mono ?_); rintro e w1 ⟨rfl, rfl⟩)
        | fail)
      go_ret
      exact ⟨B, cc, m, by rw [HK.out]; rfl, HM9.out, hR, HS9.out⟩
set_option maxRecDepth 100000 in
set_option maxHeartbeats 8000000 in
theorem RnCells_2 {w0 w : World} {L : List Ent} {x P : Nat} {kind : Int} {s : KP} (hS : RnP2 w0 w L x P kind s) (hI : NdI2 kind P s) (hP : P ≤ 65536) :
    Calls Tryz.prog 54 #[.pointer (some ⟨x, 0, none⟩)] w fun e w' => ∃ A c m, e = .returned (.slice A m.length c) ∧ pcs m = s.l ∧ RngC m ∧ RnP2 w0 w' (csE (.slice A m.length c) m :: L) x P kind s := by
  have hln := hI.len hP
  obtain ⟨n, hn⟩ : ∃ n, s.l.length = n := ⟨_, rfl⟩
  rw [hn] at hln
  have HN := Lib.hid hn
  have hS0 : RnP2 w0 w (ownE 43 5 (.slice none 0 0) 0 [] :: (cellsE [] ++ L)) x P kind s := by
    obtain ⟨E, h1, B⟩ := RnP2.sep hS
    exact B _ _ (h1.nilC.sw1)
  clear hS hn
  go_enter Tryz.func54, Tryz.ntmps54
  go_upto_region 5 with (fail)
  go_loopw [3, 4] (fun cv i wr => ∃ (k : Nat) (m : List CV), k ≤ n ∧ i = .int .i64 (k : Int) ∧ Hid (pcs m = s.l.take k) ∧ Hid (m.length = k) ∧ RngC m ∧ RnP2 w0 wr (ownE 43 5 cv m.length (flatC m) :: (cellsE m ++ L)) x P kind s) (fun _ i _ => n - (intOf i).toNat)
  case atStart => exact ⟨0, [], Nat.zero_le _, rfl, Lib.hid (by simp [pcs]), Lib.hid rfl, by simp [RngC], hS0⟩
  case round =>
    clear hS0
    obtain ⟨k, m, hk, rfl, HM, HK, hR, hS⟩ := hrel
    have hl := RnLen2 hS
    rw [HN.out] at hl
    obtain ⟨E0, hS1, B0⟩ := RnP2.sep hS
    obtain ⟨B, cc, rfl⟩ := Own.slice (show Own wr 0 43 5 _ m.length (flatC m) from hS1.tail.head)
    rw [HK.out]
    by_cases hlt : k < n
    · have ik : (k : Int) < (n : Int) := by omega
      have hkl : k < s.l.length := by rw [HN.out]; exact hlt
      have hc := RnCel2 hS hI hP (k : Int) (by unfold i64r; omega)
      rw [cellZ_in hkl, cellC_in hkl] at hc
      have htk : s.l.take (k + 1) = s.l.take k ++ [s.l[k]] := List.take_succ_eq_append_getElem hkl
      have HTK := Lib.hid htk
      clear hS hS1 B0 htk
      go_upto_region 7 with (first
        | (go_at_call 56; (with_reducible refine hl.mono ?_); rintro e w1 ⟨rfl, rfl⟩)
        | fail)
      clear hl
      go_wp2_with fail
      refine hc.mono ?_
      rintro e w2 ⟨y, rfl, hx, hr, hS2⟩
      obtain ⟨E, hS3, BB⟩ := RnP2.sep hS2
      have HB := Lib.hid BB
      have HX := Lib.hid hx
      rw [← hx] at hr
      obtain ⟨hr1, hr2, hr3⟩ := hr
      obtain ⟨kv, vv, key, ck, val, pg, ct⟩ := y
      simp only at hr1 hr2 hr3 hS3 HX
      have hkO := (show OwB w2 0 kv key from hS3.tail.head)
      have hvO := (show OwB w2 0 vv val from hS3.tail.tail.head)
      obtain ⟨xK, xk, rfl⟩ := Own.slice hkO
      obtain ⟨xV, xv, rfl⟩ := Own.slice hvO
      have hone := cells_one (x := ⟨.slice xK key.length xk, .slice xV val.length xv, ⟨key, ck, val, pg, ct⟩⟩) hkO hvO
      have hS4 := hS3.alloc 43 [.slice xK key.length xk, .int .i64 ck, .slice xV val.length xv, .int .i64 pg, .int .i64 ct]
      clear hc hkO hvO hS2 hS3 BB hx
      unfold cellV
      go_upto_region 8 with (fail)
      generalize hW4 : w2.alloc (.cells #[.slice xK key.length xk, .int .i64 ck, .slice xV val.length xv, .int .i64 pg, .int .i64 ct] 43) = w4 at *
      generalize w2.heap.size = cb at *
      clear hW4
      obtain ⟨y0, y1, y2, y3, y4⟩ := cells5 hS4.blk
      have hS5 := hS4.alloc 43 [.slice xK key.length xk, .int .i64 ck, .slice xV val.length xv, .int .i64 pg, .int .i64 ct]
      have hown2 := (show Own _ 0 43 5 (.slice B m.length cc) m.length (flatC m) from hS5.tail.tail.tail.tail.tail.head)
      have hfive := Rd.five w4 (.slice xK key.length xk) (.int .i64 ck) (.slice xV val.length xv) (.int .i64 pg) (.int .i64 ct) 43
      have hl9 : m.length + 1 ≤ 65536 := by rw [HK.out]; omega
      have HL9 := Lib.hid hl9
      rw [HK.out] at hown2
      clear hl9
      go_upto_region 6 with (first
        | (at_builtin; refine wp_append_C rfl (.tmp 21) (.tmp 23) rfl 0 (.slice B k cc) m rfl (by rw [HK.out]; exact hown2) (.slice (some ⟨w4.heap.size, 0, none⟩) 1 1) [⟨.slice xK key.length xk, .slice xV val.length xv, ⟨key, ck, val, pg, ct⟩⟩] rfl hfive (by simpa [flatC] using hone) (by have := HL9.out; simp only [List.length_singleton]; omega) (Nat.zero_le _) ?_; intro v5 w5 ho5 hg5 hk5)
        | fail)
      rw [HK.out] at hS5
      have hS6 := (hS5.sw [_, _, _, _, _]).appC ho5 hg5 (by rcases hk5 with e | e; exact .inl e; exact .inr ⟨_, e, Nat.le_refl _⟩)
      have hS8 := Sep.snocC' (y := ⟨.slice xK key.length xk, .slice xV val.length xv, ⟨key, ck, val, pg, ct⟩⟩) (L := L) (E := E) (Sep.pick (L := [_, _, _, _, _, _]) [3, 0, 4, 5] (by decide) rfl hS6)
      have HS8 := Lib.hid (HB.out _ _ hS8)
      have hM2 : pcs (m ++ [(⟨.slice xK key.length xk, .slice xV val.length xv, ⟨key, ck, val, pg, ct⟩⟩ : CV)]) = s.l.take (k + 1) := by rw [HTK.out, ← HX.out, pcs_append, HM.out]; rfl
      have HM2 := Lib.hid hM2
      clear hS4 hS5 hS6 hS8 hown2 hfive hone ho5 hg5 hk5 y0 y1 y2 y3 y4 hM2
      go_wp2_with fail
      go_roundw
      case rel => exact ⟨k + 1, _, by omega, by go_num, HM2, Lib.hid (by rw [List.length_append, HK.out]; rfl), fun y hy => by rcases List.mem_append.1 hy with hy | hy; exact hR y hy; obtain rfl := List.mem_singleton.1 hy; exact ⟨hr1, hr2, hr3⟩, HS8.out⟩
      case measure => simp [intOf]; omega
    · obtain rfl : k = n := by omega
      have hM : pcs m = s.l := by rw [HM.out, List.take_of_length_le (by rw [HN.out]; exact Nat.le_refl _)]
      have hS9 : RnP2 w0 wr (csE (.slice B m.length cc) m :: L) x P kind s := B0 _ _ ((Sep.pack (D := ownE 43 5 (.slice B m.length cc) m.length (flatC m) :: cellsE m) (L := E0 :: L) (hS1.perm (List.perm_middle (l₁ := ownE 43 5 (.slice B m.length cc) m.length (flatC m) :: cellsE m)).symm)).sw1)
      have HM9 := Lib.hid hM
      have HS9 := Lib.hid hS9
      clear hM hS hS1 B0 hS9
      go_wp2_with (first
        | (go_at_call 56; (with_reducible refine hl.mono ?_); rintro e w1 ⟨rfl, rfl⟩)
        | fail)
      go_ret
      exact ⟨B, cc, m, by rw [HK.out]; rfl, HM9.out, hR, HS9.out⟩
end Go.Proofs.YtfcnkpofcekmgaaGreat

-- espalierlaw08.alike: the walk, for either engine.
namespace Go.Proofs.YtfcnkpofcekmgaaGreat
open Go.RowKit
set_option maxRecDepth 100000 in
set_option maxHeartbeats 8000000 in
theorem alike_1 {w0 w : World} {L : List Ent} {E R : Ent} {p x P bb : Nat} {kind : Int} {s : KP} {bv lv : Value} {xs : List (Value × List UInt8)} {ls : List (Value × Nat)}
    (hS : Sep w0 w (E :: R :: bookTE 40 bb [lv] bv xs :: listsE lv ls :: L)) (HE : Hid (∀ (W : World) (M : List Ent), Sep w0 W (E :: M) → NdP1 w0 W M p P kind s)) (HR : Hid (∀ (W : World) (M : List Ent), Sep w0 W (R :: M) → RnP1 w0 W M x P kind s))
    (hI : NdI1 kind P s) (hP : P ≤ 65536) (hxs : xs.length ≤ 7000000) (hls : ls.length ≤ 999999) :
    Calls Tryz.prog 15 #[ndV1 p, .pointer (some ⟨x, 0, none⟩), .pointer (some ⟨bb, 0, none⟩)] w fun e w' => e = .returned (.bool true) ∧ ∃ (E' R' : Ent) (bv' lv' u : Value) (m : List CV), pcs m = s.l ∧
      Sep w0 w' (E' :: R' :: bookTE 40 bb [lv'] bv' (xs ++ pairsC m) :: listsE lv' (ls ++ [(u, m.length)]) :: L) ∧
      Hid (∀ (W : World) (M : List Ent), Sep w0 W (E' :: M) → NdP1 w0 W M p P kind s) ∧ Hid (∀ (W : World) (M : List Ent), Sep w0 W (R' :: M) → RnP1 w0 W M x P kind s) := by
  have i1 := im1_kind
  have i2 := im1_len
  have i3 := im1_used
  have hln := hI.len hP
  have hc := NdCells_1 (HE.out _ _ hS) hI hP
  go_enter Tryz.func15, Tryz.ntmps15
  go_upto_region 2 with (first
    | (go_at_call 10; (with_reducible refine hc.mono ?_); rintro e w1 ⟨A1, c1, m1, rfl, hm1, hr1, hN⟩)
    | fail)
  obtain ⟨E1, hS1, B1⟩ := NdP1.sep hN
  have hc2 := NdCells_1 (B1 _ _ hS1) hI hP
  have HM1 := Lib.hid hm1
  clear hc hN hS hS1 B1 hm1
  go_upto_region 3 with (first
    | (go_at_call 10; (with_reducible refine hc2.mono ?_); rintro e w2 ⟨A2, c2, m2, rfl, hm2, hr2, hN⟩)
    | fail)
  obtain ⟨E2, hS2, B2⟩ := NdP1.sep hN
  have HE2 := Lib.hid B2
  have HM2 := Lib.hid hm2
  have hc3 := RnCells_1 (HR.out _ _ (hS2.sw [_, _, _])) hI hP
  clear hc2 hN hS2 B2 hm2
  go_upto_region 4 with (first
    | (go_at_call 54; (with_reducible refine hc3.mono ?_); rintro e w3 ⟨A3, c3, m3, rfl, hm3, hr3, hN⟩)
    | fail)
  obtain ⟨R3, hS3, B3⟩ := RnP1.sep hN
  have HR3 := Lib.hid B3
  have HM3 := Lib.hid hm3
  have hl1 : m1.length ≤ 32768 := by rw [← pcs_length, HM1.out]; exact hln
  clear hc3 hN B3 hm3
  have hs1 := SameCells_eq _ _ m1 m3 w3 (csE_rd (hS3.of_mem (E := csE (.slice A1 m1.length c1) m1) (by simp)) hr1) (csE_rd (hS3.of_mem (E := csE (.slice A3 m3.length c3) m3) (by simp)) hr3) (HM1.out.trans HM3.out.symm)
  go_upto_region 5 with (first
    | (go_at_call 20; (with_reducible refine hs1.mono ?_); rintro e w4 ⟨rfl, hw4⟩)
    | fail)
  have hS4 := Sep.pick (L := [_, _, _, _, _, _, _]) [5, 6, 4, 0, 2, 3, 1] (by decide) rfl (hS3.below hw4)
  have hT := TakeAllC_sep hS4 (by omega) (by omega)
  clear hs1 hS3 hw4 hS4
  go_upto_region 6 with (first
    | (go_at_call 23; (with_reducible refine hT.mono ?_); rintro e w5 ⟨⟨_, rfl⟩, bv5, lv5, hS5⟩)
    | fail)
  have hs2 := SameCells_eq _ _ m2 m3 w5 (csE_rd (hS5.of_mem (E := csE (.slice A2 m2.length c2) m2) (by simp)) hr2) (csE_rd (hS5.of_mem (E := csE (.slice A3 m3.length c3) m3) (by simp)) hr3) (HM2.out.trans HM3.out.symm)
  clear hT
  go_upto_region 7 with (first
    | (go_at_call 20; (with_reducible refine hs2.mono ?_); rintro e w6 ⟨rfl, hw6⟩)
    | fail)
  have hS6 : Sep w0 w6 (E2 :: R3 :: bookTE 40 bb [lv5] bv5 (xs ++ pairsC m1) :: listsE lv5 (ls ++ [(.slice A1 m1.length c1, m1.length)]) :: L) := Sep.pick (L := [_, _, _, _, _, _]) [3, 2, 0, 1] (by decide) rfl (hS5.below hw6)
  have k1 := NdKin1 (HE2.out _ _ hS6)
  have k2 := NdLen1 (HE2.out _ _ hS6)
  have k3 := NdUsd1 (HE2.out _ _ hS6)
  have k4 := RnKin1 (HR3.out _ _ hS6.sw1)
  have k5 := RnLen1 (HR3.out _ _ hS6.sw1)
  have k6 := RnUsd1 (HR3.out _ _ hS6.sw1) hI hP
  have HS6 := Lib.hid hS6
  generalize usd1 kind s = z at *
  obtain ⟨n, hn⟩ : ∃ n, s.l.length = n := ⟨_, rfl⟩
  rw [hn] at k2 k5
  clear hs2 hS5 hw6 hS6 hn hln
  go_wp2_with (first
    | (go_at_call 202; (with_reducible refine k1.mono ?_); rintro e w7 ⟨rfl, rfl⟩)
    | (go_at_call 55; (with_reducible refine k4.mono ?_); rintro e w7 ⟨rfl, rfl⟩)
    | (go_at_call 203; (with_reducible refine k2.mono ?_); rintro e w7 ⟨rfl, rfl⟩)
    | (go_at_call 56; (with_reducible refine k5.mono ?_); rintro e w7 ⟨rfl, rfl⟩)
    | (go_at_call 206; (with_reducible refine k3.mono ?_); rintro e w7 ⟨rfl, rfl⟩)
    | (go_at_call 57; (with_reducible refine k6.mono ?_); rintro e w9 ⟨rfl, hw9⟩)
    | fail)
  go_ret
  exact ⟨rfl, E2, R3, bv5, lv5, _, m1, HM1.out, HS6.out.below hw9, HE2, HR3⟩
set_option maxRecDepth 100000 in
set_option maxHeartbeats 8000000 in
theorem alike_2 {w0 w : World} {L : List Ent} {E R : Ent} {p x P bb : Nat} {kind : Int} {s : KP} {bv lv : Value} {xs : List (Value × List UInt8)} {ls : List (Value × Nat)}
    (hS : Sep w0 w (E :: R :: bookTE 40 bb [lv] bv xs :: listsE lv ls :: L)) (HE : Hid (∀ (W : World) (M : List Ent), Sep w0 W (E :: M) → NdP2 w0 W M p P kind s)) (HR : Hid (∀ (W : World) (M : List Ent), Sep w0 W (R :: M) → RnP2 w0 W M x P kind s))
    (hI : NdI2 kind P s) (hP : P ≤ 65536) (hxs : xs.length ≤ 7000000) (hls : ls.length ≤ 999999) :
    Calls Tryz.prog 15 #[ndV2 p, .pointer (some ⟨x, 0, none⟩), .pointer (some ⟨bb, 0, none⟩)] w fun e w' => e = .returned (.bool true) ∧ ∃ (E' R' : Ent) (bv' lv' u : Value) (m : List CV), pcs m = s.l ∧
      Sep w0 w' (E' :: R' :: bookTE 40 bb [lv'] bv' (xs ++ pairsC m) :: listsE lv' (ls ++ [(u, m.length)]) :: L) ∧
      Hid (∀ (W : World) (M : List Ent), Sep w0 W (E' :: M) → NdP2 w0 W M p P kind s) ∧ Hid (∀ (W : World) (M : List Ent), Sep w0 W (R' :: M) → RnP2 w0 W M x P kind s) := by
  have i1 := im2_kind
  have i2 := im2_len
  have i3 := im2_used
  have hln := hI.len hP
  have hc := NdCells_2 (HE.out _ _ hS) hI hP
  go_enter Tryz.func15, Tryz.ntmps15
  go_upto_region 2 with (first
    | (go_at_call 10; (with_reducible refine hc.mono ?_); rintro e w1 ⟨A1, c1, m1, rfl, hm1, hr1, hN⟩)
    | fail)
  obtain ⟨E1, hS1, B1⟩ := NdP2.sep hN
  have hc2 := NdCells_2 (B1 _ _ hS1) hI hP
  have HM1 := Lib.hid hm1
  clear hc hN hS hS1 B1 hm1
  go_upto_region 3 with (first
    | (go_at_call 10; (with_reducible refine hc2.mono ?_); rintro e w2 ⟨A2, c2, m2, rfl, hm2, hr2, hN⟩)
    | fail)
  obtain ⟨E2, hS2, B2⟩ := NdP2.sep hN
  have HE2 := Lib.hid B2
  have HM2 := Lib.hid hm2
  have hc3 := RnCells_2 (HR.out _ _ (hS2.sw [_, _, _])) hI hP
  clear hc2 hN hS2 B2 hm2
  go_upto_region 4 with (first
    | (go_at_call 54; (with_reducible refine hc3.mono ?_); rintro e w3 ⟨A3, c3, m3, rfl, hm3, hr3, hN⟩)
    | fail)
  obtain ⟨R3, hS3, B3⟩ := RnP2.sep hN
  have HR3 := Lib.hid B3
  have HM3 := Lib.hid hm3
  have hl1 : m1.length ≤ 32768 := by rw [← pcs_length, HM1.out]; exact hln
  clear hc3 hN B3 hm3
  have hs1 := SameCells_eq _ _ m1 m3 w3 (csE_rd (hS3.of_mem (E := csE (.slice A1 m1.length c1) m1) (by simp)) hr1) (csE_rd (hS3.of_mem (E := csE (.slice A3 m3.length c3) m3) (by simp)) hr3) (HM1.out.trans HM3.out.symm)
  go_upto_region 5 with (first
    | (go_at_call 20; (with_reducible refine hs1.mono ?_); rintro e w4 ⟨rfl, hw4⟩)
    | fail)
  have hS4 := Sep.pick (L := [_, _, _, _, _, _, _]) [5, 6, 4, 0, 2, 3, 1] (by decide) rfl (hS3.below hw4)
  have hT := TakeAllC_sep hS4 (by omega) (by omega)
  clear hs1 hS3 hw4 hS4
  go_upto_region 6 with (first
    | (go_at_call 23; (with_reducible refine hT.mono ?_); rintro e w5 ⟨⟨_, rfl⟩, bv5, lv5, hS5⟩)
    | fail)
  have hs2 := SameCells_eq _ _ m2 m3 w5 (csE_rd (hS5.of_mem (E := csE (.slice A2 m2.length c2) m2) (by simp)) hr2) (csE_rd (hS5.of_mem (E := csE (.slice A3 m3.length c3) m3) (by simp)) hr3) (HM2.out.trans HM3.out.symm)
  clear hT
  go_upto_region 7 with (first
    | (go_at_call 20; (with_reducible refine hs2.mono ?_); rintro e w6 ⟨rfl, hw6⟩)
    | fail)
  have hS6 : Sep w0 w6 (E2 :: R3 :: bookTE 40 bb [lv5] bv5 (xs ++ pairsC m1) :: listsE lv5 (ls ++ [(.slice A1 m1.length c1, m1.length)]) :: L) := Sep.pick (L := [_, _, _, _, _, _]) [3, 2, 0, 1] (by decide) rfl (hS5.below hw6)
  have k1 := NdKin2 (HE2.out _ _ hS6)
  have k2 := NdLen2 (HE2.out _ _ hS6)
  have k3 := NdUsd2 (HE2.out _ _ hS6)
  have k4 := RnKin2 (HR3.out _ _ hS6.sw1)
  have k5 := RnLen2 (HR3.out _ _ hS6.sw1)
  have k6 := RnUsd2 (HR3.out _ _ hS6.sw1) hI hP
  have HS6 := Lib.hid hS6
  generalize usd2 kind s = z at *
  obtain ⟨n, hn⟩ : ∃ n, s.l.length = n := ⟨_, rfl⟩
  rw [hn] at k2 k5
  clear hs2 hS5 hw6 hS6 hn hln
  go_wp2_with (first
    | (go_at_call 220; (with_reducible refine k1.mono ?_); rintro e w7 ⟨rfl, rfl⟩)
    | (go_at_call 55; (with_reducible refine k4.mono ?_); rintro e w7 ⟨rfl, rfl⟩)
    | (go_at_call 221; (with_reducible refine k2.mono ?_); rintro e w7 ⟨rfl, rfl⟩)
    | (go_at_call 56; (with_reducible refine k5.mono ?_); rintro e w7 ⟨rfl, rfl⟩)
    | (go_at_call 224; (with_reducible refine k3.mono ?_); rintro e w7 ⟨rfl, rfl⟩)
    | (go_at_call 57; (with_reducible refine k6.mono ?_); rintro e w9 ⟨rfl, hw9⟩)
    | fail)
  go_ret
  exact ⟨rfl, E2, R3, bv5, lv5, _, m1, HM1.out, HS6.out.below hw9, HE2, HR3⟩
end Go.Proofs.YtfcnkpofcekmgaaGreat

-- packed pages: Decode and Open of both sides, told alike.
namespace Go.Proofs.YtfcnkpofcekmgaaGreat
open Go.RowKit
/-- What is told of bytes. -/
def KDecR (b : List UInt8) (kind : Int) (l : List PC) (z : Int) : Prop := (isPk b kind l ∧ z = 0) ∨ ((∀ k l', ¬ isPk b k l') ∧ kind = 0 ∧ l = [] ∧ z = 60)
theorem isPk_one {b : List UInt8} {kind kind' : Int} {l l' : List PC} (h : isPk b kind l) (h' : isPk b kind' l') : kind' = kind ∧ l' = l := by
  have h1 := isPk_parse h
  have h2 := isPk_parse h'
  rw [h1.1] at h2
  exact ⟨h2.2.1.symm.trans h1.2.1, (Option.some.inj h2.1).symm⟩
theorem KDecR.same {b : List UInt8} {k k' : Int} {l l' : List PC} {e e' : Int} (h : KDecR b k l e) (h' : KDecR b k' l' e') : k = k' ∧ l = l' ∧ e = e' := by
  rcases h with ⟨h1, rfl⟩ | ⟨h1, rfl, rfl, rfl⟩
  · rcases h' with ⟨h2, rfl⟩ | ⟨h2, _⟩
    · obtain ⟨a, b⟩ := isPk_one h2 h1
      exact ⟨a, b, rfl⟩
    · exact absurd h1 (h2 _ _)
  · rcases h' with ⟨h2, _⟩ | ⟨h2, rfl, rfl, rfl⟩
    · exact absurd h2 (h1 _ _)
    · exact ⟨rfl, rfl, rfl⟩
theorem DecK.z {w0 w w' : World} {L : List Ent} {b : List UInt8} {e : Ending} (hS : Sep w0 w L) (h : DecK w b e w') :
    ∃ (kind : Int) (l : List CV) (A : Option Addr) (c : Nat) (z : Int), e = .returned (.tuple #[.int .i64 kind, .slice A l.length c, .int .i64 z]) ∧ KDecR b kind (pcs l) z ∧ RngC l ∧ Sep w0 w' (csE (.slice A l.length c) l :: L) := by
  rcases h with ⟨kind, l, v, hp, rfl, hr, hs⟩ | ⟨hn, rfl, hb⟩
  · have hO : Own w' 0 43 5 v l.length (flatC l) := hs.head.1 _ (List.mem_cons_self ..)
    obtain ⟨A, c, rfl⟩ := Own.slice hO
    exact ⟨kind, l, A, c, 0, rfl, .inl ⟨hp, rfl⟩, hr, Sep.lift1 hs (List.mem_cons_self ..) hS⟩
  · exact ⟨0, [], none, 0, 60, rfl, .inr ⟨hn, rfl, rfl, rfl⟩, by simp [RngC], Sep.pack (D := ownE 43 5 (.slice none 0 0) 0 [] :: cellsE []) (hS.below hb).nilC⟩
theorem KDec_sepZ {w0 w : World} {L : List Ent} {v : Value} {b : List UInt8} (hS : Sep w0 w L) (hv : RdB w v b) :
    Calls Tryz.prog 83 #[v] w fun e w' => ∃ (kind : Int) (l : List CV) (A : Option Addr) (c : Nat) (z : Int), e = .returned (.tuple #[.int .i64 kind, .slice A l.length c, .int .i64 z]) ∧ KDecR b kind (pcs l) z ∧ RngC l ∧ Sep w0 w' (csE (.slice A l.length c) l :: L) :=
  (KDecode_any v b w hv).mono fun _ _ h => h.z hS
theorem RKDec_sepZ {w0 w : World} {L : List Ent} {v : Value} {b : List UInt8} (hS : Sep w0 w L) (hv : RdB w v b) :
    Calls Tryz.prog 61 #[v] w fun e w' => ∃ (kind : Int) (l : List CV) (A : Option Addr) (c : Nat) (z : Int), e = .returned (.tuple #[.int .i64 kind, .slice A l.length c, .int .i64 z]) ∧ KDecR b kind (pcs l) z ∧ RngC l ∧ Sep w0 w' (csE (.slice A l.length c) l :: L) :=
  (RKDecode_any v b w hv).mono fun _ _ h => h.z hS
end Go.Proofs.YtfcnkpofcekmgaaGreat

-- node.Open, Decode and the document's, of any bytes: told alike.
namespace Go.Proofs.YtfcnkpofcekmgaaGreat
open Go.RowKit
/-- Bytes that are no page of any engine. -/
def NoB (b : List UInt8) : Prop := (b.length < 2 ∨ egB b ≠ 1 ∧ egB b ≠ 2) ∨ (2 ≤ b.length ∧ egB b = 1 ∧ ∀ k l, ¬ isPln b k l) ∨ (2 ≤ b.length ∧ egB b = 2 ∧ ∀ k l, ¬ isPk b k l)
theorem b_cases (b : List UInt8) : NoB b ∨ (∃ k l, 2 ≤ b.length ∧ egB b = 1 ∧ isPln b k l) ∨ (∃ k l, 2 ≤ b.length ∧ egB b = 2 ∧ isPk b k l) := by
  by_cases h2 : b.length < 2
  · exact .inl (.inl (.inl h2))
  · by_cases e1 : egB b = 1
    · by_cases h : ∃ k l, isPln b k l
      · obtain ⟨k, l, h⟩ := h
        exact .inr (.inl ⟨k, l, by omega, e1, h⟩)
      · exact .inl (.inr (.inl ⟨by omega, e1, fun k l hh => h ⟨k, l, hh⟩⟩))
    · by_cases e2 : egB b = 2
      · by_cases h : ∃ k l, isPk b k l
        · obtain ⟨k, l, h⟩ := h
          exact .inr (.inr ⟨k, l, by omega, e2, h⟩)
        · exact .inl (.inr (.inr ⟨by omega, e2, fun k l hh => h ⟨k, l, hh⟩⟩))
      · exact .inl (.inl (.inr ⟨e1, e2⟩))
abbrev Dn1 := DecR
abbrev Dn2 := KDecR
def opS1 (_ : Int) (l : List PC) : KP := ⟨l, [], 0⟩
def opS2 (kind : Int) (l : List PC) : KP := tidyP kind l
theorem isPln_one {b : List UInt8} {kind kind' : Int} {l l' : List PC} (h : isPln b kind l) (h' : isPln b kind' l') : kind' = kind ∧ l' = l := by
  obtain ⟨h1, h2, -⟩ := DecR.same (.inl ⟨h', rfl⟩ : DecR b kind' l' 0) (.inl ⟨h, rfl⟩ : DecR b kind l 0)
  exact ⟨h1, h2⟩
section
variable {w0 w : World} {L : List Ent} {v : Value} {b : List UInt8}
theorem csE_slice {w : World} {u : Value} {m : List CV} (h : (csE u m).p w) : ∃ A c, u = .slice A m.length c := Own.slice (show Own w 0 43 5 u m.length (flatC m) from h.1 _ (List.mem_cons_self ..))
theorem DecU1 (hS : Sep w0 w L) (hv : RdB w v b) : Calls Tryz.prog 75 #[v] w fun e w' => ∃ (kind : Int) (l : List CV) (A : Option Addr) (c : Nat) (z : Int), e = .returned (.tuple #[.int .i64 kind, .slice A l.length c, .int .i64 z]) ∧ Dn1 b kind (pcs l) z ∧ RngC l ∧ Sep w0 w' (csE (.slice A l.length c) l :: L) := by
  refine (PDec_sep hS hv).mono ?_
  rintro e w' ⟨kind, l, u, z, rfl, hd, hr, h⟩
  obtain ⟨A, c, rfl⟩ := csE_slice h.head
  exact ⟨kind, l, A, c, z, rfl, hd, hr, h⟩
theorem DecU2 (hS : Sep w0 w L) (hv : RdB w v b) : Calls Tryz.prog 83 #[v] w fun e w' => ∃ (kind : Int) (l : List CV) (A : Option Addr) (c : Nat) (z : Int), e = .returned (.tuple #[.int .i64 kind, .slice A l.length c, .int .i64 z]) ∧ Dn2 b kind (pcs l) z ∧ RngC l ∧ Sep w0 w' (csE (.slice A l.length c) l :: L) := KDec_sepZ hS hv
theorem RDecU1 (hS : Sep w0 w L) (hv : RdB w v b) : Calls Tryz.prog 60 #[v] w fun e w' => ∃ (kind : Int) (l : List CV) (A : Option Addr) (c : Nat) (z : Int), e = .returned (.tuple #[.int .i64 kind, .slice A l.length c, .int .i64 z]) ∧ Dn1 b kind (pcs l) z ∧ RngC l ∧ Sep w0 w' (csE (.slice A l.length c) l :: L) := by
  refine (RDec_sep hS hv).mono ?_
  rintro e w' ⟨kind, l, u, z, rfl, hd, hr, h⟩
  obtain ⟨A, c, rfl⟩ := csE_slice h.head
  exact ⟨kind, l, A, c, z, rfl, hd, hr, h⟩
theorem RDecU2 (hS : Sep w0 w L) (hv : RdB w v b) : Calls Tryz.prog 61 #[v] w fun e w' => ∃ (kind : Int) (l : List CV) (A : Option Addr) (c : Nat) (z : Int), e = .returned (.tuple #[.int .i64 kind, .slice A l.length c, .int .i64 z]) ∧ Dn2 b kind (pcs l) z ∧ RngC l ∧ Sep w0 w' (csE (.slice A l.length c) l :: L) := RKDec_sepZ hS hv
/-- What Decode tells of bytes of an engine. -/
def NDecQ1 (w0 : World) (L : List Ent) (b : List UInt8) (e : Ending) (w' : World) : Prop :=
  (∃ (kind : Int) (A : Option Addr) (c : Nat) (m : List CV), isPln b kind (pcs m) ∧ e = .returned (.tuple #[.int .i64 1, .int .i64 kind, .slice A m.length c, .int .i64 0]) ∧ RngC m ∧ Sep w0 w' (csE (.slice A m.length c) m :: L)) ∨
    ((∀ k l, ¬ isPln b k l) ∧ e = .returned (.tuple #[.int .i64 0, .int .i64 0, .slice none 0 0, .int .i64 60]) ∧ Sep w0 w' L)
set_option maxRecDepth 20000 in
set_option maxHeartbeats 1000000 in
theorem NDec_1 (hS : Sep w0 w L) (hv : RdB w v b) (h2 : 2 ≤ b.length) (he : egB b = 1) : Calls Tryz.prog 21 #[v] w (NDecQ1 w0 L b) := by
  have hwh := which_1 v b w hv h2 he
  have hsf := st_func
  have hv0 := hv
  obtain ⟨A, c, rfl, hm⟩ := hv.form
  obtain ⟨ad, rfl, hcb, hlt⟩ := egB_at hv h2
  rw [he] at hcb
  have i2 : (1 : Int) < (b.length : Int) := by omega
  have i3 : 1 < b.length := by omega
  have HS := Lib.hid hS
  unfold NDecQ1
  clear he hlt h2 hm hS hv
  go_enter Tryz.func21, Tryz.ntmps21
  go_upto_region 2 with (first
    | (go_at_call 43; (with_reducible refine hwh.mono ?_); rintro e w1 ⟨rfl, hw1⟩)
    | fail)
  have hS1 := ((Sep.start w).below hw1).alloc 81 engL1
  unfold engL1 at *
  generalize hW2 : w1.alloc (.cells #[.func (.func 68) #[] #[], .func (.func 71) #[] #[], .func (.func 73) #[] #[], .func (.func 74) #[] #[], .func (.func 75) #[] #[]] 81) = w2 at *
  generalize w1.heap.size = g at *
  clear hW2 hwh hw1
  obtain ⟨-, -, -, -, y4⟩ := (show OBlk w2 g 81 [.func (.func 68) #[] #[], .func (.func 71) #[] #[], .func (.func 73) #[] #[], .func (.func 74) #[] #[], .func (.func 75) #[] #[]] from hS1.head).cells5'
  have hD := DecU1 hS1 (hS1.rd (v := w) (by simp) hv0)
  go_wp2_with fail
  refine hD.mono ?_
  rintro e w3 ⟨kind, m, B, d, z, rfl, hd, hr, hS3⟩
  have hb3 := hS3.belowOld (_v := w) (by simp)
  have hcb3 := (hb3.cell (World.block_lt_of_cell? w _ hcb)).trans hcb
  have HS4 := Lib.hid (Sep.lift1 (Sep.pick (L := [_, _, _]) [0, 2] (by decide) rfl hS3) (by simp) HS.out)
  rcases hd with ⟨hp, rfl⟩ | ⟨hn, rfl, hl, rfl⟩
  · have HP := Lib.hid hp
    clear hD hS1 hS3 hb3 hcb hp y4
    go_wp2_with fail
    refine bodyPost_ret (v := .tuple #[.int .i64 1, .int .i64 kind, .slice B m.length d, .int .i64 0]) ?_ rfl ?_
    · simp [results, Tryz.results21, go_sem]
    · exact .inl ⟨kind, B, d, m, HP.out, rfl, hr, HS4.out⟩
  · have HN := Lib.hid hn
    have HB := Lib.hid (HS.out.below hb3)
    clear hD hS1 hS3 hb3 hcb hn hl y4 HS4
    go_wp2_with fail
    refine bodyPost_ret (v := .tuple #[.int .i64 0, .int .i64 0, .slice none 0 0, .int .i64 60]) ?_ rfl ?_
    · simp [results, Tryz.results21, go_sem]
    · exact .inr ⟨HN.out, rfl, HB.out⟩
set_option maxRecDepth 20000 in
set_option maxHeartbeats 1000000 in
theorem RNDec_1 (hS : Sep w0 w L) (hv : RdB w v b) (h2 : 2 ≤ b.length) (he : egB b = 1) : Calls Tryz.prog 22 #[v] w (NDecQ1 w0 L b) := by
  have hD := RDecU1 hS hv
  obtain ⟨A, c, rfl, hm⟩ := hv.form
  obtain ⟨ad, rfl, hcb, hlt⟩ := egB_at hv h2
  rw [he] at hcb
  have i1 : ¬ (b.length : Int) < 2 := by omega
  have i2 : (1 : Int) < (b.length : Int) := by omega
  have i3 : 1 < b.length := by omega
  have HS := Lib.hid hS
  unfold NDecQ1
  clear he hlt h2 hm hS hv
  go_enter Tryz.func22, Tryz.ntmps22
  go_wp2_with fail
  refine hD.mono ?_
  rintro e w3 ⟨kind, m, B, d, z, rfl, hd, hr, hS3⟩
  have HS3 := Lib.hid hS3
  rcases hd with ⟨hp, rfl⟩ | ⟨hn, rfl, hl, rfl⟩
  · have HP := Lib.hid hp
    clear hD hS3 hcb hp
    go_wp2_with fail
    refine bodyPost_ret (v := .tuple #[.int .i64 1, .int .i64 kind, .slice B m.length d, .int .i64 0]) ?_ rfl ?_
    · simp [results, Tryz.results22, go_sem]
    · exact .inl ⟨kind, B, d, m, HP.out, rfl, hr, HS3.out⟩
  · have HN := Lib.hid hn
    clear hD hS3 hcb hn hl
    go_wp2_with fail
    refine bodyPost_ret (v := .tuple #[.int .i64 0, .int .i64 0, .slice none 0 0, .int .i64 60]) ?_ rfl ?_
    · simp [results, Tryz.results22, go_sem]
    · exact .inr ⟨HN.out, rfl, HS3.out.tail⟩
/-- What the document's Open tells. -/
def RNOpnQ1 (w0 : World) (L : List Ent) (b : List UInt8) (e : Ending) (w' : World) : Prop :=
  (∃ (x : Nat) (kind : Int) (l : List PC), isPln b kind l ∧ e = .returned (.tuple #[.pointer (some ⟨x, 0, none⟩), .int .i64 0]) ∧ RnP1 w0 w' L x b.length kind (opS1 kind l)) ∨
    ((∀ k l, ¬ isPln b k l) ∧ e = .returned (.tuple #[.pointer none, .int .i64 60]) ∧ Sep w0 w' L)
set_option maxRecDepth 20000 in
set_option maxHeartbeats 1000000 in
theorem RNOpn_1 (hS : Sep w0 w L) (hv : RdB w v b) (h2 : 2 ≤ b.length) (he : egB b = 1) : Calls Tryz.prog 13 #[v] w (RNOpnQ1 w0 L b) := by
  have hD := ROpen_sep hS v b hv
  obtain ⟨A, c, rfl, hm⟩ := hv.form
  obtain ⟨ad, rfl, hcb, hlt⟩ := egB_at hv h2
  rw [he] at hcb
  have i1 : ¬ (b.length : Int) < 2 := by omega
  have i2 : (1 : Int) < (b.length : Int) := by omega
  have i3 : 1 < b.length := by omega
  unfold RNOpnQ1
  clear he hlt h2 hm hS hv
  go_enter Tryz.func13, Tryz.ntmps13
  go_wp2_with fail
  refine hD.mono ?_
  rintro e w3 (⟨r, kind, l, hp, rfl, hq⟩ | ⟨hn, rfl, hS3⟩)
  · have HP := Lib.hid hp
    obtain ⟨E, h1, B⟩ := Rq1.sep hq
    have HN := Lib.hid (B _ _ (h1.alloc 87 [.int .i64 1, .pointer (some ⟨r, 0, none⟩), .pointer none]).sw1)
    clear hD hcb hp hq h1 B
    go_wp2_with fail
    go_ret2
    exact .inl ⟨_, kind, l, HP.out, rfl, r, HN.out⟩
  · have HN := Lib.hid hn
    have HS3 := Lib.hid hS3
    clear hD hS3 hcb hn
    go_wp2_with fail
    go_ret2
    exact .inr ⟨HN.out, rfl, HS3.out⟩
/-- What Decode tells of bytes of an engine. -/
def NDecQ2 (w0 : World) (L : List Ent) (b : List UInt8) (e : Ending) (w' : World) : Prop :=
  (∃ (kind : Int) (A : Option Addr) (c : Nat) (m : List CV), isPk b kind (pcs m) ∧ e = .returned (.tuple #[.int .i64 2, .int .i64 kind, .slice A m.length c, .int .i64 0]) ∧ RngC m ∧ Sep w0 w' (csE (.slice A m.length c) m :: L)) ∨
    ((∀ k l, ¬ isPk b k l) ∧ e = .returned (.tuple #[.int .i64 0, .int .i64 0, .slice none 0 0, .int .i64 60]) ∧ Sep w0 w' L)
set_option maxRecDepth 20000 in
set_option maxHeartbeats 1000000 in
theorem NDec_2 (hS : Sep w0 w L) (hv : RdB w v b) (h2 : 2 ≤ b.length) (he : egB b = 2) : Calls Tryz.prog 21 #[v] w (NDecQ2 w0 L b) := by
  have hwh := which_2 v b w hv h2 he
  have hsf := st_func
  have hv0 := hv
  obtain ⟨A, c, rfl, hm⟩ := hv.form
  obtain ⟨ad, rfl, hcb, hlt⟩ := egB_at hv h2
  rw [he] at hcb
  have i2 : (1 : Int) < (b.length : Int) := by omega
  have i3 : 1 < b.length := by omega
  have HS := Lib.hid hS
  unfold NDecQ2
  clear he hlt h2 hm hS hv
  go_enter Tryz.func21, Tryz.ntmps21
  go_upto_region 2 with (first
    | (go_at_call 43; (with_reducible refine hwh.mono ?_); rintro e w1 ⟨rfl, hw1⟩)
    | fail)
  have hS1 := ((Sep.start w).below hw1).alloc 81 engL2
  unfold engL2 at *
  generalize hW2 : w1.alloc (.cells #[.func (.func 76) #[] #[], .func (.func 79) #[] #[], .func (.func 81) #[] #[], .func (.func 82) #[] #[], .func (.func 83) #[] #[]] 81) = w2 at *
  generalize w1.heap.size = g at *
  clear hW2 hwh hw1
  obtain ⟨-, -, -, -, y4⟩ := (show OBlk w2 g 81 [.func (.func 76) #[] #[], .func (.func 79) #[] #[], .func (.func 81) #[] #[], .func (.func 82) #[] #[], .func (.func 83) #[] #[]] from hS1.head).cells5'
  have hD := DecU2 hS1 (hS1.rd (v := w) (by simp) hv0)
  go_wp2_with fail
  refine hD.mono ?_
  rintro e w3 ⟨kind, m, B, d, z, rfl, hd, hr, hS3⟩
  have hb3 := hS3.belowOld (_v := w) (by simp)
  have hcb3 := (hb3.cell (World.block_lt_of_cell? w _ hcb)).trans hcb
  have HS4 := Lib.hid (Sep.lift1 (Sep.pick (L := [_, _, _]) [0, 2] (by decide) rfl hS3) (by simp) HS.out)
  rcases hd with ⟨hp, rfl⟩ | ⟨hn, rfl, hl, rfl⟩
  · have HP := Lib.hid hp
    clear hD hS1 hS3 hb3 hcb hp y4
    go_wp2_with fail
    refine bodyPost_ret (v := .tuple #[.int .i64 2, .int .i64 kind, .slice B m.length d, .int .i64 0]) ?_ rfl ?_
    · simp [results, Tryz.results21, go_sem]
    · exact .inl ⟨kind, B, d, m, HP.out, rfl, hr, HS4.out⟩
  · have HN := Lib.hid hn
    have HB := Lib.hid (HS.out.below hb3)
    clear hD hS1 hS3 hb3 hcb hn hl y4 HS4
    go_wp2_with fail
    refine bodyPost_ret (v := .tuple #[.int .i64 0, .int .i64 0, .slice none 0 0, .int .i64 60]) ?_ rfl ?_
    · simp [results, Tryz.results21, go_sem]
    · exact .inr ⟨HN.out, rfl, HB.out⟩
set_option maxRecDepth 20000 in
set_option maxHeartbeats 1000000 in
theorem RNDec_2 (hS : Sep w0 w L) (hv : RdB w v b) (h2 : 2 ≤ b.length) (he : egB b = 2) : Calls Tryz.prog 22 #[v] w (NDecQ2 w0 L b) := by
  have hD := RDecU2 hS hv
  obtain ⟨A, c, rfl, hm⟩ := hv.form
  obtain ⟨ad, rfl, hcb, hlt⟩ := egB_at hv h2
  rw [he] at hcb
  have i1 : ¬ (b.length : Int) < 2 := by omega
  have i2 : (1 : Int) < (b.length : Int) := by omega
  have i3 : 1 < b.length := by omega
  have HS := Lib.hid hS
  unfold NDecQ2
  clear he hlt h2 hm hS hv
  go_enter Tryz.func22, Tryz.ntmps22
  go_wp2_with fail
  refine hD.mono ?_
  rintro e w3 ⟨kind, m, B, d, z, rfl, hd, hr, hS3⟩
  have HS3 := Lib.hid hS3
  rcases hd with ⟨hp, rfl⟩ | ⟨hn, rfl, hl, rfl⟩
  · have HP := Lib.hid hp
    clear hD hS3 hcb hp
    go_wp2_with fail
    refine bodyPost_ret (v := .tuple #[.int .i64 2, .int .i64 kind, .slice B m.length d, .int .i64 0]) ?_ rfl ?_
    · simp [results, Tryz.results22, go_sem]
    · exact .inl ⟨kind, B, d, m, HP.out, rfl, hr, HS3.out⟩
  · have HN := Lib.hid hn
    clear hD hS3 hcb hn hl
    go_wp2_with fail
    refine bodyPost_ret (v := .tuple #[.int .i64 0, .int .i64 0, .slice none 0 0, .int .i64 60]) ?_ rfl ?_
    · simp [results, Tryz.results22, go_sem]
    · exact .inr ⟨HN.out, rfl, HS3.out.tail⟩
/-- What the document's Open tells. -/
def RNOpnQ2 (w0 : World) (L : List Ent) (b : List UInt8) (e : Ending) (w' : World) : Prop :=
  (∃ (x : Nat) (kind : Int) (l : List PC), isPk b kind l ∧ e = .returned (.tuple #[.pointer (some ⟨x, 0, none⟩), .int .i64 0]) ∧ RnP2 w0 w' L x b.length kind (opS2 kind l)) ∨
    ((∀ k l, ¬ isPk b k l) ∧ e = .returned (.tuple #[.pointer none, .int .i64 60]) ∧ Sep w0 w' L)
set_option maxRecDepth 20000 in
set_option maxHeartbeats 1000000 in
theorem RNOpn_2 (hS : Sep w0 w L) (hv : RdB w v b) (h2 : 2 ≤ b.length) (he : egB b = 2) : Calls Tryz.prog 13 #[v] w (RNOpnQ2 w0 L b) := by
  have hD := RKOpen_sep hS v b hv
  obtain ⟨A, c, rfl, hm⟩ := hv.form
  obtain ⟨ad, rfl, hcb, hlt⟩ := egB_at hv h2
  rw [he] at hcb
  have i1 : ¬ (b.length : Int) < 2 := by omega
  have i2 : (1 : Int) < (b.length : Int) := by omega
  have i3 : 1 < b.length := by omega
  unfold RNOpnQ2
  clear he hlt h2 hm hS hv
  go_enter Tryz.func13, Tryz.ntmps13
  go_wp2_with fail
  refine hD.mono ?_
  rintro e w3 (⟨r, kind, l, hp, rfl, hq⟩ | ⟨hn, rfl, hS3⟩)
  · have HP := Lib.hid hp
    obtain ⟨E, h1, B⟩ := Rq2.sep hq
    have HN := Lib.hid (B _ _ (h1.alloc 87 [.int .i64 2, .pointer none, .pointer (some ⟨r, 0, none⟩)]).sw1)
    clear hD hcb hp hq h1 B
    go_wp2_with fail
    go_ret2
    exact .inl ⟨_, kind, l, HP.out, rfl, r, HN.out⟩
  · have HN := Lib.hid hn
    have HS3 := Lib.hid hS3
    clear hD hS3 hcb hn
    go_wp2_with fail
    go_ret2
    exact .inr ⟨HN.out, rfl, HS3.out⟩
/-! ### bytes of no engine -/
set_option maxRecDepth 20000 in
set_option maxHeartbeats 1000000 in
theorem NDec_no (hv : RdB w v b) (hn : b.length < 2 ∨ egB b ≠ 1 ∧ egB b ≠ 2) : Calls Tryz.prog 21 #[v] w fun e w' => e = .returned (.tuple #[.int .i64 0, .int .i64 0, .slice none 0 0, .int .i64 60]) ∧ Below w.heap.size w w' := by
  have hwh : Calls Tryz.prog 43 #[v] w fun e w' => e = .returned (.tuple #[.agg #[.nilFunc, .nilFunc, .nilFunc, .nilFunc, .nilFunc], .bool false]) ∧ Below w.heap.size w w' := by
    rcases Nat.lt_or_ge b.length 2 with h | h
    · exact which_short v b w hv h
    · rcases hn with h' | ⟨h1, h2⟩
      · omega
      · exact which_no v b w hv h h1 h2
  obtain ⟨A, c, rfl, hm⟩ := hv.form
  have hsn := st_nilFunc
  clear hn
  go_enter Tryz.func21, Tryz.ntmps21
  go_wp2_with (first
    | (go_at_call 43; (with_reducible refine hwh.mono ?_); rintro e w1 ⟨rfl, hw1⟩)
    | fail)
  refine bodyPost_ret (v := .tuple #[.int .i64 0, .int .i64 0, .slice none 0 0, .int .i64 60]) ?_ rfl ?_
  · simp [results, Tryz.results21, go_sem]
  · exact ⟨rfl, hw1.alloc hw1.size _⟩
theorem eg_no {w : World} (_hv : RdB w v b) (hn : b.length < 2 ∨ egB b ≠ 1 ∧ egB b ≠ 2) : b.length < 2 ∨ (2 ≤ b.length ∧ egB b < 1) ∨ (2 ≤ b.length ∧ ¬ egB b < 1 ∧ 2 < egB b) := by
  rcases hn with h | ⟨h1, h2⟩
  · exact .inl h
  · rcases Nat.lt_or_ge b.length 2 with h | h
    · exact .inl h
    · rcases Nat.lt_or_ge (egB b) 1 with h3 | h3
      · exact .inr (.inl ⟨h, h3⟩)
      · exact .inr (.inr ⟨h, by omega, by omega⟩)
set_option maxRecDepth 20000 in
set_option maxHeartbeats 1000000 in
theorem RNDec_no (hv : RdB w v b) (hn : b.length < 2 ∨ egB b ≠ 1 ∧ egB b ≠ 2) : Calls Tryz.prog 22 #[v] w fun e w' => e = .returned (.tuple #[.int .i64 0, .int .i64 0, .slice none 0 0, .int .i64 60]) ∧ Below w.heap.size w w' := by
  have hcs := eg_no hv hn
  obtain ⟨A, c, rfl, hm⟩ := hv.form
  clear hn
  rcases hcs with h | ⟨h2, h3⟩ | ⟨h2, h3, h4⟩
  · have i1 : (b.length : Int) < 2 := by omega
    go_enter Tryz.func22, Tryz.ntmps22
    go_wp2_with fail
    refine bodyPost_ret (v := .tuple #[.int .i64 0, .int .i64 0, .slice none 0 0, .int .i64 60]) ?_ rfl ?_
    · simp [results, Tryz.results22, go_sem]
    · exact ⟨rfl, Below.refl _ _⟩
  · obtain ⟨ad, rfl, hcb, hlt⟩ := egB_at hv h2
    have i1 : ¬ (b.length : Int) < 2 := by omega
    have i2 : (1 : Int) < (b.length : Int) := by omega
    have i3 : 1 < b.length := by omega
    generalize egB b = k at *
    have i4 : (k : Int) < 1 := by omega
    clear hv
    go_enter Tryz.func22, Tryz.ntmps22
    go_wp2_with fail
    refine bodyPost_ret (v := .tuple #[.int .i64 0, .int .i64 0, .slice none 0 0, .int .i64 60]) ?_ rfl ?_
    · simp [results, Tryz.results22, go_sem]
    · exact ⟨rfl, Below.refl _ _⟩
  · obtain ⟨ad, rfl, hcb, hlt⟩ := egB_at hv h2
    have i1 : ¬ (b.length : Int) < 2 := by omega
    have i2 : (1 : Int) < (b.length : Int) := by omega
    have i3 : 1 < b.length := by omega
    generalize egB b = k at *
    have i4 : ¬ (k : Int) < 1 := by omega
    have i5 : (2 : Int) < (k : Int) := by omega
    clear hv
    go_enter Tryz.func22, Tryz.ntmps22
    go_wp2_with fail
    refine bodyPost_ret (v := .tuple #[.int .i64 0, .int .i64 0, .slice none 0 0, .int .i64 60]) ?_ rfl ?_
    · simp [results, Tryz.results22, go_sem]
    · exact ⟨rfl, Below.refl _ _⟩
set_option maxRecDepth 20000 in
set_option maxHeartbeats 1000000 in
theorem RNOpn_no (hv : RdB w v b) (hn : b.length < 2 ∨ egB b ≠ 1 ∧ egB b ≠ 2) : Calls Tryz.prog 13 #[v] w fun e w' => e = .returned (.tuple #[.pointer none, .int .i64 60]) ∧ Below w.heap.size w w' := by
  have hcs := eg_no hv hn
  obtain ⟨A, c, rfl, hm⟩ := hv.form
  clear hn
  rcases hcs with h | ⟨h2, h3⟩ | ⟨h2, h3, h4⟩
  · have i1 : (b.length : Int) < 2 := by omega
    go_enter Tryz.func13, Tryz.ntmps13
    go_wp2_with fail
    go_ret2
    exact ⟨rfl, Below.refl _ _⟩
  · obtain ⟨ad, rfl, hcb, hlt⟩ := egB_at hv h2
    have i1 : ¬ (b.length : Int) < 2 := by omega
    have i2 : (1 : Int) < (b.length : Int) := by omega
    have i3 : 1 < b.length := by omega
    generalize egB b = k at *
    have i4 : (k : Int) < 1 := by omega
    clear hv
    go_enter Tryz.func13, Tryz.ntmps13
    go_wp2_with fail
    go_ret2
    exact ⟨rfl, Below.refl _ _⟩
  · obtain ⟨ad, rfl, hcb, hlt⟩ := egB_at hv h2
    have i1 : ¬ (b.length : Int) < 2 := by omega
    have i2 : (1 : Int) < (b.length : Int) := by omega
    have i3 : 1 < b.length := by omega
    generalize egB b = k at *
    have i4 : ¬ (k : Int) < 1 := by omega
    have i5 : (2 : Int) < (k : Int) := by omega
    clear hv
    go_enter Tryz.func13, Tryz.ntmps13
    go_wp2_with fail
    go_ret2
    exact ⟨rfl, Below.refl _ _⟩
/-! ### bytes that are no page -/
theorem NOpnN (h : NoB b) (hS : Sep w0 w L) (hv : RdB w v b) : Calls Tryz.prog 12 #[v] w fun e w' => e = .returned (.tuple #[.nilIface, .int .i64 60]) ∧ Sep w0 w' L := by
  rcases h with h | ⟨h2, he, hn⟩ | ⟨h2, he, hn⟩
  · exact (NdOpen_no v b w hv h).mono fun e w' ⟨h1, h2⟩ => ⟨h1, hS.below h2⟩
  · refine (NdOpn1 hS hv h2 he).mono ?_
    rintro e w' (⟨p, k, l, hp, _⟩ | ⟨_, rfl, h⟩)
    · exact absurd hp (hn k l)
    · exact ⟨rfl, h⟩
  · refine (NdOpn2 hS hv h2 he).mono ?_
    rintro e w' (⟨p, k, l, hp, _⟩ | ⟨_, rfl, h⟩)
    · exact absurd hp (hn k l)
    · exact ⟨rfl, h⟩
theorem RNOpnN (h : NoB b) (hS : Sep w0 w L) (hv : RdB w v b) : Calls Tryz.prog 13 #[v] w fun e w' => e = .returned (.tuple #[.pointer none, .int .i64 60]) ∧ Sep w0 w' L := by
  rcases h with h | ⟨h2, he, hn⟩ | ⟨h2, he, hn⟩
  · exact (RNOpn_no hv h).mono fun e w' ⟨h1, h2⟩ => ⟨h1, hS.below h2⟩
  · refine (RNOpn_1 hS hv h2 he).mono ?_
    rintro e w' (⟨p, k, l, hp, _⟩ | ⟨_, rfl, h⟩)
    · exact absurd hp (hn k l)
    · exact ⟨rfl, h⟩
  · refine (RNOpn_2 hS hv h2 he).mono ?_
    rintro e w' (⟨p, k, l, hp, _⟩ | ⟨_, rfl, h⟩)
    · exact absurd hp (hn k l)
    · exact ⟨rfl, h⟩
theorem NDecN (h : NoB b) (hS : Sep w0 w L) (hv : RdB w v b) : Calls Tryz.prog 21 #[v] w fun e w' => e = .returned (.tuple #[.int .i64 0, .int .i64 0, .slice none 0 0, .int .i64 60]) ∧ Sep w0 w' L := by
  rcases h with h | ⟨h2, he, hn⟩ | ⟨h2, he, hn⟩
  · exact (NDec_no hv h).mono fun e w' ⟨h1, h2⟩ => ⟨h1, hS.below h2⟩
  · refine (NDec_1 hS hv h2 he).mono ?_
    rintro e w' (⟨k, A, c, m, hp, _⟩ | ⟨_, rfl, h⟩)
    · exact absurd hp (hn k _)
    · exact ⟨rfl, h⟩
  · refine (NDec_2 hS hv h2 he).mono ?_
    rintro e w' (⟨k, A, c, m, hp, _⟩ | ⟨_, rfl, h⟩)
    · exact absurd hp (hn k _)
    · exact ⟨rfl, h⟩
theorem RNDecN (h : NoB b) (hS : Sep w0 w L) (hv : RdB w v b) : Calls Tryz.prog 22 #[v] w fun e w' => e = .returned (.tuple #[.int .i64 0, .int .i64 0, .slice none 0 0, .int .i64 60]) ∧ Sep w0 w' L := by
  rcases h with h | ⟨h2, he, hn⟩ | ⟨h2, he, hn⟩
  · exact (RNDec_no hv h).mono fun e w' ⟨h1, h2⟩ => ⟨h1, hS.below h2⟩
  · refine (RNDec_1 hS hv h2 he).mono ?_
    rintro e w' (⟨k, A, c, m, hp, _⟩ | ⟨_, rfl, h⟩)
    · exact absurd hp (hn k _)
    · exact ⟨rfl, h⟩
  · refine (RNDec_2 hS hv h2 he).mono ?_
    rintro e w' (⟨k, A, c, m, hp, _⟩ | ⟨_, rfl, h⟩)
    · exact absurd hp (hn k _)
    · exact ⟨rfl, h⟩
/-! ### bytes that are a page -/
theorem NOpnY1 {kind : Int} {l : List PC} (h2 : 2 ≤ b.length) (he : egB b = 1) (hp : isPln b kind l) (hS : Sep w0 w L) (hv : RdB w v b) : Calls Tryz.prog 12 #[v] w fun e w' => ∃ p, e = .returned (.tuple #[ndV1 p, .int .i64 0]) ∧ NdP1 w0 w' L p b.length kind (opS1 kind l) := by
  refine (NdOpn1 hS hv h2 he).mono ?_
  rintro e w' (⟨p, k, l', hq, rfl, h⟩ | ⟨hn, _⟩)
  · obtain ⟨rfl, rfl⟩ := isPln_one hp hq
    exact ⟨p, rfl, h⟩
  · exact absurd hp (hn _ _)
theorem RNOpnY1 {kind : Int} {l : List PC} (h2 : 2 ≤ b.length) (he : egB b = 1) (hp : isPln b kind l) (hS : Sep w0 w L) (hv : RdB w v b) : Calls Tryz.prog 13 #[v] w fun e w' => ∃ x, e = .returned (.tuple #[.pointer (some ⟨x, 0, none⟩), .int .i64 0]) ∧ RnP1 w0 w' L x b.length kind (opS1 kind l) := by
  refine (RNOpn_1 hS hv h2 he).mono ?_
  rintro e w' (⟨p, k, l', hq, rfl, h⟩ | ⟨hn, _⟩)
  · obtain ⟨rfl, rfl⟩ := isPln_one hp hq
    exact ⟨p, rfl, h⟩
  · exact absurd hp (hn _ _)
theorem NDecY1 {kind : Int} {l : List PC} (h2 : 2 ≤ b.length) (he : egB b = 1) (hp : isPln b kind l) (hS : Sep w0 w L) (hv : RdB w v b) : Calls Tryz.prog 21 #[v] w fun e w' => ∃ A c m, e = .returned (.tuple #[.int .i64 1, .int .i64 kind, .slice A (List.length m) c, .int .i64 0]) ∧ pcs m = l ∧ RngC m ∧ Sep w0 w' (csE (.slice A m.length c) m :: L) := by
  refine (NDec_1 hS hv h2 he).mono ?_
  rintro e w' (⟨k, A, c, m, hq, rfl, hr, h⟩ | ⟨hn, _⟩)
  · obtain ⟨rfl, rfl⟩ := isPln_one hp hq
    exact ⟨A, c, m, rfl, rfl, hr, h⟩
  · exact absurd hp (hn _ _)
theorem RNDecY1 {kind : Int} {l : List PC} (h2 : 2 ≤ b.length) (he : egB b = 1) (hp : isPln b kind l) (hS : Sep w0 w L) (hv : RdB w v b) : Calls Tryz.prog 22 #[v] w fun e w' => ∃ A c m, e = .returned (.tuple #[.int .i64 1, .int .i64 kind, .slice A (List.length m) c, .int .i64 0]) ∧ pcs m = l ∧ RngC m ∧ Sep w0 w' (csE (.slice A m.length c) m :: L) := by
  refine (RNDec_1 hS hv h2 he).mono ?_
  rintro e w' (⟨k, A, c, m, hq, rfl, hr, h⟩ | ⟨hn, _⟩)
  · obtain ⟨rfl, rfl⟩ := isPln_one hp hq
    exact ⟨A, c, m, rfl, rfl, hr, h⟩
  · exact absurd hp (hn _ _)
theorem NOpnY2 {kind : Int} {l : List PC} (h2 : 2 ≤ b.length) (he : egB b = 2) (hp : isPk b kind l) (hS : Sep w0 w L) (hv : RdB w v b) : Calls Tryz.prog 12 #[v] w fun e w' => ∃ p, e = .returned (.tuple #[ndV2 p, .int .i64 0]) ∧ NdP2 w0 w' L p b.length kind (opS2 kind l) := by
  refine (NdOpn2 hS hv h2 he).mono ?_
  rintro e w' (⟨p, k, l', hq, rfl, h⟩ | ⟨hn, _⟩)
  · obtain ⟨rfl, rfl⟩ := isPk_one hp hq
    exact ⟨p, rfl, h⟩
  · exact absurd hp (hn _ _)
theorem RNOpnY2 {kind : Int} {l : List PC} (h2 : 2 ≤ b.length) (he : egB b = 2) (hp : isPk b kind l) (hS : Sep w0 w L) (hv : RdB w v b) : Calls Tryz.prog 13 #[v] w fun e w' => ∃ x, e = .returned (.tuple #[.pointer (some ⟨x, 0, none⟩), .int .i64 0]) ∧ RnP2 w0 w' L x b.length kind (opS2 kind l) := by
  refine (RNOpn_2 hS hv h2 he).mono ?_
  rintro e w' (⟨p, k, l', hq, rfl, h⟩ | ⟨hn, _⟩)
  · obtain ⟨rfl, rfl⟩ := isPk_one hp hq
    exact ⟨p, rfl, h⟩
  · exact absurd hp (hn _ _)
theorem NDecY2 {kind : Int} {l : List PC} (h2 : 2 ≤ b.length) (he : egB b = 2) (hp : isPk b kind l) (hS : Sep w0 w L) (hv : RdB w v b) : Calls Tryz.prog 21 #[v] w fun e w' => ∃ A c m, e = .returned (.tuple #[.int .i64 2, .int .i64 kind, .slice A (List.length m) c, .int .i64 0]) ∧ pcs m = l ∧ RngC m ∧ Sep w0 w' (csE (.slice A m.length c) m :: L) := by
  refine (NDec_2 hS hv h2 he).mono ?_
  rintro e w' (⟨k, A, c, m, hq, rfl, hr, h⟩ | ⟨hn, _⟩)
  · obtain ⟨rfl, rfl⟩ := isPk_one hp hq
    exact ⟨A, c, m, rfl, rfl, hr, h⟩
  · exact absurd hp (hn _ _)
theorem RNDecY2 {kind : Int} {l : List PC} (h2 : 2 ≤ b.length) (he : egB b = 2) (hp : isPk b kind l) (hS : Sep w0 w L) (hv : RdB w v b) : Calls Tryz.prog 22 #[v] w fun e w' => ∃ A c m, e = .returned (.tuple #[.int .i64 2, .int .i64 kind, .slice A (List.length m) c, .int .i64 0]) ∧ pcs m = l ∧ RngC m ∧ Sep w0 w' (csE (.slice A m.length c) m :: L) := by
  refine (RNDec_2 hS hv h2 he).mono ?_
  rintro e w' (⟨k, A, c, m, hq, rfl, hr, h⟩ | ⟨hn, _⟩)
  · obtain ⟨rfl, rfl⟩ := isPk_one hp hq
    exact ⟨A, c, m, rfl, rfl, hr, h⟩
  · exact absurd hp (hn _ _)
end
end Go.Proofs.YtfcnkpofcekmgaaGreat
