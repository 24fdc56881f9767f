/- meta.Encode: the walk where the numbers may be. -/
import Derived.Test.YtdnfbjmapdgnnaaMetaEncA
import Derived.Deep.RegionHeld3
namespace Go.Proofs.Ytdnfbjmapdgnnaa
open Go.RowKit
set_option maxRecDepth 100000 in
set_option maxHeartbeats 1000000 in
theorem Encode_ok (eg pg tx rt ct fr ls hi : Nat) (hok : okB eg pg tx rt ct fr ls hi = true) (w : World) :
    Calls Try.prog 9 #[.agg #[.int .i64 eg, .int .i64 pg, .int .i64 tx, .int .i64 rt, .int .i64 ct, .int .i64 fr, .int .i64 ls, .int .i64 hi]] w fun e w' =>
      ∃ g, e = .returned (.tuple #[.slice (some ⟨g, 0, none⟩) pg pg, .int .i64 0]) ∧ w.heap.size ≤ g ∧ OBlk w' g 5 (bvs (encF eg pg tx rt ct fr ls hi)) ∧ Below w.heap.size w w' := by
  have hC := fun w => Check_any eg pg tx rt ct fr ls hi w
  rw [hok] at hC
  simp only [cond_true] at hC
  have HC := Lib.hid hC
  have hpg := (okB_bounds hok).2.1
  have HM := Lib.hid (fun k => metaNum_le hok k)
  obtain ⟨hp1, hp2⟩ := hpg
  have hp3 : (512 : Int) ≤ (pg : Int) := by omega
  have hp4 : (pg : Int) ≤ 65536 := by omega
  clear hC hok
  go_enter Try.func9, Try.ntmps9
  go_wp2_with fail
  refine (HC.out _).mono ?_
  rintro e w1 ⟨rfl, hw1⟩
  have hm1 : OBlk w1 w.heap.size 24 [.int .i64 eg, .int .i64 pg, .int .i64 tx, .int .i64 rt, .int .i64 ct, .int .i64 fr, .int .i64 ls, .int .i64 hi] :=
    (OBlk.new' w _ _).below hw1 (by simp)
  have hb1 : Below w.heap.size w w1 := ((Below.refl _ _).alloc (Nat.le_refl _) _).trans (hw1.mono (by simp))
  have hz1 : w.heap.size < w1.heap.size := by have := hw1.size; simp at this; omega
  obtain ⟨c0, c1, c2, c3, c4, c5, c6, c7⟩ := cells8 hm1
  go_wp2_with (first | (at_make; refine wp_make_B rfl (.tmp 16) (.tmp 16) rfl _ pg rfl rfl rfl (by omega) ?_; intro w2 hbk2 hw2 hs2))
  clear c0 c1 c2 c3 c4 c5 c6 c7
  have hne : ¬ (w.heap.size = w1.heap.size) := by omega
  have hne' : ¬ (w1.heap.size = w.heap.size) := by omega
  have hm2 := hm1.below hw2 (by omega)
  have hb2 := hb1.trans (hw2.mono hb1.size)
  clear hm1 hw1 hw2 hb1
  have i0 : (0 : Int) < (pg : Int) := by omega
  have i1 : (1 : Int) < (pg : Int) := by omega
  have i2 : 0 < pg := by omega
  have i3 : 1 < pg := by omega
  go_cut [] from 18 to 24 (fun wx => OBlk wx w1.heap.size 5 (bvs (((List.replicate pg 0).set 0 1).set 1 (UInt8.ofNat eg))) ∧
    OBlk wx w.heap.size 24 [.int .i64 eg, .int .i64 pg, .int .i64 tx, .int .i64 rt, .int .i64 ct, .int .i64 fr, .int .i64 ls, .int .i64 hi] ∧ Below w.heap.size w wx ∧ w1.heap.size < wx.heap.size)
  case first =>
    obtain ⟨c0, c1, c2, c3, c4, c5, c6, c7⟩ := cells8 hm2
    have z0 : w2.cell? ⟨w1.heap.size, 0, none⟩ = some (.int .u8 0) := hbk2.cell' (by rw [bvs_replicate, List.getElem?_replicate]; simp; omega)
    have z1 : w2.cell? ⟨w1.heap.size, 1, none⟩ = some (.int .u8 0) := hbk2.cell' (by rw [bvs_replicate, List.getElem?_replicate]; simp; omega)
    have f0 : w2.frozen? ⟨w1.heap.size, 0, none⟩ = false := hbk2.frozen (by rw [bvs_length, List.length_replicate]; omega)
    have f1 : w2.frozen? ⟨w1.heap.size, 1, none⟩ = false := hbk2.frozen (by rw [bvs_length, List.length_replicate]; omega)
    clear c1 c2 c3 c4 c5 c6 c7
    go_region_held3 (fun w' => w'.cell? ⟨w.heap.size, 0, none⟩ = some (.int .i64 eg))
      (first
        | (simp only [World.cell?_drew]; assumption)
        | (simp only [World.cell?_drew]; rw [World.cell?_setCell_other _ _ _ _ (by simp [hne, hne'])]; assumption)
        | (simp only [World.cell?_drew]; rw [World.cell?_setCell_other _ _ _ _ (by simp [hne, hne']), World.cell?_setCell_other _ _ _ _ (by simp [hne, hne'])]; assumption))
      (fail)
    go_wp2_with fail
    go_meet
    have e0 := (hbk2.set 0 (.int .u8 1)).set 1 (.int .u8 (IntKind.u8.wrap (eg : Int)))
    rw [wrap_byte, show (Value.int .u8 1) = .int .u8 ((1 : UInt8).toNat : Int) from rfl, ← bvs_set, ← bvs_set] at e0
    have m0 := (hm2.far (p := ⟨w1.heap.size, 0, none⟩) hne (.int .u8 1)).far (p := ⟨w1.heap.size, 1, none⟩) hne (.int .u8 (IntKind.u8.wrap (eg : Int)))
    rw [wrap_byte] at m0
    rw [wrap_byte]
    exact ⟨e0, m0, ((hb2.setCell (by simp; omega) _).setCell (by simp; omega) _).drew, by simp; omega⟩
  case rest =>
    obtain ⟨hbk3, hm3, hb3, hz3⟩ := hcut
    clear hbk2 hm2 hb2 hs2
    have l3 : (((List.replicate pg (0 : UInt8)).set 0 1).set 1 (UInt8.ofNat eg)).length = pg := by simp
    go_upto_region 6 with (fail)
    go_cut [] from 25 to 27 (fun wx => OBlk wx w1.heap.size 5 (bvs (splice (((List.replicate pg 0).set 0 1).set 1 (UInt8.ofNat eg)) 4 [69, 83, 80, 76])) ∧
      OBlk wx w.heap.size 24 [.int .i64 eg, .int .i64 pg, .int .i64 tx, .int .i64 rt, .int .i64 ct, .int .i64 fr, .int .i64 ls, .int .i64 hi] ∧ Below w.heap.size w wx ∧ w1.heap.size < wx.heap.size)
    case first =>
      go_wp2_with (first | ((with_reducible refine at_copy ?_); refine wp_copy_S rfl (.tmp 26) _ rfl _ (pg - 4) (pg - 4) w1.heap.size 4 rfl _ hbk3 rfl (by rw [l3]; omega) _ rfl (by simp [ByteArray.size]; omega) ?_; intro w4 hbk4 hg4))
      go_meet
      exact ⟨hbk4, hm3.grown hg4 (by simp only [ne_eq, Option.some.injEq]; omega), hb3.grown hg4 hb3.size (fun k hk => by injection hk; omega), Nat.lt_of_lt_of_le hz3 hg4.size⟩
    case rest =>
      obtain ⟨hbk4, hm4, hb4, hz4⟩ := hcut
      rw [enc_head eg pg tx rt ct fr ls hi hp1] at hbk4
      clear hbk3 hm3 hb3 hz3 l3
      obtain ⟨c0, c1, c2, c3, c4, c5, c6, c7⟩ := cells8 hm4
      go_wp2_with (first
        | (go_at_call 26; refine (numbers_any _ _ _ _ _ _ _ _ _).mono ?_; rintro e w5 ⟨rfl, hw5⟩)
        | (go_at_call 27; refine (places_any _).mono ?_; rintro e w6 ⟨rfl, hw6⟩))
      have z4 := hw5.size
      have z6 := hw6.size
      simp only [World.size_alloc] at z6
      have hl6 : OBlk w6 w5.heap.size 47 [.int .i64 pg, .int .i64 tx, .int .i64 rt, .int .i64 ct, .int .i64 fr, .int .i64 ls, .int .i64 hi] := (OBlk.new' w5 _ _).below hw6 (by simp)
      have hbk6 := ((hbk4.below hw5 hbk4.lt).alloc (.cells #[.int .i64 pg, .int .i64 tx, .int .i64 rt, .int .i64 ct, .int .i64 fr, .int .i64 ls, .int .i64 hi] 47)).below hw6 (by simp; omega)
      have hb6 : Below w.heap.size w w6 := ((hb4.trans (hw5.mono hb4.size)).alloc (by have := hb4.size; omega) _).trans (hw6.mono (by have := hb4.size; simp; omega))
      have hgl : w1.heap.size < w5.heap.size := by omega
      have HW1 : Hid (w.heap.size < w1.heap.size) := hz1
      generalize w5.heap.size = gl at *
      generalize w1.heap.size = g at *
      clear hm4 hb4 hz4 c0 c1 c2 c3 c4 c5 c6 c7 z4 z6 hw5 hw6 hbk4 HC hne hne' i0 i1 i2 i3
      go_loopw [31] (fun i wr => ∃ k : Nat, i = .int .i64 (k : Int) ∧ k ≤ 7 ∧ OBlk wr g 5 (bvs (metaPre eg pg tx rt ct fr ls hi k ++ List.replicate (pg - placeAt k) 0)) ∧
          OBlk wr gl 47 [.int .i64 pg, .int .i64 tx, .int .i64 rt, .int .i64 ct, .int .i64 fr, .int .i64 ls, .int .i64 hi] ∧ Below w.heap.size w wr)
        (fun i _ => 7 - (intOf i).toNat)
      case atStart => exact ⟨0, rfl, by omega, hbk6, hl6, hb6⟩
      case round =>
        clear hbk6 hl6 hb6
        obtain ⟨k, rfl, hk, hbk, hl, hb⟩ := hrel
        by_cases hlt : k < 7
        · have hix := places_at k hlt
          have hlk : ∃ n : Nat, n = metaNum pg tx rt ct fr ls hi k ∧ wr.cell? ⟨gl, k, none⟩ = some (.int .i64 (n : Int)) := by
            refine ⟨_, rfl, hl.cell' ?_⟩
            rcases (by omega : k = 0 ∨ k = 1 ∨ k = 2 ∨ k = 3 ∨ k = 4 ∨ k = 5 ∨ k = 6) with rfl | rfl | rfl | rfl | rfl | rfl | rfl <;> rfl
          obtain ⟨n, hn, hlk⟩ := hlk
          have HS := Lib.hid (metaPre_succ eg pg tx rt ct fr ls hi k hlt)
          have HL := Lib.hid (metaPre_len eg pg tx rt ct fr ls hi k hlt)
          have hnb : n ≤ 1099511627776 := by rw [hn]; exact HM.out k
          have HN := Lib.hid hn
          have HA := Lib.hid (placeAt_succ k hlt)
          clear hn
          have a1 : placeAt k ≤ 36 := by rcases (by omega : k = 0 ∨ k = 1 ∨ k = 2 ∨ k = 3 ∨ k = 4 ∨ k = 5 ∨ k = 6) with rfl | rfl | rfl | rfl | rfl | rfl | rfl <;> decide
          have a2 : 1 ≤ placeW k := by rcases (by omega : k = 0 ∨ k = 1 ∨ k = 2 ∨ k = 3 ∨ k = 4 ∨ k = 5 ∨ k = 6) with rfl | rfl | rfl | rfl | rfl | rfl | rfl <;> decide
          have a3 : placeW k ≤ 8 := by rcases (by omega : k = 0 ∨ k = 1 ∨ k = 2 ∨ k = 3 ∨ k = 4 ∨ k = 5 ∨ k = 6) with rfl | rfl | rfl | rfl | rfl | rfl | rfl <;> decide
          have a4 : (placeAt k : Int) ≤ 36 := by omega
          have a5 : (0 : Int) ≤ (placeAt k : Int) := by omega
          have a6 : (0 : Int) ≤ (k : Int) := by omega
          have a7 : (k : Int) < 7 := by omega
          have a8 : (placeAt k : Int) ≤ (pg : Int) := by omega
          generalize placeAt k = at_ at *
          generalize placeW k = wd at *
          go_upto_region 11 with (fail)
          have hgr : g < wr.heap.size := hbk.lt
          have hglr : gl < wr.heap.size := hl.lt
          have k0 : (wr.alloc (.cells #[.int .i64 at_, .int .i64 wd] 50)).cell? ⟨wr.heap.size, 0, none⟩ = some (.int .i64 at_) := (OBlk.new' wr 50 [.int .i64 at_, .int .i64 wd]).cell 0
          have k1 : (wr.alloc (.cells #[.int .i64 at_, .int .i64 wd] 50)).cell? ⟨wr.heap.size, 1, none⟩ = some (.int .i64 wd) := (OBlk.new' wr 50 [.int .i64 at_, .int .i64 wd]).cell 1
          have k2 : (wr.alloc (.cells #[.int .i64 at_, .int .i64 wd] 50)).cell? ⟨gl, k, none⟩ = some (.int .i64 n) := (World.cell?_alloc_lt wr _ _ hglr).trans hlk
          have hwn : IntKind.u64.wrap (n : Int) = (n : Int) := IntWalk.u64_in _ (by omega)
          go_region_held3 (fun w' => w'.cell? ⟨wr.heap.size, 0, none⟩ = some (.int .i64 at_) ∧ w'.cell? ⟨wr.heap.size, 1, none⟩ = some (.int .i64 wd) ∧ w'.cell? ⟨gl, k, none⟩ = some (.int .i64 n))
            (first
              | exact ⟨k0, k1, k2⟩
              | exact ⟨(hw7.cell (by simp)).trans k0, (hw7.cell (by simp)).trans k1, (hw7.cell (by simp; omega)).trans k2⟩
              | exact ⟨hg8.cell ((hw7.cell (by simp)).trans k0) (by simp; omega), hg8.cell ((hw7.cell (by simp)).trans k1) (by simp; omega), hg8.cell ((hw7.cell (by simp; omega)).trans k2) (by simp; omega)⟩)
            (first
              | (go_at_call 28; (with_reducible refine (Fixed_any n (by omega) wd a2 a3 _).mono ?_); rintro e w7 ⟨rfl, hf7, hw7, hs7⟩)
              | (go_simp; fail)
              | (refine step_copy_B (by rfl) (.tmp 38) (.tmp 45) (by rfl) _ (pg - at_) (pg - at_) g at_ (by rfl) _ (((hbk.alloc _).drew).below hw7 (by simp; omega)) (fun _ => rfl) (by rw [List.length_append, HL.out, List.length_replicate]; omega) (.slice (some ⟨wr.heap.size + 1, 0, none⟩) wd wd) (fixedF n wd) (by rfl) (by simpa using hf7.rdB (fixedF_length n wd) (by omega)) ?_; intro w8 hb8 hg8)
              | fail)
          go_wp2_with fail
          go_roundw
          case rel =>
            have e := splice_zeros (metaPre eg pg tx rt ct fr ls hi k) (fixedF n wd) (pg - at_) at_ HL.out (by rw [fixedF_length]; omega)
            rw [fixedF_length, List.take_of_length_le (by rw [fixedF_length]; omega), e, fixedF_length] at hb8
            rw [show pg - at_ - wd = pg - placeAt (k + 1) by rw [HA.out]; omega] at hb8
            have e2 : metaPre eg pg tx rt ct fr ls hi k ++ fixedF n wd = metaPre eg pg tx rt ct fr ls hi (k + 1) := by rw [HS.out, HN.out]
            rw [e2] at hb8
            have hw7' : Below wr.heap.size wr w7 := ((Below.refl _ _).alloc (Nat.le_refl _) _).drew.trans (hw7.mono (by simp))
            exact ⟨k + 1, by go_num, by omega, hb8, (hl.below hw7' hglr).grown hg8 (by simp only [ne_eq, Option.some.injEq]; omega),
              (hb.trans (hw7'.mono hb.size)).grown hg8 (Nat.le_trans hb.size hw7'.size) (fun j hj => by injection hj with hj; have := HW1.out; omega)⟩
          case measure => simp [intOf]; omega
        · obtain rfl : k = 7 := by omega
          have hlen : (metaPre eg pg tx rt ct fr ls hi 7 ++ List.replicate (pg - placeAt 7) 0).length = pg := by
            rw [List.length_append, metaPre_len7, List.length_replicate]; simp only [placeAt]; omega
          have hbody : (metaPre eg pg tx rt ct fr ls hi 7 ++ List.replicate (pg - placeAt 7) 0).take (pg - 4) = metaBody eg pg tx rt ct fr ls hi := by
            unfold metaBody
            rw [List.take_append, metaPre_len7, List.take_of_length_le (by rw [metaPre_len7]; omega), List.take_replicate]
            congr 2; simp only [placeAt]; omega
          have HL := Lib.hid hlen
          have HB := Lib.hid hbody
          clear hlen hbody
          generalize metaPre eg pg tx rt ct fr ls hi 7 ++ List.replicate (pg - placeAt 7) 0 = L at *
          have hsl : sumF (metaBody eg pg tx rt ct fr ls hi) < 4294967296 := sumF_lt _
          obtain ⟨en, hen⟩ : ∃ en : Nat, en + 4 = pg := ⟨pg - 4, by omega⟩
          have he : (pg : Int) - 4 = (en : Int) := by omega
          have hws : IntKind.u64.wrap ((sumF (metaBody eg pg tx rt ct fr ls hi) : Nat) : Int) = ((sumF (metaBody eg pg tx rt ct fr ls hi) : Nat) : Int) := IntWalk.u64_in _ (by omega)
          have b1 : (0 : Int) ≤ (en : Int) := by omega
          have b2 : (en : Int) ≤ (pg : Int) := by omega
          have b3 : en ≤ pg := by omega
          have HE := Lib.hid hen
          have b4 : en < pg := by omega
          have b5 : ¬ (pg = en) := by omega
          rw [show pg - 4 = en by omega] at HB
          clear hen
          go_wp2_with fail
          have hbd : RdB wr (.slice (some ⟨g, 0, none⟩) en pg) (metaBody eg pg tx rt ct fr ls hi) := by
            have := (hbk.owB (base := 0) (Nat.zero_le _) (by rw [HL.out]; simp only [maxLen]; omega) (n := en) (by rw [HL.out]; exact b3)).rd
            rw [HB.out, HL.out] at this
            exact this
          go_region_held3 (fun _ => True) (trivial)
            (first
              | (go_at_call 29; (with_reducible refine (Sum_any _ [metaBody eg pg tx rt ct fr ls hi] _ ?_).mono ?_); (exact RdL.one hbd.drew _); rintro e w7 ⟨rfl, hw7⟩)
              | (go_at_call 28; (with_reducible refine (Fixed_4 (sumF (metaBody eg pg tx rt ct fr ls hi)) (by omega) _).mono ?_); rintro e w9 ⟨rfl, hf9, hw9, hs9⟩)
              | (refine step_copy_B (by rfl) (.tmp 53) (.tmp 60) (by rfl) _ (pg - en) (pg - en) g en (by rfl) L ((((hbk.alloc _).drew).below hw7 (by have := hbk.lt; simp; omega)).below hw9 (by have := hbk.lt; have := hw7.size; simp at this; omega)) (fun _ => rfl) (by rw [HL.out]; omega) (.slice (some ⟨w7.heap.size, 0, none⟩) 4 4) (fixedF (sumF (metaBody eg pg tx rt ct fr ls hi)) 4) (by rfl) (hf9.rdB (fixedF_length _ 4) (by omega)) ?_; intro w8 hb8 hg8)
              | fail)
          go_wp2_with fail
          go_ret2
          have hpe := HE.out
          have e3 : splice L en ((fixedF (sumF (metaBody eg pg tx rt ct fr ls hi)) 4).take (min (fixedF (sumF (metaBody eg pg tx rt ct fr ls hi)) 4).length (pg - en))) = encF eg pg tx rt ct fr ls hi := by
            rw [fixedF_length, List.take_of_length_le (by rw [fixedF_length]; omega)]
            unfold splice
            rw [HB.out, fixedF_length, List.drop_of_length_le (by rw [HL.out]; omega), List.append_nil]
            rfl
          rw [e3] at hb8
          have hb7 : Below w.heap.size w w7 := ((hb.alloc hb.size _).drew).trans (hw7.mono (by have := hb.size; simp; omega))
          have hb9 : Below w.heap.size w w9 := hb7.trans (hw9.mono hb7.size)
          exact ⟨g, rfl, Nat.le_of_lt HW1.out, hb8, hb9.grown hg8 hb9.size (fun j hj => by injection hj with hj; have := HW1.out; omega)⟩
end Go.Proofs.Ytdnfbjmapdgnnaa
