/- meta.Decode: the walk. -/
import Derived.Test.YtdnfbjmapdgnnaaMetaDecA
import Derived.Test.YtdnfbjmapdgnnaaMetaEnc
namespace Go.Proofs.Ytdnfbjmapdgnnaa
open Go.RowKit

theorem Encode_L (l : List UInt8) (h : okL l = true) (w : World) :
    Calls Try.prog 9 #[.agg #[.int .i64 (engI l), .int .i64 (fldI l 0), .int .i64 (fldI l 1), .int .i64 (fldI l 2), .int .i64 (fldI l 3), .int .i64 (fldI l 4), .int .i64 (fldI l 5), .int .i64 (fldI l 6)]] w fun e w' =>
      ∃ v, e = .returned (.tuple #[v, .int .i64 0]) ∧ OwB w' w.heap.size v (encL l) ∧ Below w.heap.size w w' := by
  obtain ⟨eg, pg, tx, rt, ct, fr, ls, hi, h1, h2, h3, h4, h5, h6, h7, h8, he, hok⟩ := okL_nat h
  rw [h1, h2, h3, h4, h5, h6, h7, h8, he]
  refine (Encode_ok eg pg tx rt ct fr ls hi hok w).mono fun e w' hh => ?_
  obtain ⟨g, rfl, hg, hb, hw⟩ := hh
  have hp := (okB_bounds hok).2.1
  have := hb.owB' hg (by rw [encF_length hp.1]; simp only [maxLen]; omega)
  rw [encF_length hp.1] at this
  exact ⟨_, rfl, this, hw⟩
theorem Encode_Lbad (l : List UInt8) (h : okL l = false) (w : World) :
    Calls Try.prog 9 #[.agg #[.int .i64 (engI l), .int .i64 (fldI l 0), .int .i64 (fldI l 1), .int .i64 (fldI l 2), .int .i64 (fldI l 3), .int .i64 (fldI l 4), .int .i64 (fldI l 5), .int .i64 (fldI l 6)]] w fun e w' =>
      e = .returned (.tuple #[.slice none 0 0, .int .i64 1]) ∧ Below w.heap.size w w' := Encode_bad _ _ _ _ _ _ _ _ h w

set_option maxHeartbeats 400000 in
theorem Decode_short (v : Value) (l : List UInt8) (w : World) (hv : RdB w v l) (h : l.length < 512 ∨ 65536 < l.length) :
    Calls Try.prog 16 #[v] w (DecPost l w) := by
  have hno : isMeta l = false := by
    have : ¬ (512 ≤ l.length ∧ l.length ≤ 65536) := by omega
    unfold isMeta; rw [decide_eq_false this]; rfl
  have HN := Lib.hid hno
  clear hno
  obtain ⟨A, c, rfl, hm⟩ := hv.form
  rcases h with h | h
  · have h1 : (l.length : Int) < 512 := by omega
    go_enter Try.func16, Try.ntmps16
    go_wp2
    exact bodyPost_ret (v := .tuple #[.agg zeroV.toArray, .int .i64 50]) (by simp [results, Try.results16, go_sem]) rfl ⟨by rw [HN.out]; rfl, (Below.refl _ _).alloc (Nat.le_refl _) _⟩
  · have h1 : ¬ (l.length : Int) < 512 := by omega
    have h2 : 65536 < (l.length : Int) := by omega
    go_enter Try.func16, Try.ntmps16
    go_wp2
    exact bodyPost_ret (v := .tuple #[.agg zeroV.toArray, .int .i64 50]) (by simp [results, Try.results16, go_sem]) rfl ⟨by rw [HN.out]; rfl, (Below.refl _ _).alloc (Nat.le_refl _) _⟩
set_option maxRecDepth 100000 in
set_option maxHeartbeats 1000000 in
theorem Decode_long (v : Value) (l : List UInt8) (w : World) (hv : RdB w v l) (h1 : 512 ≤ l.length) (h2 : l.length ≤ 65536) :
    Calls Try.prog 16 #[v] w (DecPost l w) := by
  obtain ⟨A, c, rfl, hm⟩ := hv.form
  have i1 : ¬ (l.length : Int) < 512 := by omega
  have i2 : ¬ 65536 < (l.length : Int) := by omega
  go_enter Try.func16, Try.ntmps16
  go_wp2_with fail
  refine (places_any _).mono ?_
  rintro e w1 ⟨rfl, hw1⟩
  have z1 := hw1.size
  simp only [World.size_alloc] at z1
  have hr1 : OBlk w1 w.heap.size 24 zeroV := ((OBlk.new' w 24 zeroV).alloc _).below hw1 (by simp; omega)
  have hl1 : OBlk w1 (w.heap.size + 1) 47 (decVals l 0) := by
    have := OBlk.new' (w.alloc (.cells zeroV.toArray 24)) 47 (decVals l 0)
    rw [World.size_alloc] at this
    exact this.below hw1 (by simp)
  have hb1 : Below w.heap.size w w1 := (((Below.refl _ _).alloc (Nat.le_refl _) _).alloc (by simp) _).trans (hw1.mono (by simp; omega))
  clear hw1 z1
  go_wp2_with fail
  go_loopw [22] (fun i wr => ∃ k : Nat, i = .int .i64 (k : Int) ∧ k ≤ 7 ∧ OBlk wr (w.heap.size + 1) 47 (decVals l k) ∧ OBlk wr w.heap.size 24 zeroV ∧ Below w.heap.size w wr)
    (fun i _ => 7 - (intOf i).toNat)
  case atStart => exact ⟨0, rfl, by omega, hl1, hr1, hb1⟩
  case round =>
    clear hl1 hr1 hb1
    obtain ⟨k, rfl, hk, hl, hr, hb⟩ := hrel
    by_cases hlt : k < 7
    · have hix := places_at k hlt
      have a1 : placeAt k ≤ 36 := by rcases (by omega : k = 0 ∨ k = 1 ∨ k = 2 ∨ k = 3 ∨ k = 4 ∨ k = 5 ∨ k = 6) with rfl | rfl | rfl | rfl | rfl | rfl | rfl <;> decide
      have a2 : 1 ≤ placeW k := by rcases (by omega : k = 0 ∨ k = 1 ∨ k = 2 ∨ k = 3 ∨ k = 4 ∨ k = 5 ∨ k = 6) with rfl | rfl | rfl | rfl | rfl | rfl | rfl <;> decide
      have a3 : placeW k ≤ 8 := by rcases (by omega : k = 0 ∨ k = 1 ∨ k = 2 ∨ k = 3 ∨ k = 4 ∨ k = 5 ∨ k = 6) with rfl | rfl | rfl | rfl | rfl | rfl | rfl <;> decide
      have a6 : (0 : Int) ≤ (k : Int) := by omega
      have a7 : (k : Int) < 7 := by omega
      have hf : IntKind.i64.wrap ((numF ((l.drop (placeAt k)).take (placeW k)) : Nat) : Int) = fldI l k := rfl
      have HS := Lib.hid (decVals_set l k hlt)
      have c0 := hl.cell' (decVals_at l k hlt)
      have f0 := hl.frozen (j := k) (by rw [decVals_len]; exact hlt)
      have hvr := hv.below hb (Nat.le_refl _)
      have HR := Lib.hid (fun (W : World) (hW : RdB W (.slice A l.length c) l) => ReadFixed_any (.slice A l.length c) l (placeAt k) (placeW k) a2 a3 (by omega) W hW)
      have hgr := hl.lt
      generalize placeAt k = at_ at *
      generalize placeW k = wd at *
      generalize numF ((l.drop at_).take wd) = q at *
      go_wp2_with fail
      refine (HR.out _ (hvr.alloc _)).mono ?_
      rintro e w5 ⟨rfl, rfl⟩
      have c0' : (wr.alloc (.cells #[.int .i64 at_, .int .i64 wd] 50)).cell? ⟨w.heap.size + 1, k, none⟩ = some (.int .i64 0) := (World.cell?_alloc_lt wr _ _ hgr).trans c0
      have f0' : (wr.alloc (.cells #[.int .i64 at_, .int .i64 wd] 50)).frozen? ⟨w.heap.size + 1, k, none⟩ = false := ((hl.alloc (.cells #[.int .i64 at_, .int .i64 wd] 50)).frozen (j := k) (by rw [decVals_len]; exact hlt))
      go_wp2_with fail
      go_roundw
      case rel =>
        have e := hl.set k (.int .i64 (fldI l k))
        rw [HS.out] at e
        exact ⟨k + 1, by go_num, by omega, e.alloc _, (hr.far (p := ⟨w.heap.size + 1, k, none⟩) (by simp) _).alloc _, (hb.setCell (p := ⟨w.heap.size + 1, k, none⟩) (by simp) _).alloc (by have := hb.size; simp; omega) _⟩
      case measure => simp [intOf]; omega
    · obtain rfl : k = 7 := by omega
      rw [decVals_seven] at hl
      rw [show ((7 : Nat) : Int) = 7 from rfl]
      obtain ⟨c0, c1, c2, c3, c4, c5, c6⟩ := cells7 hl
      obtain ⟨ad, rfl, hcb⟩ := (hv.below hb (Nat.le_refl _)).at_ (j := 1) (by omega)
      have hge : (l[1].toNat : Int) = engI l := by
        unfold engI
        rw [List.getD_eq_getElem?_getD, List.getElem?_eq_getElem (by omega)]; rfl
      rw [hge, show ad.add 1 = ⟨ad.block, ad.off + 1, none⟩ from rfl] at hcb
      clear hge
      have i3 : (1 : Int) < (l.length : Int) := by omega
      have i4 : 1 < l.length := by omega
      have hgr := hl.lt
      go_wp2_with fail
      go_cut [9] from 40 to 58 (fun s wx => ∃ gm : Nat, s = .pointer (some ⟨gm, 0, none⟩) ∧ OBlk wx gm 24 (metaV l) ∧ OBlk wx w.heap.size 24 zeroV ∧ Below w.heap.size w wx)
      case first =>
        go_region_held3 (fun w' => w'.cell? ⟨ad.block, ad.off + 1, none⟩ = some (.int .u8 (engI l)) ∧ w'.cell? ⟨w.heap.size + 1, 0, none⟩ = some (.int .i64 (fldI l 0)) ∧ w'.cell? ⟨w.heap.size + 1, 1, none⟩ = some (.int .i64 (fldI l 1)) ∧
            w'.cell? ⟨w.heap.size + 1, 2, none⟩ = some (.int .i64 (fldI l 2)) ∧ w'.cell? ⟨w.heap.size + 1, 3, none⟩ = some (.int .i64 (fldI l 3)) ∧ w'.cell? ⟨w.heap.size + 1, 4, none⟩ = some (.int .i64 (fldI l 4)) ∧
            w'.cell? ⟨w.heap.size + 1, 5, none⟩ = some (.int .i64 (fldI l 5)) ∧ w'.cell? ⟨w.heap.size + 1, 6, none⟩ = some (.int .i64 (fldI l 6)))
          (first
            | exact ⟨hcb, c0, c1, c2, c3, c4, c5, c6⟩
            | go_keep)
          (fail)
        go_wp2_with fail
        go_meet
        rw [engI_wrap]
        exact ⟨_, rfl, OBlk.new' wr 24 (metaV l), (hr.alloc _).drew, (hb.alloc hb.size _).drew⟩
      case rest =>
        obtain ⟨gm, rfl, hm3, hr3, hb3⟩ := hcut
        clear hl hr hb hgr c0 c1 c2 c3 c4 c5 c6 hcb
        obtain ⟨d0, d1, d2, d3, d4, d5, d6, d7⟩ := cells8 hm3
        rcases tf (okL l) with hk | hk
        case inr =>
          have HN : Hid (isMeta l = false) := by show _ = _; unfold isMeta; rw [hk]; simp
          go_wp2_with fail
          refine (Encode_Lbad l hk _).mono ?_
          rintro e w5 ⟨rfl, hw5⟩
          have hr5 := hr3.below hw5 hr3.lt
          have hb5 := hb3.trans (hw5.mono hb3.size)
          have f5 : ∀ j, j < 8 → w5.frozen? ⟨w.heap.size, j, none⟩ = false := fun j hj => hr5.frozen hj
          have f0 := f5 0 (by omega); have f1 := f5 1 (by omega); have f2 := f5 2 (by omega); have f3 := f5 3 (by omega)
          have f4 := f5 4 (by omega); have f6 := f5 6 (by omega); have f7 := f5 7 (by omega); have f5 := f5 5 (by omega)
          obtain ⟨e0, e1, e2, e3, e4, e5, e6, e7⟩ := cells8 hr5
          clear hk
          go_wp2_with fail
          obtain ⟨e0, e1, e2, e3, e4, e5, e6, e7⟩ := cells8 (set8 hr5 (.int .i64 0) (.int .i64 0) (.int .i64 0) (.int .i64 0) (.int .i64 0) (.int .i64 0) (.int .i64 0) (.int .i64 0))
          refine bodyPost_ret (v := .tuple #[.agg zeroV.toArray, .int .i64 50]) ?_ rfl ⟨by rw [HN.out]; rfl, below8 hb5 (Nat.le_refl _) (.int .i64 0) (.int .i64 0) (.int .i64 0) (.int .i64 0) (.int .i64 0) (.int .i64 0) (.int .i64 0) (.int .i64 0)⟩
          (simp [results, Try.results16, go_sem, e0, e1, e2, e3, e4, e5, e6, e7])
        case inl =>
          go_wp2_with fail
          refine (Encode_L l hk _).mono ?_
          rintro e w5 ⟨v5, rfl, ho5, hw5⟩
          have hr5 := hr3.below hw5 hr3.lt
          have hm5 := hm3.below hw5 hm3.lt
          have hb5 := hb3.trans (hw5.mono hb3.size)
          have q1 := run_B_string ho5.rd
          have q2 := run_B_string (hv.below hb5 (Nat.le_refl _))
          have f5 : ∀ j, j < 8 → w5.frozen? ⟨w.heap.size, j, none⟩ = false := fun j hj => hr5.frozen hj
          have f0 := f5 0 (by omega); have f1 := f5 1 (by omega); have f2 := f5 2 (by omega); have f3 := f5 3 (by omega)
          have f4 := f5 4 (by omega); have f6 := f5 6 (by omega); have f7 := f5 7 (by omega); have f5 := f5 5 (by omega)
          obtain ⟨e0, e1, e2, e3, e4, e5, e6, e7⟩ := cells8 hr5
          clear d0 d1 d2 d3 d4 d5 d6 d7
          obtain ⟨d0, d1, d2, d3, d4, d5, d6, d7⟩ := cells8 hm5
          by_cases he : encL l = l
          · have HN : Hid (isMeta l = true) := by show _ = _; unfold isMeta; rw [hk, decide_eq_true he, decide_eq_true ⟨h1, h2⟩]; rfl
            rw [he] at q1
            clear hk he
            go_wp2_with fail
            obtain ⟨e0, e1, e2, e3, e4, e5, e6, e7⟩ := cells8 (set8 hr5 (.int .i64 (engI l)) (.int .i64 (fldI l 0)) (.int .i64 (fldI l 1)) (.int .i64 (fldI l 2)) (.int .i64 (fldI l 3)) (.int .i64 (fldI l 4)) (.int .i64 (fldI l 5)) (.int .i64 (fldI l 6)))
            refine bodyPost_ret (v := .tuple #[.agg (metaV l).toArray, .int .i64 0]) ?_ rfl ⟨by rw [HN.out]; rfl, below8 hb5 (Nat.le_refl _) (.int .i64 (engI l)) (.int .i64 (fldI l 0)) (.int .i64 (fldI l 1)) (.int .i64 (fldI l 2)) (.int .i64 (fldI l 3)) (.int .i64 (fldI l 4)) (.int .i64 (fldI l 5)) (.int .i64 (fldI l 6))⟩
            (simp [results, Try.results16, go_sem, e0, e1, e2, e3, e4, e5, e6, e7, metaV])
          · have HN : Hid (isMeta l = false) := by show _ = _; unfold isMeta; rw [hk, decide_eq_false he]; simp
            have hne : (encL l == l) = false := by simp [he]
            clear hk he
            go_wp2_with fail
            obtain ⟨e0, e1, e2, e3, e4, e5, e6, e7⟩ := cells8 (set8 hr5 (.int .i64 0) (.int .i64 0) (.int .i64 0) (.int .i64 0) (.int .i64 0) (.int .i64 0) (.int .i64 0) (.int .i64 0))
            refine bodyPost_ret (v := .tuple #[.agg zeroV.toArray, .int .i64 50]) ?_ rfl ⟨by rw [HN.out]; rfl, below8 hb5 (Nat.le_refl _) (.int .i64 0) (.int .i64 0) (.int .i64 0) (.int .i64 0) (.int .i64 0) (.int .i64 0) (.int .i64 0) (.int .i64 0)⟩
            (simp [results, Try.results16, go_sem, e0, e1, e2, e3, e4, e5, e6, e7])
theorem Decode_any (v : Value) (l : List UInt8) (w : World) (hv : RdB w v l) : Calls Try.prog 16 #[v] w (DecPost l w) := by
  by_cases h : l.length < 512 ∨ 65536 < l.length
  · exact Decode_short v l w hv h
  · exact Decode_long v l w hv (by omega) (by omega)
end Go.Proofs.Ytdnfbjmapdgnnaa
