/- espalierref05.Decode: the walk. -/
import Derived.Test.YtdnfbjmapdgnnaaRefMetaDec
import Derived.Test.YtdnfbjmapdgnnaaMetaDec
namespace Go.Proofs.Ytdnfbjmapdgnnaa
open Go.RowKit

theorem REncode_L (l : List UInt8) (h : okL l = true) (w : World) :
    Calls Try.prog 13 #[.agg #[.int .i64 (engI l), .int .i64 (fldI l 0), .int .i64 (fldI l 1), .int .i64 (fldI l 2), .int .i64 (fldI l 3), .int .i64 (fldI l 4), .int .i64 (fldI l 5), .int .i64 (fldI l 6)]] w fun e w' =>
      ∃ v, e = .returned (.tuple #[v, .int .i64 0]) ∧ OwB w' w.heap.size v (encL l) ∧ Below w.heap.size w w' := by
  obtain ⟨eg, pg, tx, rt, ct, fr, ls, hi, h1, h2, h3, h4, h5, h6, h7, h8, he, hok⟩ := okL_nat h
  rw [h1, h2, h3, h4, h5, h6, h7, h8, he]
  exact REncode_ok eg pg tx rt ct fr ls hi hok w
theorem REncode_Lbad (l : List UInt8) (h : okL l = false) (w : World) :
    Calls Try.prog 13 #[.agg #[.int .i64 (engI l), .int .i64 (fldI l 0), .int .i64 (fldI l 1), .int .i64 (fldI l 2), .int .i64 (fldI l 3), .int .i64 (fldI l 4), .int .i64 (fldI l 5), .int .i64 (fldI l 6)]] w fun e w' =>
      e = .returned (.tuple #[.slice none 0 0, .int .i64 1]) ∧ Below w.heap.size w w' := REncode_bad _ _ _ _ _ _ _ _ h w
theorem okL_len {l : List UInt8} (h : okL l = true) (he : encL l = l) : fldI l 0 = l.length ∧ l.length ≤ 65536 ∧ 512 ≤ l.length := by
  obtain ⟨eg, pg, tx, rt, ct, fr, ls, hi, h1, h2, h3, h4, h5, h6, h7, h8, hee, hok⟩ := okL_nat h
  have hp := (okB_bounds hok).2.1
  have hl := encF_length (eg := eg) (tx := tx) (rt := rt) (ct := ct) (fr := fr) (ls := ls) (hi := hi) hp.1
  rw [← hee, he] at hl
  omega
theorem okL_page {l : List UInt8} (h : okL l = true) (h0 : fldI l 0 = l.length) : l.length ≤ 65536 := by
  obtain ⟨eg, pg, tx, rt, ct, fr, ls, hi, h1, h2, h3, h4, h5, h6, h7, h8, hee, hok⟩ := okL_nat h
  have hp := (okB_bounds hok).2.1
  omega
theorem num_0 (v : Value) (l : List UInt8) (h : 512 ≤ l.length) (w : World) (hv : RdB w v l) :
    Calls Try.prog 34 #[v, .int .i64 8, .int .i64 4] w fun e w' => e = .returned (.int .i64 (fldI l 0)) ∧ w = w' := by
  rw [fldI_small l 0 (Nat.le_trans (numF_lt4 l 8) (by decide))]
  exact number_any v l 8 4 (by omega) (by omega) (by omega) (Nat.le_trans (numF_lt4 l 8) (by decide)) w hv
theorem num_1 (v : Value) (l : List UInt8) (h : 512 ≤ l.length) (hb : l[12].toNat ≤ 127) (w : World) (hv : RdB w v l) :
    Calls Try.prog 34 #[v, .int .i64 12, .int .i64 8] w fun e w' => e = .returned (.int .i64 (fldI l 1)) ∧ w = w' := by
  rw [fldI_small l 1 (txn_small l h hb)]
  exact number_any v l 12 8 (by omega) (by omega) (by omega) (txn_small l h hb) w hv
theorem num_2 (v : Value) (l : List UInt8) (h : 512 ≤ l.length) (w : World) (hv : RdB w v l) :
    Calls Try.prog 34 #[v, .int .i64 20, .int .i64 4] w fun e w' => e = .returned (.int .i64 (fldI l 2)) ∧ w = w' := by
  rw [fldI_small l 2 (Nat.le_trans (numF_lt4 l 20) (by decide))]
  exact number_any v l 20 4 (by omega) (by omega) (by omega) (Nat.le_trans (numF_lt4 l 20) (by decide)) w hv
theorem num_3 (v : Value) (l : List UInt8) (h : 512 ≤ l.length) (w : World) (hv : RdB w v l) :
    Calls Try.prog 34 #[v, .int .i64 24, .int .i64 4] w fun e w' => e = .returned (.int .i64 (fldI l 3)) ∧ w = w' := by
  rw [fldI_small l 3 (Nat.le_trans (numF_lt4 l 24) (by decide))]
  exact number_any v l 24 4 (by omega) (by omega) (by omega) (Nat.le_trans (numF_lt4 l 24) (by decide)) w hv
theorem num_4 (v : Value) (l : List UInt8) (h : 512 ≤ l.length) (w : World) (hv : RdB w v l) :
    Calls Try.prog 34 #[v, .int .i64 28, .int .i64 4] w fun e w' => e = .returned (.int .i64 (fldI l 4)) ∧ w = w' := by
  rw [fldI_small l 4 (Nat.le_trans (numF_lt4 l 28) (by decide))]
  exact number_any v l 28 4 (by omega) (by omega) (by omega) (Nat.le_trans (numF_lt4 l 28) (by decide)) w hv
theorem num_5 (v : Value) (l : List UInt8) (h : 512 ≤ l.length) (w : World) (hv : RdB w v l) :
    Calls Try.prog 34 #[v, .int .i64 32, .int .i64 4] w fun e w' => e = .returned (.int .i64 (fldI l 5)) ∧ w = w' := by
  rw [fldI_small l 5 (Nat.le_trans (numF_lt4 l 32) (by decide))]
  exact number_any v l 32 4 (by omega) (by omega) (by omega) (Nat.le_trans (numF_lt4 l 32) (by decide)) w hv
theorem num_6 (v : Value) (l : List UInt8) (h : 512 ≤ l.length) (w : World) (hv : RdB w v l) :
    Calls Try.prog 34 #[v, .int .i64 36, .int .i64 4] w fun e w' => e = .returned (.int .i64 (fldI l 6)) ∧ w = w' := by
  rw [fldI_small l 6 (Nat.le_trans (numF_lt4 l 36) (by decide))]
  exact number_any v l 36 4 (by omega) (by omega) (by omega) (Nat.le_trans (numF_lt4 l 36) (by decide)) w hv
set_option maxRecDepth 100000 in
set_option maxHeartbeats 1000000 in
theorem RDecode_early (v : Value) (l : List UInt8) (w : World) (hv : RdB w v l) (h : l.length < 512 ∨ ∃ h : 512 ≤ l.length, 127 < (l[12]'(by omega)).toNat) :
    Calls Try.prog 18 #[v] w (DecPost l w) := by
  have hno : isMeta l = false := by
    rcases h with h | ⟨h1, h2⟩
    · have : ¬ (512 ≤ l.length ∧ l.length ≤ 65536) := by omega
      unfold isMeta; rw [decide_eq_false this]; rfl
    · unfold isMeta; rw [okL_txn (txn_big l h1 h2)]; simp
  have HN := Lib.hid hno
  clear hno
  obtain ⟨A, c, rfl, hm⟩ := hv.form
  rcases h with h | ⟨h1, h2⟩
  · have i1 : (l.length : Int) < 512 := by omega
    go_enter Try.func18, Try.ntmps18
    go_wp2
    exact bodyPost_ret (v := .tuple #[.agg zeroV.toArray, .int .i64 50]) (by simp [results, Try.results18, go_sem]) rfl ⟨by rw [HN.out]; rfl, (Below.refl _ _).alloc (Nat.le_refl _) _⟩
  · obtain ⟨ad, rfl, hcb⟩ := hv.at_ (j := 12) (by omega)
    have hcb' : (w.alloc (.cells zeroV.toArray 24)).cell? (ad.add 12) = some (.int .u8 (l[12].toNat : Int)) := by
      rw [World.cell?_alloc_lt w _ _ (World.block_lt_of_cell? w _ hcb)]; exact hcb
    rw [show ad.add 12 = ⟨ad.block, ad.off + 12, none⟩ from rfl] at hcb hcb'
    have i1 : ¬ (l.length : Int) < 512 := by omega
    have i2 : (12 : Int) < (l.length : Int) := by omega
    have i3 : 12 < l.length := by omega
    have i4 : (127 : Int) < (l[12].toNat : Int) := by omega
    go_enter Try.func18, Try.ntmps18
    go_wp2
    exact bodyPost_ret (v := .tuple #[.agg zeroV.toArray, .int .i64 50]) (by simp [results, Try.results18, go_sem]) rfl ⟨by rw [HN.out]; rfl, (Below.refl _ _).alloc (Nat.le_refl _) _⟩
set_option maxRecDepth 100000 in
set_option maxHeartbeats 1000000 in
theorem RDecode_late (v : Value) (l : List UInt8) (w : World) (hv : RdB w v l) (h : 512 ≤ l.length) (hb : l[12].toNat ≤ 127) :
    Calls Try.prog 18 #[v] w (DecPost l w) := by
  obtain ⟨A, c, rfl, hm⟩ := hv.form
  have i1 : ¬ (l.length : Int) < 512 := by omega
  have i2 : (12 : Int) < (l.length : Int) := by omega
  have i3 : 12 < l.length := by omega
  have i5 : (1 : Int) < (l.length : Int) := by omega
  have i6 : 1 < l.length := by omega
  obtain ⟨ad, rfl, hc12⟩ := hv.at_ (j := 12) (by omega)
  obtain ⟨ad', had, hc1⟩ := hv.at_ (j := 1) (by omega)
  injection had with had
  subst had
  have i4 : (l[12].toNat : Int) ≤ 127 := by omega
  have hge : (l[1].toNat : Int) = engI l := by
    unfold engI
    rw [List.getD_eq_getElem?_getD, List.getElem?_eq_getElem (by omega)]; rfl
  rw [hge] at hc1
  clear hge
  have N0 := Lib.hid (fun (W : World) (hW : RdB W (.slice (some ad) l.length c) l) => num_0 _ l h W hW)
  have N1 := Lib.hid (fun (W : World) (hW : RdB W (.slice (some ad) l.length c) l) => num_1 _ l h hb W hW)
  have N2 := Lib.hid (fun (W : World) (hW : RdB W (.slice (some ad) l.length c) l) => num_2 _ l h W hW)
  have N3 := Lib.hid (fun (W : World) (hW : RdB W (.slice (some ad) l.length c) l) => num_3 _ l h W hW)
  have N4 := Lib.hid (fun (W : World) (hW : RdB W (.slice (some ad) l.length c) l) => num_4 _ l h W hW)
  have N5 := Lib.hid (fun (W : World) (hW : RdB W (.slice (some ad) l.length c) l) => num_5 _ l h W hW)
  have N6 := Lib.hid (fun (W : World) (hW : RdB W (.slice (some ad) l.length c) l) => num_6 _ l h W hW)
  have hcb' : (w.alloc (.cells zeroV.toArray 24)).cell? (ad.add 12) = some (.int .u8 (l[12].toNat : Int)) := by
    rw [World.cell?_alloc_lt w _ _ (World.block_lt_of_cell? w _ hc12)]; exact hc12
  have hcb : (w.alloc (.cells zeroV.toArray 24)).cell? (ad.add 1) = some (.int .u8 (engI l)) := by
    rw [World.cell?_alloc_lt w _ _ (World.block_lt_of_cell? w _ hc1)]; exact hc1
  rw [show ad.add 12 = ⟨ad.block, ad.off + 12, none⟩ from rfl] at hcb'
  rw [show ad.add 1 = ⟨ad.block, ad.off + 1, none⟩ from rfl] at hcb
  clear hc1 hc12
  generalize l[12].toNat = x12 at *
  have hr1 : OBlk (w.alloc (.cells zeroV.toArray 24)) w.heap.size 24 zeroV := OBlk.new' w 24 zeroV
  have hb1 : Below w.heap.size w (w.alloc (.cells zeroV.toArray 24)) := (Below.refl _ _).alloc (Nat.le_refl _) _
  have hnew : OBlk ((w.alloc (.cells zeroV.toArray 24)).alloc (.cells (metaV l).toArray 24)) (w.heap.size + 1) 24 (metaV l) := by
    have := OBlk.new' (w.alloc (.cells zeroV.toArray 24)) 24 (metaV l)
    rw [World.size_alloc] at this; exact this
  go_enter Try.func18, Try.ntmps18
  go_wp2_with fail
  go_cut [4] from 17 to 35 (fun s wx => ∃ gm : Nat, s = .pointer (some ⟨gm, 0, none⟩) ∧ OBlk wx gm 24 (metaV l) ∧ OBlk wx w.heap.size 24 zeroV ∧ Below w.heap.size w wx)
  case first =>
    go_region_held3 (fun w' => w'.cell? ⟨ad.block, ad.off + 1, none⟩ = some (.int .u8 (engI l)))
      (first
        | exact hcb
        | go_keep)
      (first
        | (go_at_call 34; (with_reducible refine (N0.out _ ?_).mono ?_); (first | exact (hv.below hb1 (Nat.le_refl _)).drew | exact ((hv.below hb1 (Nat.le_refl _)).alloc _).drew); rintro e w9 ⟨rfl, rfl⟩)
        | (go_at_call 34; (with_reducible refine (N1.out _ ?_).mono ?_); (first | exact (hv.below hb1 (Nat.le_refl _)).drew | exact ((hv.below hb1 (Nat.le_refl _)).alloc _).drew); rintro e w9 ⟨rfl, rfl⟩)
        | (go_at_call 34; (with_reducible refine (N2.out _ ?_).mono ?_); (first | exact (hv.below hb1 (Nat.le_refl _)).drew | exact ((hv.below hb1 (Nat.le_refl _)).alloc _).drew); rintro e w9 ⟨rfl, rfl⟩)
        | (go_at_call 34; (with_reducible refine (N3.out _ ?_).mono ?_); (first | exact (hv.below hb1 (Nat.le_refl _)).drew | exact ((hv.below hb1 (Nat.le_refl _)).alloc _).drew); rintro e w9 ⟨rfl, rfl⟩)
        | (go_at_call 34; (with_reducible refine (N4.out _ ?_).mono ?_); (first | exact (hv.below hb1 (Nat.le_refl _)).drew | exact ((hv.below hb1 (Nat.le_refl _)).alloc _).drew); rintro e w9 ⟨rfl, rfl⟩)
        | (go_at_call 34; (with_reducible refine (N5.out _ ?_).mono ?_); (first | exact (hv.below hb1 (Nat.le_refl _)).drew | exact ((hv.below hb1 (Nat.le_refl _)).alloc _).drew); rintro e w9 ⟨rfl, rfl⟩)
        | (go_at_call 34; (with_reducible refine (N6.out _ ?_).mono ?_); (first | exact (hv.below hb1 (Nat.le_refl _)).drew | exact ((hv.below hb1 (Nat.le_refl _)).alloc _).drew); rintro e w9 ⟨rfl, rfl⟩)
        | fail)
    all_goals (go_wp2_with fail; go_meet; rw [engI_wrap])
    all_goals exact ⟨_, rfl, hnew, (hr1.alloc _).drew, (hb1.alloc hb1.size _).drew⟩
  case rest =>
    obtain ⟨gm, rfl, hm3, hr3, hb3⟩ := hcut
    clear hr1 hb1 hcb hcb' N0 N1 N2 N3 N4 N5 N6
    obtain ⟨d0, d1, d2, d3, d4, d5, d6, d7⟩ := cells8 hm3
    by_cases hp : fldI l 0 = l.length
    case neg =>
      have HN : Hid (isMeta l = false) := by
        show _ = _
        unfold isMeta
        rcases tf (okL l) with hk | hk
        · have : ¬ (encL l = l) := fun he => hp (okL_len hk he).1
          rw [decide_eq_false this]; simp
        · rw [hk]; simp
      have hpb : (fldI l 0 != (l.length : Int)) = true := by simp [hp]
      clear hp
      have f5 : ∀ j, j < 8 → wc.frozen? ⟨w.heap.size, j, none⟩ = false := fun j hj => hr3.frozen hj
      have f0 := f5 0 (by omega); have f1 := f5 1 (by omega); have f2 := f5 2 (by omega); have f3 := f5 3 (by omega)
      have f4 := f5 4 (by omega); have f6 := f5 6 (by omega); have f7 := f5 7 (by omega); have f5 := f5 5 (by omega)
      obtain ⟨e0, e1, e2, e3, e4, e5, e6, e7⟩ := cells8 hr3
      go_wp2_with fail
      obtain ⟨e0, e1, e2, e3, e4, e5, e6, e7⟩ := cells8 (set8 hr3 (.int .i64 0) (.int .i64 0) (.int .i64 0) (.int .i64 0) (.int .i64 0) (.int .i64 0) (.int .i64 0) (.int .i64 0))
      refine bodyPost_ret (v := .tuple #[.agg zeroV.toArray, .int .i64 50]) ?_ rfl ⟨by rw [HN.out]; rfl, below8 hb3 (Nat.le_refl _) (.int .i64 0) (.int .i64 0) (.int .i64 0) (.int .i64 0) (.int .i64 0) (.int .i64 0) (.int .i64 0) (.int .i64 0)⟩
      simp [results, Try.results18, go_sem, e0, e1, e2, e3, e4, e5, e6, e7]
    case pos =>
      have hpb : (fldI l 0 != (l.length : Int)) = false := by simp [hp]
      have HP := Lib.hid hp
      clear hp
      rcases tf (okL l) with hk | hk
      case inr =>
        have HN : Hid (isMeta l = false) := by show _ = _; unfold isMeta; rw [hk]; simp
        go_wp2_with fail
        refine (REncode_Lbad l hk _).mono ?_
        rintro e w5 ⟨rfl, hw5⟩
        have hr5 := hr3.below hw5 hr3.lt
        have hb5 := hb3.trans (hw5.mono hb3.size)
        have f5 : ∀ j, j < 8 → w5.frozen? ⟨w.heap.size, j, none⟩ = false := fun j hj => hr5.frozen hj
        have f0 := f5 0 (by omega); have f1 := f5 1 (by omega); have f2 := f5 2 (by omega); have f3 := f5 3 (by omega)
        have f4 := f5 4 (by omega); have f6 := f5 6 (by omega); have f7 := f5 7 (by omega); have f5 := f5 5 (by omega)
        obtain ⟨e0, e1, e2, e3, e4, e5, e6, e7⟩ := cells8 hr5
        clear hk
        go_wp2_with fail
        obtain ⟨e0, e1, e2, e3, e4, e5, e6, e7⟩ := cells8 (set8 hr5 (.int .i64 0) (.int .i64 0) (.int .i64 0) (.int .i64 0) (.int .i64 0) (.int .i64 0) (.int .i64 0) (.int .i64 0))
        refine bodyPost_ret (v := .tuple #[.agg zeroV.toArray, .int .i64 50]) ?_ rfl ⟨by rw [HN.out]; rfl, below8 hb5 (Nat.le_refl _) (.int .i64 0) (.int .i64 0) (.int .i64 0) (.int .i64 0) (.int .i64 0) (.int .i64 0) (.int .i64 0) (.int .i64 0)⟩
        simp [results, Try.results18, go_sem, e0, e1, e2, e3, e4, e5, e6, e7]
      case inl =>
        have hle := okL_page hk HP.out
        go_wp2_with fail
        refine (REncode_L l hk _).mono ?_
        rintro e w5 ⟨v5, rfl, ho5, hw5⟩
        have hr5 := hr3.below hw5 hr3.lt
        have hm5 := hm3.below hw5 hm3.lt
        have hb5 := hb3.trans (hw5.mono hb3.size)
        have q1 := run_B_string ho5.rd
        have q2 := run_B_string (hv.below hb5 (Nat.le_refl _))
        have f5 : ∀ j, j < 8 → w5.frozen? ⟨w.heap.size, j, none⟩ = false := fun j hj => hr5.frozen hj
        have f0 := f5 0 (by omega); have f1 := f5 1 (by omega); have f2 := f5 2 (by omega); have f3 := f5 3 (by omega)
        have f4 := f5 4 (by omega); have f6 := f5 6 (by omega); have f7 := f5 7 (by omega); have f5 := f5 5 (by omega)
        obtain ⟨e0, e1, e2, e3, e4, e5, e6, e7⟩ := cells8 hr5
        clear d0 d1 d2 d3 d4 d5 d6 d7
        obtain ⟨d0, d1, d2, d3, d4, d5, d6, d7⟩ := cells8 hm5
        by_cases he : encL l = l
        · have HN : Hid (isMeta l = true) := by show _ = _; unfold isMeta; rw [hk, decide_eq_true he, decide_eq_true ⟨h, hle⟩]; rfl
          rw [he] at q1
          clear hk he
          go_wp2_with fail
          obtain ⟨e0, e1, e2, e3, e4, e5, e6, e7⟩ := cells8 (set8 hr5 (.int .i64 (engI l)) (.int .i64 (fldI l 0)) (.int .i64 (fldI l 1)) (.int .i64 (fldI l 2)) (.int .i64 (fldI l 3)) (.int .i64 (fldI l 4)) (.int .i64 (fldI l 5)) (.int .i64 (fldI l 6)))
          refine bodyPost_ret (v := .tuple #[.agg (metaV l).toArray, .int .i64 0]) ?_ rfl ⟨by rw [HN.out]; rfl, below8 hb5 (Nat.le_refl _) (.int .i64 (engI l)) (.int .i64 (fldI l 0)) (.int .i64 (fldI l 1)) (.int .i64 (fldI l 2)) (.int .i64 (fldI l 3)) (.int .i64 (fldI l 4)) (.int .i64 (fldI l 5)) (.int .i64 (fldI l 6))⟩
          simp [results, Try.results18, go_sem, e0, e1, e2, e3, e4, e5, e6, e7, metaV]
        · have HN : Hid (isMeta l = false) := by show _ = _; unfold isMeta; rw [hk, decide_eq_false he]; simp
          have hne : (encL l == l) = false := by simp [he]
          clear hk he
          go_wp2_with fail
          obtain ⟨e0, e1, e2, e3, e4, e5, e6, e7⟩ := cells8 (set8 hr5 (.int .i64 0) (.int .i64 0) (.int .i64 0) (.int .i64 0) (.int .i64 0) (.int .i64 0) (.int .i64 0) (.int .i64 0))
          refine bodyPost_ret (v := .tuple #[.agg zeroV.toArray, .int .i64 50]) ?_ rfl ⟨by rw [HN.out]; rfl, below8 hb5 (Nat.le_refl _) (.int .i64 0) (.int .i64 0) (.int .i64 0) (.int .i64 0) (.int .i64 0) (.int .i64 0) (.int .i64 0) (.int .i64 0)⟩
          simp [results, Try.results18, go_sem, e0, e1, e2, e3, e4, e5, e6, e7]
theorem RDecode_any (v : Value) (l : List UInt8) (w : World) (hv : RdB w v l) : Calls Try.prog 18 #[v] w (DecPost l w) := by
  by_cases h : l.length < 512
  · exact RDecode_early v l w hv (.inl h)
  · by_cases h2 : 127 < (l[12]'(by omega)).toNat
    · exact RDecode_early v l w hv (.inr ⟨by omega, h2⟩)
    · exact RDecode_late v l w hv (by omega) (by omega)
end Go.Proofs.Ytdnfbjmapdgnnaa
