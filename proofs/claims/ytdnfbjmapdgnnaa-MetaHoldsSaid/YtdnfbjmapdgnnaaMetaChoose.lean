/- meta.Slot, espalierref05.Slot, meta.Choose: walks. -/
import Derived.Test.YtdnfbjmapdgnnaaMetaDec
namespace Go.Proofs.Ytdnfbjmapdgnnaa
open Go.RowKit

theorem and_one_i64 (t : Int) (h1 : -9223372036854775808 ≤ t) (h2 : t ≤ 9223372036854775807) : bits .and .i64 t 1 = t % 2 := by
  show IntKind.i64.wrap ((BitVec.ofInt 64 t &&& BitVec.ofInt 64 1).toNat : Int) = _
  rw [BitVec.toNat_and, show (BitVec.ofInt 64 1).toNat = 1 from rfl, Nat.and_one_is_mod, BitVec.toNat_ofInt, IntKind.wrap_i64]
  omega
theorem Slot_any (t : Int) (h1 : -9223372036854775808 ≤ t) (h2 : t ≤ 9223372036854775807) (w : World) :
    Calls Try.prog 11 #[.int .i64 t] w fun e w' => e = .returned (.int .i64 (t % 2)) ∧ w = w' := by
  have h := and_one_i64 t h1 h2
  clear h1 h2
  go_enter Try.func11, Try.ntmps11
  go_wp2
  go_ret
  exact ⟨rfl, rfl⟩
theorem RSlot_any (t : Int) (h1 : -9223372036854775808 ≤ t) (h2 : t ≤ 9223372036854775807) (w : World) :
    Calls Try.prog 12 #[.int .i64 t] w fun e w' => e = .returned (.int .i64 (t % 2)) ∧ w = w' := by
  have hr : -1 ≤ t.tmod 2 ∧ t.tmod 2 ≤ 1 ∧ (t.tmod 2 + 2) % 2 = t % 2 := by
    rcases Int.lt_or_le t 0 with h | h
    · have e : t.tmod 2 = -((-t) % 2) := by rw [← Int.tmod_eq_emod_of_nonneg (by omega), ← Int.neg_tmod, Int.neg_neg]
      rw [e]; omega
    · rw [Int.tmod_eq_emod_of_nonneg h]; omega
  obtain ⟨h3, h4, h5⟩ := hr
  have H5 := Lib.hid h5
  clear h5
  go_enter Try.func12, Try.ntmps12
  go_wp2
  go_ret
  exact ⟨by rw [← H5.out]; rfl, rfl⟩

def oneB (a : List UInt8) : Bool := isMeta a && (fldI a 1 % 2 == 0)
def twoB (b : List UInt8) : Bool := isMeta b && (fldI b 1 % 2 == 1)
def pickB (a b : List UInt8) : Bool := twoB b && (!oneB a || decide (fldI a 1 < fldI b 1))
def choV (a b : List UInt8) : List Value := bif pickB a b then metaV b else bif oneB a then metaV a else zeroV
def choW (a b : List UInt8) : Int := bif pickB a b then 1 else 0
def choE (a b : List UInt8) : Int := bif pickB a b then 0 else bif oneB a then 0 else 51
def ChoPost (a b : List UInt8) (w : World) (e : Ending) (w' : World) : Prop :=
  e = .returned (.tuple #[.agg (choV a b).toArray, .int .i64 (choW a b), .int .i64 (choE a b)]) ∧ Below w.heap.size w w'
def bestV (a b : List UInt8) : Nat → List Value | 0 => zeroV | 1 => bif oneB a then metaV a else zeroV | _ => choV a b
def bestW (a b : List UInt8) : Nat → Int | 0 => 0 | 1 => 0 | _ => choW a b
theorem engI_pos {l : List UInt8} (h : isMeta l = true) : (engI l == 0) = false := by
  simp only [isMeta, Bool.and_eq_true] at h
  obtain ⟨eg, pg, tx, rt, ct, fr, ls, hi, h1, _, _, _, _, _, _, _, _, hok⟩ := okL_nat h.2.1
  have := (okB_bounds hok).1
  rw [h1]; simp; omega
theorem Decode_y (v : Value) (l : List UInt8) (h : isMeta l = true) (w : World) (hv : RdB w v l) : Calls Try.prog 16 #[v] w fun e w' => e = .returned (.tuple #[.agg #[.int .i64 (engI l), .int .i64 (fldI l 0), .int .i64 (fldI l 1), .int .i64 (fldI l 2), .int .i64 (fldI l 3), .int .i64 (fldI l 4), .int .i64 (fldI l 5), .int .i64 (fldI l 6)], .int .i64 0]) ∧ Below w.heap.size w w' :=
  (Decode_any v l w hv).mono fun e w' hh => by
    obtain ⟨he, hw⟩ := hh
    rw [h] at he
    exact ⟨he, hw⟩
theorem Decode_n (v : Value) (l : List UInt8) (h : isMeta l = false) (w : World) (hv : RdB w v l) : Calls Try.prog 16 #[v] w fun e w' => e = .returned (.tuple #[.agg #[.int .i64 0, .int .i64 0, .int .i64 0, .int .i64 0, .int .i64 0, .int .i64 0, .int .i64 0, .int .i64 0], .int .i64 50]) ∧ Below w.heap.size w w' :=
  (Decode_any v l w hv).mono fun e w' hh => by
    obtain ⟨he, hw⟩ := hh
    rw [h] at he
    exact ⟨he, hw⟩
theorem two_at0 (A B : Option Addr) (n m c d : Nat) (w : World) : (Instr.index 61 (.agg #[.slice A n c, .slice B m d]) (.int .i64 0)).run Try.prog w = .ok (.slice A n c) w := by kernel_rfl
theorem two_at1 (A B : Option Addr) (n m c d : Nat) (w : World) : (Instr.index 61 (.agg #[.slice A n c, .slice B m d]) (.int .i64 1)).run Try.prog w = .ok (.slice B m d) w := by kernel_rfl
set_option maxRecDepth 100000 in
set_option maxHeartbeats 2000000 in
theorem Choose_any (va vb : Value) (a b : List UInt8) (w : World) (ha : RdB w va a) (hb : RdB w vb b) :
    Calls Try.prog 17 #[va, vb] w (ChoPost a b w) := by
  obtain ⟨A, ca, rfl, hma⟩ := ha.form
  obtain ⟨B, cb, rfl, hmb⟩ := hb.form
  have x0 := two_at0 A B a.length b.length ca cb
  have x1 := two_at1 A B a.length b.length ca cb
  go_enter Try.func17, Try.ntmps17
  go_wp2_with fail
  go_loopw [8, 16] (fun wh i wr => ∃ k : Nat, i = .int .i64 (k : Int) ∧ k ≤ 2 ∧ wh = .int .i64 (bestW a b k) ∧ OBlk wr (w.heap.size + 1) 24 (bestV a b k) ∧ OBlk wr w.heap.size 24 zeroV ∧ Below w.heap.size w wr)
    (fun _ i _ => 2 - (intOf i).toNat)
  case atStart =>
    refine ⟨0, rfl, by omega, rfl, ?_, (OBlk.new' w 24 zeroV).alloc _, ((Below.refl _ _).alloc (Nat.le_refl _) _).alloc (by simp) _⟩
    have := OBlk.new' (w.alloc (.cells zeroV.toArray 24)) 24 zeroV
    rw [World.size_alloc] at this
    exact this
  case round =>
    obtain ⟨k, rfl, hk, rfl, hbest, hres, hbl⟩ := hrel
    rcases (by omega : k = 0 ∨ k = 1 ∨ k = 2) with rfl | rfl | rfl
    · rw [show bestW a b 0 = 0 from rfl, show ((0 : Nat) : Int) = 0 from rfl]
      rcases tf (isMeta a) with hm | hm
      · have hR := fldI_range a 1
        rcases tf (fldI a 1 % 2 == 0) with hp | hp
        · go_upto_region 6 with (fail)
          go_cut [11, 12] from 20 to 24 (fun s t wx => ∃ gm : Nat, s = .pointer (some ⟨gm, 0, none⟩) ∧ t = .int .i64 0 ∧ OBlk wx gm 24 (metaV a) ∧ OBlk wx (w.heap.size + 1) 24 (bestV a b 0) ∧ OBlk wx w.heap.size 24 zeroV ∧ Below w.heap.size w wx)
          case first =>
            go_wp2_with fail
            refine (Decode_y _ a hm _ (ha.below hbl (Nat.le_refl _))).mono ?_
            rintro e w5 ⟨rfl, hw5⟩
            have hb5 := hbest.below hw5 hbest.lt
            have hr5 := hres.below hw5 hres.lt
            have hbl5 := hbl.trans (hw5.mono hbl.size)
            go_wp2_with fail
            go_meet
            exact ⟨_, rfl, rfl, OBlk.new' w5 24 (metaV a), hb5.alloc _, hr5.alloc _, hbl5.alloc hbl5.size _⟩
          case rest =>
            obtain ⟨gm, rfl, rfl, hm6, hb6, hr6, hbl6⟩ := hcut
            obtain ⟨d0, d1, d2, d3, d4, d5, d6, d7⟩ := cells8 hm6
            have hv : bestV a b 1 = metaV a := by simp [bestV, oneB, hm, hp]
            have hw : bestW a b 1 = 0 := rfl
            have hb7 : OBlk wc (w.heap.size + 1) 24 zeroV := hb6
            obtain ⟨e0, e1, e2, e3, e4, e5, e6, e7⟩ := cells8 hb7
            have f5 : ∀ j, j < 8 → wc.frozen? ⟨w.heap.size + 1, j, none⟩ = false := fun j hj => hb6.frozen (by rw [show (bestV a b 0).length = 8 from rfl]; exact hj)
            have f0 := f5 0 (by omega); have f1 := f5 1 (by omega); have f2 := f5 2 (by omega); have f3 := f5 3 (by omega)
            have f4 := f5 4 (by omega); have f6 := f5 6 (by omega); have f7 := f5 7 (by omega); have f5 := f5 5 (by omega)
            have HV := Lib.hid hv
            have HW := Lib.hid hw
            clear hv hw
            go_wp2_with (go_at_call 11; refine (Slot_any _ hR.1 hR.2 _).mono ?_; rintro e w6 ⟨rfl, rfl⟩)
            exact ⟨⟨1, rfl, by omega, by rw [HW.out], by rw [HV.out]; exact set8 hb7 (.int .i64 (engI a)) (.int .i64 (fldI a 0)) (.int .i64 (fldI a 1)) (.int .i64 (fldI a 2)) (.int .i64 (fldI a 3)) (.int .i64 (fldI a 4)) (.int .i64 (fldI a 5)) (.int .i64 (fldI a 6)), far8 hr6 (by omega) (.int .i64 (engI a)) (.int .i64 (fldI a 0)) (.int .i64 (fldI a 1)) (.int .i64 (fldI a 2)) (.int .i64 (fldI a 3)) (.int .i64 (fldI a 4)) (.int .i64 (fldI a 5)) (.int .i64 (fldI a 6)), below8 hbl6 (by omega) (.int .i64 (engI a)) (.int .i64 (fldI a 0)) (.int .i64 (fldI a 1)) (.int .i64 (fldI a 2)) (.int .i64 (fldI a 3)) (.int .i64 (fldI a 4)) (.int .i64 (fldI a 5)) (.int .i64 (fldI a 6))⟩, by simp [intOf]⟩
        · go_upto_region 6 with (fail)
          go_cut [11, 12] from 20 to 24 (fun s t wx => ∃ gm : Nat, s = .pointer (some ⟨gm, 0, none⟩) ∧ t = .int .i64 0 ∧ OBlk wx gm 24 (metaV a) ∧ OBlk wx (w.heap.size + 1) 24 (bestV a b 0) ∧ OBlk wx w.heap.size 24 zeroV ∧ Below w.heap.size w wx)
          case first =>
            go_wp2_with fail
            refine (Decode_y _ a hm _ (ha.below hbl (Nat.le_refl _))).mono ?_
            rintro e w5 ⟨rfl, hw5⟩
            have hb5 := hbest.below hw5 hbest.lt
            have hr5 := hres.below hw5 hres.lt
            have hbl5 := hbl.trans (hw5.mono hbl.size)
            go_wp2_with fail
            go_meet
            exact ⟨_, rfl, rfl, OBlk.new' w5 24 (metaV a), hb5.alloc _, hr5.alloc _, hbl5.alloc hbl5.size _⟩
          case rest =>
            obtain ⟨gm, rfl, rfl, hm6, hb6, hr6, hbl6⟩ := hcut
            obtain ⟨d0, d1, d2, d3, d4, d5, d6, d7⟩ := cells8 hm6
            have HV : Hid (bestV a b 1 = zeroV) := by show _ = _; simp [bestV, oneB, hm, hp]
            have HW : Hid (bestW a b 1 = 0) := rfl
            go_wp2_with (go_at_call 11; refine (Slot_any _ hR.1 hR.2 _).mono ?_; rintro e w6 ⟨rfl, rfl⟩)
            exact ⟨⟨1, rfl, by omega, by rw [HW.out], by rw [HV.out]; exact hb6, hr6, hbl6⟩, by simp [intOf]⟩
      · go_upto_region 6 with (fail)
        go_cut [11, 12] from 20 to 24 (fun s t wx => ∃ gm : Nat, s = .pointer (some ⟨gm, 0, none⟩) ∧ t = .int .i64 50 ∧ OBlk wx gm 24 zeroV ∧ OBlk wx (w.heap.size + 1) 24 (bestV a b 0) ∧ OBlk wx w.heap.size 24 zeroV ∧ Below w.heap.size w wx)
        case first =>
          go_wp2_with fail
          refine (Decode_n _ a hm _ (ha.below hbl (Nat.le_refl _))).mono ?_
          rintro e w5 ⟨rfl, hw5⟩
          have hb5 := hbest.below hw5 hbest.lt
          have hr5 := hres.below hw5 hres.lt
          have hbl5 := hbl.trans (hw5.mono hbl.size)
          go_wp2_with fail
          go_meet
          exact ⟨_, rfl, rfl, OBlk.new' w5 24 zeroV, hb5.alloc _, hr5.alloc _, hbl5.alloc hbl5.size _⟩
        case rest =>
          obtain ⟨gm, rfl, rfl, hm6, hb6, hr6, hbl6⟩ := hcut
          obtain ⟨d0, d1, d2, d3, d4, d5, d6, d7⟩ := cells8 hm6
          have HV : Hid (bestV a b 1 = zeroV) := by show _ = _; simp [bestV, oneB, hm]
          have HW : Hid (bestW a b 1 = 0) := rfl
          go_wp2_with fail
          exact ⟨⟨1, rfl, by omega, by rw [HW.out], by rw [HV.out]; exact hb6, hr6, hbl6⟩, by simp [intOf]⟩
    · rw [show bestW a b 1 = 0 from rfl, show ((1 : Nat) : Int) = 1 from rfl]
      rcases tf (isMeta b) with hm | hm
      · have hR := fldI_range b 1
        rcases tf (fldI b 1 % 2 == 1) with hp | hp
        · go_upto_region 6 with (fail)
          go_cut [11, 12] from 20 to 24 (fun s t wx => ∃ gm : Nat, s = .pointer (some ⟨gm, 0, none⟩) ∧ t = .int .i64 0 ∧ OBlk wx gm 24 (metaV b) ∧ OBlk wx (w.heap.size + 1) 24 (bestV a b 1) ∧ OBlk wx w.heap.size 24 zeroV ∧ Below w.heap.size w wx)
          case first =>
            go_wp2_with fail
            refine (Decode_y _ b hm _ (hb.below hbl (Nat.le_refl _))).mono ?_
            rintro e w5 ⟨rfl, hw5⟩
            have hb5 := hbest.below hw5 hbest.lt
            have hr5 := hres.below hw5 hres.lt
            have hbl5 := hbl.trans (hw5.mono hbl.size)
            go_wp2_with fail
            go_meet
            exact ⟨_, rfl, rfl, OBlk.new' w5 24 (metaV b), hb5.alloc _, hr5.alloc _, hbl5.alloc hbl5.size _⟩
          case rest =>
            obtain ⟨gm, rfl, rfl, hm6, hb6, hr6, hbl6⟩ := hcut
            obtain ⟨d0, d1, d2, d3, d4, d5, d6, d7⟩ := cells8 hm6
            rcases tf (oneB a) with ho | ho
            · have hma := (Bool.and_eq_true _ _ ▸ ho : isMeta a = true ∧ _).1
              have hb7 : OBlk wc (w.heap.size + 1) 24 (metaV a) := by have := hb6; simp only [bestV, ho, cond_true] at this; exact this
              have z0 := engI_pos hma
              obtain ⟨e0, e1, e2, e3, e4, e5, e6, e7⟩ := cells8 hb7
              have hl8 : (bestV a b 1).length = 8 := by simp [bestV, ho, metaV]
              have f5 : ∀ j, j < 8 → wc.frozen? ⟨w.heap.size + 1, j, none⟩ = false := fun j hj => hb6.frozen (by rw [hl8]; exact hj)
              have f0 := f5 0 (by omega); have f1 := f5 1 (by omega); have f2 := f5 2 (by omega); have f3 := f5 3 (by omega)
              have f4 := f5 4 (by omega); have f6 := f5 6 (by omega); have f7 := f5 7 (by omega); have f5 := f5 5 (by omega)
              by_cases hlt : fldI a 1 < fldI b 1
              · have HV : Hid (bestV a b 2 = metaV b) := by show _ = _; simp [bestV, choV, pickB, twoB, hm, hp, hlt]
                have HW : Hid (bestW a b 2 = 1) := by show _ = _; simp [bestW, choW, pickB, twoB, hm, hp, hlt]
                clear hm ho
                go_wp2_with (go_at_call 11; refine (Slot_any _ hR.1 hR.2 _).mono ?_; rintro e w6 ⟨rfl, rfl⟩)
                exact ⟨⟨2, rfl, by omega, by rw [HW.out], by rw [HV.out]; exact set8 hb7 (.int .i64 (engI b)) (.int .i64 (fldI b 0)) (.int .i64 (fldI b 1)) (.int .i64 (fldI b 2)) (.int .i64 (fldI b 3)) (.int .i64 (fldI b 4)) (.int .i64 (fldI b 5)) (.int .i64 (fldI b 6)), far8 hr6 (by omega) (.int .i64 (engI b)) (.int .i64 (fldI b 0)) (.int .i64 (fldI b 1)) (.int .i64 (fldI b 2)) (.int .i64 (fldI b 3)) (.int .i64 (fldI b 4)) (.int .i64 (fldI b 5)) (.int .i64 (fldI b 6)), below8 hbl6 (by omega) (.int .i64 (engI b)) (.int .i64 (fldI b 0)) (.int .i64 (fldI b 1)) (.int .i64 (fldI b 2)) (.int .i64 (fldI b 3)) (.int .i64 (fldI b 4)) (.int .i64 (fldI b 5)) (.int .i64 (fldI b 6))⟩, by simp [intOf]⟩
              · have HV : Hid (bestV a b 2 = bestV a b 1) := by show _ = _; simp [bestV, choV, pickB, twoB, hm, hp, hlt, ho]
                have HW : Hid (bestW a b 2 = 0) := by show _ = _; simp [bestW, choW, pickB, twoB, hm, hp, hlt, ho]
                clear hm ho
                go_wp2_with (go_at_call 11; refine (Slot_any _ hR.1 hR.2 _).mono ?_; rintro e w6 ⟨rfl, rfl⟩)
                exact ⟨⟨2, rfl, by omega, by rw [HW.out], by rw [HV.out]; exact hb6, hr6, hbl6⟩, by simp [intOf]⟩
            · have hb7 : OBlk wc (w.heap.size + 1) 24 zeroV := by have := hb6; simp only [bestV, ho, cond_false] at this; exact this
              obtain ⟨e0, e1, e2, e3, e4, e5, e6, e7⟩ := cells8 hb7
              have hl8 : (bestV a b 1).length = 8 := by simp [bestV, ho]
              have f5 : ∀ j, j < 8 → wc.frozen? ⟨w.heap.size + 1, j, none⟩ = false := fun j hj => hb6.frozen (by rw [hl8]; exact hj)
              have f0 := f5 0 (by omega); have f1 := f5 1 (by omega); have f2 := f5 2 (by omega); have f3 := f5 3 (by omega)
              have f4 := f5 4 (by omega); have f6 := f5 6 (by omega); have f7 := f5 7 (by omega); have f5 := f5 5 (by omega)
              have HV : Hid (bestV a b 2 = metaV b) := by show _ = _; simp [bestV, choV, pickB, twoB, hm, hp, ho]
              have HW : Hid (bestW a b 2 = 1) := by show _ = _; simp [bestW, choW, pickB, twoB, hm, hp, ho]
              clear hm ho
              go_wp2_with (go_at_call 11; refine (Slot_any _ hR.1 hR.2 _).mono ?_; rintro e w6 ⟨rfl, rfl⟩)
              exact ⟨⟨2, rfl, by omega, by rw [HW.out], by rw [HV.out]; exact set8 hb7 (.int .i64 (engI b)) (.int .i64 (fldI b 0)) (.int .i64 (fldI b 1)) (.int .i64 (fldI b 2)) (.int .i64 (fldI b 3)) (.int .i64 (fldI b 4)) (.int .i64 (fldI b 5)) (.int .i64 (fldI b 6)), far8 hr6 (by omega) (.int .i64 (engI b)) (.int .i64 (fldI b 0)) (.int .i64 (fldI b 1)) (.int .i64 (fldI b 2)) (.int .i64 (fldI b 3)) (.int .i64 (fldI b 4)) (.int .i64 (fldI b 5)) (.int .i64 (fldI b 6)), below8 hbl6 (by omega) (.int .i64 (engI b)) (.int .i64 (fldI b 0)) (.int .i64 (fldI b 1)) (.int .i64 (fldI b 2)) (.int .i64 (fldI b 3)) (.int .i64 (fldI b 4)) (.int .i64 (fldI b 5)) (.int .i64 (fldI b 6))⟩, by simp [intOf]⟩
        · go_upto_region 6 with (fail)
          go_cut [11, 12] from 20 to 24 (fun s t wx => ∃ gm : Nat, s = .pointer (some ⟨gm, 0, none⟩) ∧ t = .int .i64 0 ∧ OBlk wx gm 24 (metaV b) ∧ OBlk wx (w.heap.size + 1) 24 (bestV a b 1) ∧ OBlk wx w.heap.size 24 zeroV ∧ Below w.heap.size w wx)
          case first =>
            go_wp2_with fail
            refine (Decode_y _ b hm _ (hb.below hbl (Nat.le_refl _))).mono ?_
            rintro e w5 ⟨rfl, hw5⟩
            have hb5 := hbest.below hw5 hbest.lt
            have hr5 := hres.below hw5 hres.lt
            have hbl5 := hbl.trans (hw5.mono hbl.size)
            go_wp2_with fail
            go_meet
            exact ⟨_, rfl, rfl, OBlk.new' w5 24 (metaV b), hb5.alloc _, hr5.alloc _, hbl5.alloc hbl5.size _⟩
          case rest =>
            obtain ⟨gm, rfl, rfl, hm6, hb6, hr6, hbl6⟩ := hcut
            obtain ⟨d0, d1, d2, d3, d4, d5, d6, d7⟩ := cells8 hm6
            have HV : Hid (bestV a b 2 = bestV a b 1) := by show _ = _; simp [bestV, choV, pickB, twoB, hm, hp]
            have HW : Hid (bestW a b 2 = 0) := by show _ = _; simp [bestW, choW, pickB, twoB, hm, hp]
            go_wp2_with (go_at_call 11; refine (Slot_any _ hR.1 hR.2 _).mono ?_; rintro e w6 ⟨rfl, rfl⟩)
            exact ⟨⟨2, rfl, by omega, by rw [HW.out], by rw [HV.out]; exact hb6, hr6, hbl6⟩, by simp [intOf]⟩
      · go_upto_region 6 with (fail)
        go_cut [11, 12] from 20 to 24 (fun s t wx => ∃ gm : Nat, s = .pointer (some ⟨gm, 0, none⟩) ∧ t = .int .i64 50 ∧ OBlk wx gm 24 zeroV ∧ OBlk wx (w.heap.size + 1) 24 (bestV a b 1) ∧ OBlk wx w.heap.size 24 zeroV ∧ Below w.heap.size w wx)
        case first =>
          go_wp2_with fail
          refine (Decode_n _ b hm _ (hb.below hbl (Nat.le_refl _))).mono ?_
          rintro e w5 ⟨rfl, hw5⟩
          have hb5 := hbest.below hw5 hbest.lt
          have hr5 := hres.below hw5 hres.lt
          have hbl5 := hbl.trans (hw5.mono hbl.size)
          go_wp2_with fail
          go_meet
          exact ⟨_, rfl, rfl, OBlk.new' w5 24 zeroV, hb5.alloc _, hr5.alloc _, hbl5.alloc hbl5.size _⟩
        case rest =>
          obtain ⟨gm, rfl, rfl, hm6, hb6, hr6, hbl6⟩ := hcut
          obtain ⟨d0, d1, d2, d3, d4, d5, d6, d7⟩ := cells8 hm6
          have HV : Hid (bestV a b 2 = bestV a b 1) := by show _ = _; simp [bestV, choV, pickB, twoB, hm]
          have HW : Hid (bestW a b 2 = 0) := by show _ = _; simp [bestW, choW, pickB, twoB, hm]
          go_wp2_with fail
          exact ⟨⟨2, rfl, by omega, by rw [HW.out], by rw [HV.out]; exact hb6, hr6, hbl6⟩, by simp [intOf]⟩
    · have f5 : ∀ j, j < 8 → wr.frozen? ⟨w.heap.size, j, none⟩ = false := fun j hj => hres.frozen hj
      have f0 := f5 0 (by omega); have f1 := f5 1 (by omega); have f2 := f5 2 (by omega); have f3 := f5 3 (by omega)
      have f4 := f5 4 (by omega); have f6 := f5 6 (by omega); have f7 := f5 7 (by omega); have f5 := f5 5 (by omega)
      obtain ⟨e0, e1, e2, e3, e4, e5, e6, e7⟩ := cells8 hres
      have hbest : OBlk wr (w.heap.size + 1) 24 (choV a b) := hbest
      rcases tf (pickB a b) with hp | hp
      · have ho : isMeta b = true := by
          simp only [pickB, twoB, Bool.and_eq_true] at hp; exact hp.1.1
        have z0 := engI_pos ho
        have HV : Hid (choV a b = (metaV b)) := by show _ = _; simp [choV, hp]
        have HW : Hid (choW a b = 1) := by show _ = _; simp [choW, hp]
        have HE : Hid (choE a b = 0) := by show _ = _; simp [choE, hp]
        have hb7 : OBlk wr (w.heap.size + 1) 24 (metaV b) := by rw [← HV.out]; exact hbest
        obtain ⟨d0, d1, d2, d3, d4, d5, d6, d7⟩ := cells8 hb7
        rw [show bestW a b 2 = 1 from HW.out]
        clear hbest hb7 ho hp
        go_wp2_with fail
        obtain ⟨e0, e1, e2, e3, e4, e5, e6, e7⟩ := cells8 (set8 hres (.int .i64 (engI b)) (.int .i64 (fldI b 0)) (.int .i64 (fldI b 1)) (.int .i64 (fldI b 2)) (.int .i64 (fldI b 3)) (.int .i64 (fldI b 4)) (.int .i64 (fldI b 5)) (.int .i64 (fldI b 6)))
        refine bodyPost_ret (v := .tuple #[.agg (metaV b).toArray, .int .i64 1, .int .i64 0]) ?_ rfl ⟨by rw [HV.out, HW.out, HE.out], below8 hbl (Nat.le_refl _) (.int .i64 (engI b)) (.int .i64 (fldI b 0)) (.int .i64 (fldI b 1)) (.int .i64 (fldI b 2)) (.int .i64 (fldI b 3)) (.int .i64 (fldI b 4)) (.int .i64 (fldI b 5)) (.int .i64 (fldI b 6))⟩
        simp [results, Try.results17, go_sem, e0, e1, e2, e3, e4, e5, e6, e7, metaV]
      · rcases tf (oneB a) with ho | ho
        · have hp2 : isMeta a = true := by
            have := ho; simp only [oneB, Bool.and_eq_true] at this; exact this.1
          have z0 := engI_pos hp2
          clear hp2
          have HV : Hid (choV a b = (metaV a)) := by show _ = _; simp [choV, hp, ho]
          have HW : Hid (choW a b = 0) := by show _ = _; simp [choW, hp, ho]
          have HE : Hid (choE a b = 0) := by show _ = _; simp [choE, hp, ho]
          have hb7 : OBlk wr (w.heap.size + 1) 24 (metaV a) := by rw [← HV.out]; exact hbest
          obtain ⟨d0, d1, d2, d3, d4, d5, d6, d7⟩ := cells8 hb7
          rw [show bestW a b 2 = 0 from HW.out]
          clear hbest hb7 ho hp
          go_wp2_with fail
          obtain ⟨e0, e1, e2, e3, e4, e5, e6, e7⟩ := cells8 (set8 hres (.int .i64 (engI a)) (.int .i64 (fldI a 0)) (.int .i64 (fldI a 1)) (.int .i64 (fldI a 2)) (.int .i64 (fldI a 3)) (.int .i64 (fldI a 4)) (.int .i64 (fldI a 5)) (.int .i64 (fldI a 6)))
          refine bodyPost_ret (v := .tuple #[.agg (metaV a).toArray, .int .i64 0, .int .i64 0]) ?_ rfl ⟨by rw [HV.out, HW.out, HE.out], below8 hbl (Nat.le_refl _) (.int .i64 (engI a)) (.int .i64 (fldI a 0)) (.int .i64 (fldI a 1)) (.int .i64 (fldI a 2)) (.int .i64 (fldI a 3)) (.int .i64 (fldI a 4)) (.int .i64 (fldI a 5)) (.int .i64 (fldI a 6))⟩
          simp [results, Try.results17, go_sem, e0, e1, e2, e3, e4, e5, e6, e7, metaV]
        · have HV : Hid (choV a b = zeroV) := by show _ = _; simp [choV, hp, ho]
          have HW : Hid (choW a b = 0) := by show _ = _; simp [choW, hp, ho]
          have HE : Hid (choE a b = 51) := by show _ = _; simp [choE, hp, ho]
          have hb7 : OBlk wr (w.heap.size + 1) 24 zeroV := by rw [← HV.out]; exact hbest
          obtain ⟨d0, d1, d2, d3, d4, d5, d6, d7⟩ := cells8 hb7
          rw [show bestW a b 2 = 0 from HW.out]
          clear hbest hb7 ho hp
          go_wp2_with fail
          obtain ⟨e0, e1, e2, e3, e4, e5, e6, e7⟩ := cells8 (set8 hres (.int .i64 0) (.int .i64 0) (.int .i64 0) (.int .i64 0) (.int .i64 0) (.int .i64 0) (.int .i64 0) (.int .i64 0))
          refine bodyPost_ret (v := .tuple #[.agg zeroV.toArray, .int .i64 0, .int .i64 51]) ?_ rfl ⟨by rw [HV.out, HW.out, HE.out], below8 hbl (Nat.le_refl _) (.int .i64 0) (.int .i64 0) (.int .i64 0) (.int .i64 0) (.int .i64 0) (.int .i64 0) (.int .i64 0) (.int .i64 0)⟩
          simp [results, Try.results17, go_sem, e0, e1, e2, e3, e4, e5, e6, e7]
end Go.Proofs.Ytdnfbjmapdgnnaa
