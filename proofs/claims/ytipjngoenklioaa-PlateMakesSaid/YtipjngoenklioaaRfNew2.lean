/- espalierref03.New: the walk. -/
import Derived.Test.YtipjngoenklioaaRfNew
namespace Go.Proofs.Ytipjngoenklioaa
open Go.RowKit
def RNewAt (w : World) (page n : Nat) (e : Ending) (w' : World) : Prop := ∃ r F, e = .returned (rfPtr r) ∧ RfAt w' F r (S0 page n) ∧ (∀ k, F k → w.heap.size ≤ k) ∧ Below w.heap.size w w'
theorem NewI.done {w wi : World} {page n pb : Nat} {lv : Value} {pv : List Value} (h : NewI w page n pb lv pv wi) (hd : devB page n = true) : RNewAt w page n (.returned (.pointer (some ⟨pb, 0, none⟩))) wi := by
  refine ⟨{ pb := pb, lv := lv, pv := pv, wl := .slice none 0 0, dv := [], vk := .slice none 0 0, armed := false, ra := 0 }, fun k => w.heap.size ≤ k ∧ k < wi.heap.size, rfl, ?_, fun k hk => hk.1, h.hb⟩
  have hl : (S0 page n).pg.length = pv.length := by simp [S0, h.len]
  exact { ok := S0_ok hd, blk := h.blk
          own := by rw [hl]; exact h.own.low (Nat.zero_le _)
          pl := hl.symm
          page := fun i hi v hv => by
            have e : (S0 page n).pg[i] = List.replicate page 0 := by simp [S0]
            rw [e]
            exact ⟨(h.el i v hv).low (Nat.zero_le _), fun g hg => Own.lt (h.el i v hv) g hg⟩
          apart := h.ap, loose := Own.nil _ _ _ _, dlen := rfl, data := fun i hi => by simp [S0] at hi
          keep := Own.nil _ _ _ _, armed := rfl, acts := fun h0 => by have : (0 : Int) ≤ -1 := h0; omega, ra := by show (-9223372036854775808 : Int) ≤ 0 ∧ (0 : Int) ≤ 9223372036854775807; omega
          fp := ⟨h.pb1, h.blk.lt⟩, fl := fun g hg => Own.lt h.own g hg, fw := fun g hg => by simp [Value.ownBlock] at hg, fk := fun g hg => by simp [Value.ownBlock] at hg, lt := fun k hk => hk.2 }
set_option maxRecDepth 20000 in
set_option maxHeartbeats 4000000 in
theorem RNew_ok (page n : Nat) (h : devB page n = true) (w : World) : Calls Try.prog 18 #[.int .i64 (page : Int), .int .i64 (n : Int)] w (RNewAt w page n) := by
  have H := Lib.hid h
  obtain ⟨h1, h2, h3, h4⟩ := devB_spec h
  have h5 := isPowB_range h1
  have hmk := fun w => run_make_B w page (by omega)
  obtain ⟨i0, hi, hz0, hz1, hz2⟩ := info_parts L_info
  clear h h1 h4
  go_enter Try.func18, Try.ntmps18
  go_wp2_with (first
    | (go_at_call 41; refine (device_any page n (by omega) _).mono ?_; rintro e w0 ⟨rfl, rfl⟩; rw [H.out]))
  go_loopw [7] (fun i wr => ∃ (k : Nat) (lv : Value) (pv : List Value), k ≤ n ∧ i = .int .i64 (k : Int) ∧ NewI w page k w.heap.size lv pv wr) (fun i _ => n - (intOf i).toNat)
  case atStart =>
    refine ⟨0, .slice none 0 0, [], Nat.zero_le _, rfl, { blk := OBlk.new' w _ _, own := Own.nil _ _ _ _, len := rfl, el := fun i v hv => by simp at hv, ap := fun i j a b _ ha => by simp at ha, hb := (Below.refl _ _).alloc (Nat.le_refl _) _, pb1 := Nat.le_refl _ }⟩
  case round =>
    obtain ⟨k, lv, pv, hk, rfl, hI⟩ := hrel
    by_cases hlt : k < n
    · have ik : (k : Int) < (n : Int) := by omega
      have hlen := hI.len
      obtain ⟨A, c, hlv⟩ := hI.own.slice
      rw [hlen] at hlv
      have b1 := hI.blk.cell' (j := 1) (u := lv) rfl
      rw [hlv] at b1
      have HLV := Lib.hid hlv
      have HLEN := Lib.hid hlen
      have hO : Own (((wr.alloc (.cells (bvs (List.replicate page 0)).toArray 5)).alloc (.cells #[.slice (some ⟨wr.heap.size, 0, none⟩) page page] 28)).drew) w.heap.size 28 1 (.slice A k c) k pv := by
        have := (hI.own.alloc (.cells (bvs (List.replicate page 0)).toArray 5)).alloc (.cells #[.slice (some ⟨wr.heap.size, 0, none⟩) page page] 28)
        rw [hlen, hlv] at this
        exact this.drew
      have hR : Rd (((wr.alloc (.cells (bvs (List.replicate page 0)).toArray 5)).alloc (.cells #[.slice (some ⟨wr.heap.size, 0, none⟩) page page] 28)).drew) 1 (.slice (some ⟨wr.heap.size + 1, 0, none⟩) 1 1) 1 [.slice (some ⟨wr.heap.size, 0, none⟩) page page] := by
        have := Rd.one (wr.alloc (.cells (bvs (List.replicate page 0)).toArray 5)) (.slice (some ⟨wr.heap.size, 0, none⟩) page page) 28
        rw [World.size_alloc] at this
        exact this
      have hsz := hI.hb.size
      have lbw : w.heap.size < wr.heap.size := hI.blk.lt
      have lbw2 : w.heap.size < wr.heap.size + 1 := by omega
      have HB := Lib.hid (((hI.blk.alloc (.cells (bvs (List.replicate page 0)).toArray 5)).alloc (.cells #[.slice (some ⟨wr.heap.size, 0, none⟩) page page] 28)).drew)
      have HO := Lib.hid hO
      have HR := Lib.hid hR
      clear hlv hlen hO hR
      go_upto_region 8 with (fail)
      go_region_law (first
        | (refine step_append (by rfl) (.tmp 25) (.tmp 28) _ _ (by rfl) w.heap.size 28 i0 _ 1 24 Try.underlying52 hi hz0 hz1 hz2 rfl _ k pv (by rfl) HO.out _ 1 _ (by rfl) (Rd.src _ Try.underlying52 (by omega) HR.out (by simp [Value.oneCell'])) (by omega) (by omega) (by simp; omega) ?_; intro v5 w5 ho5 hg5 hk5; have hb5 := HB.out.grown hg5 (fun e => HO.out.ne_T HB.out (by decide) e); have b5 := hb5.cell' (j := 1) (u := lv) rfl; have f5 := hb5.frozen (j := 1) (by simp); obtain ⟨A5, c5, rfl⟩ := Own.slice ho5)
        | fail)
      all_goals
        have hb2 : Below wr.heap.size wr (((wr.alloc (.cells (bvs (List.replicate page 0)).toArray 5)).alloc (.cells #[.slice (some ⟨wr.heap.size, 0, none⟩) page page] 28)).drew) := (((Below.refl _ _).alloc (Nat.le_refl _) _).alloc (by simp) _).drew
        have hu : OwB (((wr.alloc (.cells (bvs (List.replicate page 0)).toArray 5)).alloc (.cells #[.slice (some ⟨wr.heap.size, 0, none⟩) page page] 28)).drew) wr.heap.size (.slice (some ⟨wr.heap.size, 0, none⟩) page page) (List.replicate page 0) := by
          have := (((OBlk.new' wr 5 (bvs (List.replicate page 0))).alloc (.cells #[.slice (some ⟨wr.heap.size, 0, none⟩) page page] 28)).drew).owB' (base := wr.heap.size) (Nat.le_refl _) (by simp [maxLen]; omega)
          simpa using this
        have hI2 := hI.push (lv' := .slice A5 (k + 1) c5) (by omega) (.slice (some ⟨wr.heap.size, 0, none⟩) page page) hb2 hu (by rw [HLEN.out]; exact ho5) (by rw [HLV.out]; exact hg5) _ rfl
        clear hb5 b5 f5 hb2 hu ho5 hg5 hk5 HO HB HR
        go_wp2_with fail
        go_roundw
        case rel => exact ⟨k + 1, _, _, by omega, by go_num, hI2⟩
        case measure => simp [intOf]; omega
    · obtain rfl : k = n := by omega
      go_wp2_with fail
      go_ret
      exact hI.done H.out
end Go.Proofs.Ytipjngoenklioaa
