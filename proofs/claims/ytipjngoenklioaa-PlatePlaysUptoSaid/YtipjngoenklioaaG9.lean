/- Texts joined: espalierref03.device, New; espalierref03.New; espalierref03.Load; espalierref03.Lent, AsLent; espalierref03.AsLent; espalierlaw03.PlateMakes -/
import Derived.Test.YtipjngoenklioaaG2
import Derived.Test.YtipjngoenklioaaG4
import Derived.Test.YtipjngoenklioaaG6
import Derived.Test.YtipjngoenklioaaG8
import Derived.Deep.RegionLaw
import Derived.Deep.QuietTactic
import Derived.BigQuiet
import Derived.Deep.DeepCutAuto
import Derived.Deep.RegionHeld3
-- espalierref03.device, New: walks.
namespace Go.Proofs.Ytipjngoenklioaa
open Go.RowKit
set_option maxRecDepth 20000 in
set_option maxHeartbeats 2000000 in
theorem device_any (p n : Int) (hp : -9223372036854775808 ≤ p ∧ p ≤ 9223372036854775807) (w : World) : Calls Try.prog 41 #[.int .i64 p, .int .i64 n] w fun e w' => e = .returned (.bool (devB p n)) ∧ w = w' := by
  cases hq : isPowB p
  · have HV := Lib.hid (devB_pow (n := n) hq)
    have HP := Lib.hid hq
    clear hq
    go_enter Try.func41, Try.ntmps41
    go_wp2_with (first
      | (go_at_call 42; refine (IsPage_any _ _).mono ?_; rintro e w0 ⟨rfl, rfl⟩; rw [HP.out]))
    go_ret
    rw [HV.out]
    exact ⟨rfl, rfl⟩
  have h5 := isPowB_range hq
  have HP := Lib.hid hq
  by_cases h1 : 4 ≤ n
  · by_cases h2 : n ≤ 65536
    · have hm : 0 ≤ n * p ∧ n * p ≤ 65536 * 65536 := ⟨Int.mul_nonneg (by omega) (by omega), Int.mul_le_mul h2 h5.2 (by omega) (by omega)⟩
      have HV : Hid (devB p n = decide (n * p ≤ 67108864)) := Lib.hid (by unfold devB; rw [hq, decide_eq_true h1, decide_eq_true h2]; rfl)
      clear hq
      obtain ⟨x, hx⟩ : ∃ x, n * p = x := ⟨_, rfl⟩
      rw [hx] at HV hm
      have wm : IntKind.i64.wrap x = x := IntWalk.i64_in _ (by omega)
      by_cases h3 : x ≤ 67108864
      · have HD := Lib.hid (decide_eq_true h3)
        clear hm
        go_enter Try.func41, Try.ntmps41
        go_wp2_with (first
          | (go_at_call 42; refine (IsPage_any _ _).mono ?_; rintro e w0 ⟨rfl, rfl⟩; rw [HP.out]))
        go_ret
        rw [HV.out, HD.out]
        exact ⟨rfl, rfl⟩
      · have HD := Lib.hid (decide_eq_false h3)
        have h4 : 67108864 < x := by omega
        clear hm
        go_enter Try.func41, Try.ntmps41
        go_wp2_with (first
          | (go_at_call 42; refine (IsPage_any _ _).mono ?_; rintro e w0 ⟨rfl, rfl⟩; rw [HP.out]))
        go_ret
        rw [HV.out, HD.out]
        exact ⟨rfl, rfl⟩
    · have HV := Lib.hid (show devB p n = false by unfold devB; rw [hq, decide_eq_true h1, decide_eq_false h2]; rfl)
      clear hq
      go_enter Try.func41, Try.ntmps41
      go_wp2_with (first
        | (go_at_call 42; refine (IsPage_any _ _).mono ?_; rintro e w0 ⟨rfl, rfl⟩; rw [HP.out]))
      go_ret
      rw [HV.out]
      exact ⟨rfl, rfl⟩
  · have HV := Lib.hid (show devB p n = false by unfold devB; rw [hq, decide_eq_false h1]; rfl)
    clear hq
    go_enter Try.func41, Try.ntmps41
    go_wp2_with (first
      | (go_at_call 42; refine (IsPage_any _ _).mono ?_; rintro e w0 ⟨rfl, rfl⟩; rw [HP.out]))
    go_ret
    rw [HV.out]
    exact ⟨rfl, rfl⟩
theorem run_make_B (w : World) (n : Nat) (hn : n ≤ 281474976710656) : (Instr.makeSlice 28 (.int .i64 (n : Int)) (.int .i64 (n : Int))).run Try.prog w = .ok (.slice (some ⟨w.heap.size, 0, none⟩) n n) (w.alloc (.cells (bvs (List.replicate n 0)).toArray 5)) := by
  obtain ⟨i, hi, hz0, hz1, hz2⟩ := info_parts u8_info
  have hr := run_make (P := Try.prog) w 28 5 i _ Try.underlying28 hi hz0 .i64 .i64 n n (by omega) (by omega) (by rw [hz2]; omega) (by omega)
  have e := toList_madeCells_one (.int .u8 0) n
  rw [hr]
  simp only [Value.cells, hz1, Int.toNat_natCast, Nat.mul_one]
  rw [← Array.toArray_toList (xs := madeCells #[Value.int .u8 0] n), e, bvs_replicate]
theorem RNew_bad (page n : Int) (hp : -9223372036854775808 ≤ page ∧ page ≤ 9223372036854775807) (h : devB page n = false) (w : World) : Calls Try.prog 18 #[.int .i64 page, .int .i64 n] w fun e w' => e = .returned (.pointer none) ∧ w = w' := by
  have H := Lib.hid h
  clear h
  go_enter Try.func18, Try.ntmps18
  go_wp2_with (first
    | (go_at_call 41; refine (device_any page n hp _).mono ?_; rintro e w0 ⟨rfl, rfl⟩; rw [H.out]))
  go_ret
  exact ⟨rfl, rfl⟩
theorem OwB.ne_ownT {w : World} {b b' : Nat} {u v : Value} {l : List UInt8} {n size : Nat} {xs : List Value} {T : TypeId} (h : OwB w b u l) (h' : Own w b' T size v n xs) (hT : 5 ≠ T) : ∀ g, u.ownBlock = some g → some g ≠ v.ownBlock := fun g hg e => by
  rcases h'.2 with ⟨rfl, _⟩ | ⟨g', cap, cs, rfl, _, hg', _⟩
  · simp [Value.ownBlock] at e
  · simp [Value.ownBlock] at e
    subst e
    exact OwB.ne_T h hg' hT hg.symm
/-- Pages laid so far. -/
structure NewI (w : World) (page : Nat) (k pb : Nat) (lv : Value) (pv : List Value) (wi : World) : Prop where
  blk : OBlk wi pb 76 [.int .i64 (page : Int), lv, .slice none 0 0, .bool false, .bool false, .int .i64 0, .slice none 0 0, .int .i64 0, .int .i64 0, .int .i64 0, .int .i64 0, .int .i64 0]
  own : Own wi w.heap.size 28 1 lv pv.length pv
  len : pv.length = k
  el : ∀ (i : Nat) (v : Value), pv[i]? = some v → OwB wi w.heap.size v (List.replicate page 0)
  ap : ApartV pv
  hb : Below w.heap.size w wi
  pb1 : w.heap.size ≤ pb
theorem NewI.push {w wi w2 w3 : World} {page k pb : Nat} {lv lv' : Value} {pv : List Value} (h : NewI w page k pb lv pv wi) (hp : page ≤ 65536) (u : Value)
    (h2 : Below wi.heap.size wi w2) (hu : OwB w2 wi.heap.size u (List.replicate page 0)) (ho : Own w3 w.heap.size 28 1 lv' (pv.length + 1) (pv ++ [u])) (hg : w2.grownBy w3 lv.ownBlock) (c : List Value)
    (hc : c = [.int .i64 (page : Int), lv', .slice none 0 0, .bool false, .bool false, .int .i64 0, .slice none 0 0, .int .i64 0, .int .i64 0, .int .i64 0, .int .i64 0, .int .i64 0]) :
    NewI w page (k + 1) pb lv' (pv ++ [u]) (w3.setCell ⟨pb, 1, none⟩ lv') := by
  have hpb3 := (h.blk.below h2 h.blk.lt).grown hg (fun e => (Own.below' h.own h2 (Nat.le_refl _)).ne_T (h.blk.below h2 h.blk.lt) (by decide) e)
  have hown2 := Own.below' h.own h2 (Nat.le_refl _)
  have hs2 := h2.size
  have hbw := h.hb.size
  have ne_pb : ∀ {v : Value} {l : List UInt8} {b : Nat}, OwB w3 b v l → v.ownBlock ≠ some pb := fun hv e => OwB.ne_T hv hpb3 (by decide) e.symm
  have el3 : ∀ (i : Nat) (v : Value), pv[i]? = some v → OwB w3 w.heap.size v (List.replicate page 0) := fun i v hv => by
    have e2 := (h.el i v hv).below' h2 (Nat.le_refl _)
    refine Own.grown e2 hg fun g hg' e => ?_
    have := OwB.ne_ownT e2 hown2 (by decide) g hg'
    exact this e
  have u3 : OwB w3 w.heap.size u (List.replicate page 0) := (Own.grown hu hg fun g hg' e => by
    have := (Own.lt hu g hg').1
    have := (Own.lt h.own g e.symm).2
    omega).low hbw
  refine { blk := ?_, own := ?_, len := by simp [h.len], el := ?_, ap := ?_, hb := ?_, pb1 := h.pb1 }
  · exact hpb3.set 1 lv'
  · have := ho.far (p := ⟨pb, 1, none⟩) (fun e => ho.ne_T hpb3 (by decide) e.symm) lv'
    simpa using this
  · intro i v hv
    rcases Nat.lt_or_ge i pv.length with hi | hi
    · rw [List.getElem?_append_left hi] at hv
      exact Own.far (el3 i v hv) (ne_pb (el3 i v hv)) lv'
    · rw [List.getElem?_append_right hi] at hv
      have : v = u := by
        cases hk : i - pv.length with
        | zero => rw [hk] at hv; simpa using hv.symm
        | succ m => rw [hk] at hv; simp at hv
      subst this
      exact Own.far u3 (ne_pb u3) lv'
  · intro i j a b hij ha hb g hg'
    rcases Nat.lt_or_ge i pv.length with hi | hi <;> rcases Nat.lt_or_ge j pv.length with hj | hj
    · rw [List.getElem?_append_left hi] at ha
      rw [List.getElem?_append_left hj] at hb
      exact h.ap i j a b hij ha hb g hg'
    · rw [List.getElem?_append_left hi] at ha
      rw [List.getElem?_append_right hj] at hb
      have hb' : b = u := by
        cases hk : j - pv.length with
        | zero => rw [hk] at hb; simpa using hb.symm
        | succ m => rw [hk] at hb; simp at hb
      subst hb'
      intro e
      have h1 := (Own.lt (h.el i a ha) g hg').2
      have h2 := (Own.lt hu g e.symm).1
      omega
    · rw [List.getElem?_append_right hi] at ha
      rw [List.getElem?_append_left hj] at hb
      have ha' : a = u := by
        cases hk : i - pv.length with
        | zero => rw [hk] at ha; simpa using ha.symm
        | succ m => rw [hk] at ha; simp at ha
      subst ha'
      intro e
      have h1 := (Own.lt (h.el j b hb) g e.symm).2
      have h2 := (Own.lt hu g hg').1
      omega
    · rw [List.getElem?_append_right hi] at ha
      rw [List.getElem?_append_right hj] at hb
      have e1 := (List.getElem?_eq_some_iff.1 ha).1
      have e2 := (List.getElem?_eq_some_iff.1 hb).1
      simp at e1 e2
      omega
  · exact ((h.hb.trans (h2.mono hbw)).grown hg (Nat.le_trans hbw hs2) (fun k hk => (Own.lt h.own k hk).1)).setCell h.pb1 _
end Go.Proofs.Ytipjngoenklioaa

-- espalierref03.New: the walk.
namespace Go.Proofs.Ytipjngoenklioaa
open Go.RowKit
def RNewAt (w : World) (page n : Nat) (e : Ending) (w' : World) : Prop := ∃ r F, e = .returned (rfPtr r) ∧ RfAt w' F r (S0 page n) ∧ (∀ k, F k → w.heap.size ≤ k) ∧ Below w.heap.size w w'
theorem NewI.done {w wi : World} {page n pb : Nat} {lv : Value} {pv : List Value} (h : NewI w page n pb lv pv wi) (hd : devB page n = true) : RNewAt w page n (.returned (.pointer (some ⟨pb, 0, none⟩))) wi := by
  refine ⟨{ pb := pb, lv := lv, pv := pv, wl := .slice none 0 0, dv := [], vk := .slice none 0 0, armed := false, ra := 0 }, fun k => w.heap.size ≤ k ∧ k < wi.heap.size, rfl, ?_, fun k hk => hk.1, h.hb⟩
  have hl : (S0 page n).pg.length = pv.length := by simp [S0, h.len]
  exact { ok := S0_ok hd, blk := h.blk
          own := by rw [hl]; exact h.own.low (Nat.zero_le _)
          pl := hl.symm
          page := fun i hi v hv => by
            have e : (S0 page n).pg[i] = List.replicate page 0 := by simp [S0]
            rw [e]
            exact ⟨(h.el i v hv).low (Nat.zero_le _), fun g hg => Own.lt (h.el i v hv) g hg⟩
          apart := h.ap, loose := Own.nil _ _ _ _, dlen := rfl, data := fun i hi => by simp [S0] at hi
          keep := Own.nil _ _ _ _, armed := rfl, acts := fun h0 => by have : (0 : Int) ≤ -1 := h0; omega, ra := by show (-9223372036854775808 : Int) ≤ 0 ∧ (0 : Int) ≤ 9223372036854775807; omega
          fp := ⟨h.pb1, h.blk.lt⟩, fl := fun g hg => Own.lt h.own g hg, fw := fun g hg => by simp [Value.ownBlock] at hg, fk := fun g hg => by simp [Value.ownBlock] at hg, lt := fun k hk => hk.2 }
set_option maxRecDepth 20000 in
set_option maxHeartbeats 4000000 in
theorem RNew_ok (page n : Nat) (h : devB page n = true) (w : World) : Calls Try.prog 18 #[.int .i64 (page : Int), .int .i64 (n : Int)] w (RNewAt w page n) := by
  have H := Lib.hid h
  obtain ⟨h1, h2, h3, h4⟩ := devB_spec h
  have h5 := isPowB_range h1
  have hmk := fun w => run_make_B w page (by omega)
  obtain ⟨i0, hi, hz0, hz1, hz2⟩ := info_parts L_info
  clear h h1 h4
  go_enter Try.func18, Try.ntmps18
  go_wp2_with (first
    | (go_at_call 41; refine (device_any page n (by omega) _).mono ?_; rintro e w0 ⟨rfl, rfl⟩; rw [H.out]))
  go_loopw [7] (fun i wr => ∃ (k : Nat) (lv : Value) (pv : List Value), k ≤ n ∧ i = .int .i64 (k : Int) ∧ NewI w page k w.heap.size lv pv wr) (fun i _ => n - (intOf i).toNat)
  case atStart =>
    refine ⟨0, .slice none 0 0, [], Nat.zero_le _, rfl, { blk := OBlk.new' w _ _, own := Own.nil _ _ _ _, len := rfl, el := fun i v hv => by simp at hv, ap := fun i j a b _ ha => by simp at ha, hb := (Below.refl _ _).alloc (Nat.le_refl _) _, pb1 := Nat.le_refl _ }⟩
  case round =>
    obtain ⟨k, lv, pv, hk, rfl, hI⟩ := hrel
    by_cases hlt : k < n
    · have ik : (k : Int) < (n : Int) := by omega
      have hlen := hI.len
      obtain ⟨A, c, hlv⟩ := hI.own.slice
      rw [hlen] at hlv
      have b1 := hI.blk.cell' (j := 1) (u := lv) rfl
      rw [hlv] at b1
      have HLV := Lib.hid hlv
      have HLEN := Lib.hid hlen
      have hO : Own (((wr.alloc (.cells (bvs (List.replicate page 0)).toArray 5)).alloc (.cells #[.slice (some ⟨wr.heap.size, 0, none⟩) page page] 28)).drew) w.heap.size 28 1 (.slice A k c) k pv := by
        have := (hI.own.alloc (.cells (bvs (List.replicate page 0)).toArray 5)).alloc (.cells #[.slice (some ⟨wr.heap.size, 0, none⟩) page page] 28)
        rw [hlen, hlv] at this
        exact this.drew
      have hR : Rd (((wr.alloc (.cells (bvs (List.replicate page 0)).toArray 5)).alloc (.cells #[.slice (some ⟨wr.heap.size, 0, none⟩) page page] 28)).drew) 1 (.slice (some ⟨wr.heap.size + 1, 0, none⟩) 1 1) 1 [.slice (some ⟨wr.heap.size, 0, none⟩) page page] := by
        have := Rd.one (wr.alloc (.cells (bvs (List.replicate page 0)).toArray 5)) (.slice (some ⟨wr.heap.size, 0, none⟩) page page) 28
        rw [World.size_alloc] at this
        exact this
      have hsz := hI.hb.size
      have lbw : w.heap.size < wr.heap.size := hI.blk.lt
      have lbw2 : w.heap.size < wr.heap.size + 1 := by omega
      have HB := Lib.hid (((hI.blk.alloc (.cells (bvs (List.replicate page 0)).toArray 5)).alloc (.cells #[.slice (some ⟨wr.heap.size, 0, none⟩) page page] 28)).drew)
      have HO := Lib.hid hO
      have HR := Lib.hid hR
      clear hlv hlen hO hR
      go_upto_region 8 with (fail)
      go_region_law (first
        | (refine step_append (by rfl) (.tmp 25) (.tmp 28) _ _ (by rfl) w.heap.size 28 i0 _ 1 24 Try.underlying52 hi hz0 hz1 hz2 rfl _ k pv (by rfl) HO.out _ 1 _ (by rfl) (Rd.src _ Try.underlying52 (by omega) HR.out (by simp [Value.oneCell'])) (by omega) (by omega) (by simp; omega) ?_; intro v5 w5 ho5 hg5 hk5; have hb5 := HB.out.grown hg5 (fun e => HO.out.ne_T HB.out (by decide) e); have b5 := hb5.cell' (j := 1) (u := lv) rfl; have f5 := hb5.frozen (j := 1) (by simp); obtain ⟨A5, c5, rfl⟩ := Own.slice ho5)
        | fail)
      all_goals
        have hb2 : Below wr.heap.size wr (((wr.alloc (.cells (bvs (List.replicate page 0)).toArray 5)).alloc (.cells #[.slice (some ⟨wr.heap.size, 0, none⟩) page page] 28)).drew) := (((Below.refl _ _).alloc (Nat.le_refl _) _).alloc (by simp) _).drew
        have hu : OwB (((wr.alloc (.cells (bvs (List.replicate page 0)).toArray 5)).alloc (.cells #[.slice (some ⟨wr.heap.size, 0, none⟩) page page] 28)).drew) wr.heap.size (.slice (some ⟨wr.heap.size, 0, none⟩) page page) (List.replicate page 0) := by
          have := (((OBlk.new' wr 5 (bvs (List.replicate page 0))).alloc (.cells #[.slice (some ⟨wr.heap.size, 0, none⟩) page page] 28)).drew).owB' (base := wr.heap.size) (Nat.le_refl _) (by simp [maxLen]; omega)
          simpa using this
        have hI2 := hI.push (lv' := .slice A5 (k + 1) c5) (by omega) (.slice (some ⟨wr.heap.size, 0, none⟩) page page) hb2 hu (by rw [HLEN.out]; exact ho5) (by rw [HLV.out]; exact hg5) _ rfl
        clear hb5 b5 f5 hb2 hu ho5 hg5 hk5 HO HB HR
        go_wp2_with fail
        go_roundw
        case rel => exact ⟨k + 1, _, _, by omega, by go_num, hI2⟩
        case measure => simp [intOf]; omega
    · obtain rfl : k = n := by omega
      go_wp2_with fail
      go_ret
      exact hI.done H.out
end Go.Proofs.Ytipjngoenklioaa

-- espalierref03.Load: walks.
namespace Go.Proofs.Ytipjngoenklioaa
open Go.RowKit
set_option maxRecDepth 20000 in
set_option maxHeartbeats 2000000 in
theorem RLoad_bad (page : Int) (hp : -9223372036854775808 ≤ page ∧ page ≤ 9223372036854775807) (v : Value) (l : List UInt8) (h : isPowB page = false ∨ (l.length : Int) % page ≠ 0 ∨ devB page ((l.length : Int) / page) = false) (w : World) (hv : RdB w v l) :
    Calls Try.prog 24 #[v, .int .i64 page] w fun e w' => e = .returned (.tuple #[.pointer none, .int .i64 32]) ∧ w = w' := by
  obtain ⟨A, c, rfl, hm⟩ := hv.form
  cases hq : isPowB page
  · have HP := Lib.hid hq
    clear hq h
    go_enter Try.func24, Try.ntmps24
    go_wp2_with (first
      | (go_at_call 42; refine (IsPage_any _ _).mono ?_; rintro e w0 ⟨rfl, rfl⟩; rw [HP.out]))
    go_ret2
    exact ⟨rfl, rfl⟩
  have h5 := isPowB_range hq
  have h0 : ¬ page = 0 := by omega
  by_cases hr : (l.length : Int) % page = 0
  · obtain ⟨q, hq2⟩ : ∃ q, (l.length : Int) / page = q := ⟨_, rfl⟩
    have hd : devB page q = false := by
      rw [← hq2]
      rcases h with h | h | h
      · rw [hq] at h; cases h
      · exact absurd hr h
      · exact h
    have hq3 : 0 ≤ q := by rw [← hq2]; exact Int.ediv_nonneg (by omega) (by omega)
    have hq4 : q ≤ 9223372036854775807 := by
      rw [← hq2]
      refine Int.le_trans (Int.ediv_le_self _ (by omega)) ?_
      omega
    have HD := Lib.hid hd
    have HP := Lib.hid hq
    have hb : ((l.length : Int) % page == 0) = true := by simpa using hr
    have hb' : ((l.length : Int) % page != 0) = false := by simpa using hr
    clear hq h hd hr
    go_enter Try.func24, Try.ntmps24
    go_wp2_with (first
      | (go_at_call 42; refine (IsPage_any _ _).mono ?_; rintro e w0 ⟨rfl, rfl⟩; rw [HP.out])
      | (go_at_call 18; refine (RNew_bad page _ hp HD.out _).mono ?_; rintro e w1 ⟨rfl, rfl⟩))
    go_ret2
    exact ⟨rfl, rfl⟩
  · have HP := Lib.hid hq
    have hb : ((l.length : Int) % page == 0) = false := by simpa using hr
    have hb' : ((l.length : Int) % page != 0) = true := by simpa using hr
    clear hq h hr
    go_enter Try.func24, Try.ntmps24
    go_wp2_with (first
      | (go_at_call 42; refine (IsPage_any _ _).mono ?_; rintro e w0 ⟨rfl, rfl⟩; rw [HP.out]))
    go_ret2
    exact ⟨rfl, rfl⟩
/-- A page is written over. -/
theorem RfAt.page_set {w w' : World} {F : Nat → Prop} {r : RRaw} {S : PS} (h : RfAt w F r S) {i : Nat} (hi : i < S.pg.length) {v : Value} (hv : r.pv[i]? = some v) {m : List UInt8} (hm : m.length = S.page) {g : Nat} (hgv : v.ownBlock = some g) (hg : w.grownBy w' (some g)) (hb : OwB w' 0 v m) : RfAt w' F r { S with pg := S.pg.set i m } := by
  obtain ⟨h1, h2⟩ := h.page i hi v hv
  have hblk : r.pb ≠ g := fun e => OwB.ne_T h1 h.blk (by decide) (by rw [hgv, e])
  refine { ok := { h.ok with pl := by show (S.pg.set i m).length = _; rw [List.length_set]; exact h.ok.pl, pe := ?_ }, blk := h.blk.grown hg (fun e => hblk (Option.some.inj e)), own := ?_, pl := ?_, page := ?_, apart := h.apart, loose := ?_, dlen := h.dlen, data := ?_, keep := ?_,
           armed := h.armed, acts := h.acts, ra := h.ra, fp := h.fp, fl := h.fl, fw := h.fw, fk := h.fk, lt := fun k hk => Nat.lt_of_lt_of_le (h.lt k hk) hg.size }
  · intro l hl
    rcases List.mem_or_eq_of_mem_set hl with hl | rfl
    · exact h.ok.pe l hl
    · exact hm
  · show Own w' 0 _ 1 r.lv (S.pg.set i m).length r.pv
    rw [List.length_set]
    exact h.own.grown hg (fun g' hg' e => by
      have e' := Option.some.inj e
      subst e'
      exact OwB.ne_ownT h1 h.own (by decide) _ hgv hg'.symm)
  · show _ = (S.pg.set i m).length
    rw [List.length_set]; exact h.pl
  · intro j hj u hu
    have hj0 : j < (S.pg.set i m).length := hj
    have hj' : j < S.pg.length := by rw [List.length_set] at hj0; exact hj0
    by_cases e : j = i
    · subst e
      rw [hv] at hu
      have hu' := Option.some.inj hu
      subst hu'
      have e2 : (S.pg.set j m)[j]'(by rw [List.length_set]; exact hj') = m := List.getElem_set_self _
      show OwB w' 0 v ((S.pg.set j m)[j]'(by rw [List.length_set]; exact hj')) ∧ _
      rw [e2]
      exact ⟨hb, h2⟩
    · obtain ⟨k1, k2⟩ := h.page j hj' u hu
      have e2 : (S.pg.set i m)[j]'(by rw [List.length_set]; exact hj') = S.pg[j] := List.getElem_set_ne (fun h => e h.symm) _
      show OwB w' 0 u ((S.pg.set i m)[j]'(by rw [List.length_set]; exact hj')) ∧ _
      rw [e2]
      exact ⟨Own.grown k1 hg (fun g' hg' e3 => by
        have e' := Option.some.inj e3
        subst e'
        exact h.apart i j v u (fun h => e h.symm) hv hu g' hgv hg'.symm), k2⟩
  · exact h.loose.grown hg (fun g' hg' e => by
      have e' := Option.some.inj e
      subst e'
      exact OwB.ne_ownT h1 h.loose (by decide) _ hgv hg'.symm)
  · intro j hj u hu
    obtain ⟨k1, k2⟩ := h.data j hj u hu
    exact ⟨Own.grown k1 hg (fun g' hg' e => by
      have e' := Option.some.inj e
      subst e'
      exact (k2 g' hg').2 i v hv hgv.symm), k2⟩
  · exact h.keep.grown hg (fun g' hg' e => by
      have e' := Option.some.inj e
      subst e'
      exact OwB.ne_ownT h1 h.keep (by decide) _ hgv hg'.symm)
def ldPg (p n : Nat) (l : List UInt8) (k : Nat) : List (List UInt8) := (List.range n).map fun (i : Nat) => if i < k then (l.drop (i * p)).take p else List.replicate p 0
theorem ldPg_zero (p n : Nat) (l : List UInt8) : ldPg p n l 0 = List.replicate n (List.replicate p 0) := by
  apply List.ext_getElem?
  intro i
  unfold ldPg
  rw [List.getElem?_map, List.getElem?_replicate]
  rcases Nat.lt_or_ge i n with h | h
  · rw [List.getElem?_range h, if_pos h]; simp
  · rw [List.getElem?_eq_none (by simpa using h), if_neg (by omega)]; rfl
theorem ldPg_end (p n : Nat) (l : List UInt8) : ldPg p n l n = chunk p l n := by
  unfold ldPg chunk
  apply List.map_congr_left
  intro i hi
  rw [if_pos (List.mem_range.1 hi)]
theorem ldPg_length (p n : Nat) (l : List UInt8) (k : Nat) : (ldPg p n l k).length = n := by simp [ldPg]
theorem ldPg_get (p n : Nat) (l : List UInt8) (k i : Nat) (h : i < n) : (ldPg p n l k)[i]? = some (if i < k then (l.drop (i * p)).take p else List.replicate p 0) := by
  unfold ldPg
  rw [List.getElem?_map, List.getElem?_range h]; rfl
theorem ldPg_set (p n : Nat) (l : List UInt8) (k : Nat) (hk : k < n) : (ldPg p n l k).set k ((l.drop (k * p)).take p) = ldPg p n l (k + 1) := by
  apply List.ext_getElem?
  intro i
  rcases Nat.lt_or_ge i n with h | h
  · rw [ldPg_get p n l (k + 1) i h]
    by_cases e : i = k
    · subst e
      rw [List.getElem?_set_self (by rw [ldPg_length]; exact hk), if_pos (by omega)]
    · rw [List.getElem?_set_ne (by omega), ldPg_get p n l k i h]
      by_cases h2 : i < k
      · rw [if_pos h2, if_pos (by omega)]
      · rw [if_neg h2, if_neg (by omega)]
  · rw [List.getElem?_eq_none (by simp [ldPg_length]; exact h), List.getElem?_eq_none (by rw [ldPg_length]; exact h)]
def SLk (p n : Nat) (l : List UInt8) (k : Nat) : PS := { S0 p n with pg := ldPg p n l k }
theorem RfAt.pageAt {w : World} {F : Nat → Prop} {r : RRaw} {S : PS} (h : RfAt w F r S) {i : Nat} (hi : i < S.pg.length) : ∃ lb c g cg l, r.lv = .slice (some ⟨lb, 0, none⟩) S.pg.length c ∧ w.cell? ⟨lb, i, none⟩ = some (.slice (some ⟨g, 0, none⟩) S.page cg) ∧ r.pv[i]? = some (.slice (some ⟨g, 0, none⟩) S.page cg) ∧
    OwB w 0 (.slice (some ⟨g, 0, none⟩) S.page cg) l ∧ S.pg[i]? = some l ∧ l.length = S.page ∧ S.page ≤ cg ∧ cg ≤ 9223372036854775807 ∧ F g := by
  have hiv : i < r.pv.length := by rw [h.pl]; exact hi
  have hv : r.pv[i]? = some r.pv[i] := List.getElem?_eq_getElem hiv
  obtain ⟨h1, h2⟩ := h.page i hi _ hv
  have hl := h.ok.pe _ (List.getElem_mem hi)
  obtain ⟨lb, c, hlv⟩ : ∃ lb c, r.lv = .slice (some ⟨lb, 0, none⟩) S.pg.length c := by
    rcases h.own.form with ⟨_, h0⟩ | ⟨g, c, hv, _⟩
    · omega
    · exact ⟨g, c, hv⟩
  obtain ⟨g, cg, hs, hc1, hc2⟩ : ∃ g cg, r.pv[i] = .slice (some ⟨g, 0, none⟩) S.page cg ∧ S.page ≤ cg ∧ cg ≤ 9223372036854775807 := by
    have hp1 := h.ok.p1
    rcases Own.form h1 with ⟨_, h0⟩ | ⟨g, cap, hv, _, _, h3, h4⟩
    · omega
    · rw [hl] at hv h3
      simp only [maxLen] at h4
      exact ⟨g, cap, hv, h3, h4⟩
  have ho := h.own
  rw [hlv] at ho
  rw [hs] at hv h1 h2
  exact ⟨lb, c, g, cg, S.pg[i], hlv, ho.cells _ _ hv, hv, h1, List.getElem?_eq_getElem hi, hl, hc1, hc2, h2 g rfl⟩
def RLoadAt (w : World) (page n : Nat) (l : List UInt8) (e : Ending) (w' : World) : Prop := ∃ r F, e = .returned (.tuple #[rfPtr r, .int .i64 0]) ∧ RfAt w' F r (SL page n l) ∧ (∀ k, F k → w.heap.size ≤ k) ∧ Below w.heap.size w w'
set_option maxRecDepth 20000 in
set_option maxHeartbeats 4000000 in
theorem RLoad_ok (page n : Nat) (h : devB page n = true) (v : Value) (l : List UInt8) (hl : l.length = n * page) (w : World) (hv : RdB w v l) : Calls Try.prog 24 #[v, .int .i64 (page : Int)] w (RLoadAt w page n l) := by
  have H := Lib.hid h
  obtain ⟨h1, h2, h3, h4⟩ := devB_spec h
  have h5 := isPowB_range h1
  have HP := Lib.hid h1
  have h0 : ¬ page = 0 := by omega
  have e1 : (l.length : Int) % (page : Int) = 0 := by rw [hl, Int.natCast_mul]; exact Int.mul_emod_left _ _
  have e2 : (l.length : Int) / (page : Int) = (n : Int) := by rw [hl, Int.natCast_mul]; exact Int.mul_ediv_cancel _ (by omega)
  have hlb : (l.length : Int) ≤ 67108864 := by rw [hl, Int.natCast_mul]; exact h4
  have HL := Lib.hid hl
  obtain ⟨A, c, rfl, hm⟩ := hv.form
  obtain ⟨_, hc1, hc2⟩ := hv.cap
  clear h h1 h4 hl
  go_enter Try.func24, Try.ntmps24
  go_wp2_with (first
    | (go_at_call 42; refine (IsPage_any _ _).mono ?_; rintro e w0 ⟨rfl, rfl⟩; rw [HP.out])
    | (go_at_call 18; refine (RNew_ok page n H.out _).mono ?_; rintro e w1 ⟨r, F, rfl, hP, hF, hB⟩; unfold rfPtr)
    | fail)
  have HHP := Lib.hid hP
  clear e1 e2
  go_loopw [8] (fun i wr => ∃ k : Nat, k ≤ n ∧ i = .int .i64 (k : Int) ∧ RfAt wr F r (SLk page n l k) ∧ Below w.heap.size w wr) (fun i _ => n - (intOf i).toNat)
  case atStart =>
    refine ⟨0, Nat.zero_le _, rfl, ?_, hB⟩
    have e : SLk page n l 0 = S0 page n := by unfold SLk; rw [ldPg_zero]; rfl
    rw [e]; exact hP
  case round =>
    clear hP hB
    obtain ⟨k, hk, rfl, hP, hB⟩ := hrel
    have hpl : (SLk page n l k).pg.length = n := ldPg_length page n l k
    have b1 := hP.c1
    by_cases hlt : k < n
    · obtain ⟨lb, lc, g, cg, m, hlv, hcell, hpv, how, hpg, hml, hcg1, hcg2, hFg⟩ := hP.pageAt (i := k) (by omega)
      rw [hlv, hpl] at b1
      have ik : (k : Int) < (n : Int) := by omega
      obtain ⟨lo, hlo⟩ : ∃ lo, lo = k * page := ⟨_, rfl⟩
      have em : (k : Int) * (page : Int) = (lo : Int) := by rw [hlo]; push_cast; rfl
      have hle : lo + page ≤ l.length := by
        rw [HL.out, hlo, ← Nat.succ_mul]
        exact Nat.mul_le_mul_right _ hlt
      have b2 : (lo : Int) ≤ 67108864 := by omega
      obtain ⟨A4, c4, q4, r4⟩ := (hv.below hB (Nat.le_refl _)).run_l lo (by omega)
      have wlo : IntKind.i64.wrap (lo : Int) = (lo : Int) := IntWalk.i64_in _ (by omega)
      have hcell' : wr.cell? ⟨lb, k, none⟩ = some (.slice (some ⟨g, 0, none⟩) page cg) := hcell
      have how' : OwB wr 0 (.slice (some ⟨g, 0, none⟩) page cg) m := how
      have HML := Lib.hid (show m.length = page from hml)
      have HPV := Lib.hid hpv
      have HPL := Lib.hid hpl
      have HLO := Lib.hid hlo
      clear hlv hpg hml hpv hpl hlo hcell how
      go_upto_region 10 with (fail)
      refine wp_region_dtail 12 (by kernel_rfl) (by kernel_rfl) ?_
      simp only [List.take_succ_cons, List.take_zero, List.drop_succ_cons, List.drop_zero]
      repeat (quiet_step (fail))
      refine wpQuiet_nil ?_
      rintro _ ⟨nq, rfl⟩
      clear wlo
      have how2 : OwB (wr.drewN nq) 0 (.slice (some ⟨g, 0, none⟩) page cg) m := how'
      have r5 : RdB (wr.drewN nq) (.slice A4 (l.length - lo) c4) (l.drop lo) := r4
      go_wp2_with (first
        | ((with_reducible refine at_copy ?_); refine wp_copy_At rfl (.tmp 43) (.tmp 48) rfl 0 g page cg 0 (some ⟨g, 0, none⟩) page cg rfl (fun _ => rfl) m how2 HML.out (by omega) _ (l.drop lo) rfl r5 ?_; intro w5 hb5 hg5)
        | fail)
      have hmin : min (l.drop lo).length page = page := by rw [List.length_drop]; omega
      have e5 : splice m 0 ((l.drop lo).take (min (l.drop lo).length page)) = (l.drop lo).take page := by
        rw [hmin]
        unfold splice
        have hd : m.length ≤ 0 + ((l.drop lo).take page).length := by
          rw [List.length_take, List.length_drop, HML.out]; omega
        rw [List.take_zero, List.drop_of_length_le hd, List.append_nil, List.nil_append]
      rw [e5, HLO.out] at hb5
      have hP4 : RfAt (wr.drewN nq) F r (SLk page n l k) := hP.heap (Nat.le_refl _) fun _ _ => rfl
      have hP5 := hP4.page_set (i := k) (by rw [HPL.out]; exact hlt) HPV.out (m := (l.drop (k * page)).take page) (by show _ = page; rw [List.length_take, List.length_drop, ← HLO.out]; omega) rfl hg5 hb5
      have e6 : ({ SLk page n l k with pg := (SLk page n l k).pg.set k ((l.drop (k * page)).take page) } : PS) = SLk page n l (k + 1) := by
        unfold SLk
        rw [← ldPg_set page n l k hlt]
      rw [e6] at hP5
      have hB5 := (below_drewN hB nq).grown hg5 hB.size (fun k' hk' => by cases hk'; exact hF _ hFg)
      clear hb5 hg5 how2 r5 e5 e6 hP4
      go_wp2_with fail
      go_roundw
      case rel => exact ⟨k + 1, by omega, by go_num, hP5, hB5⟩
      case measure => simp [intOf]; omega
    · obtain rfl : k = n := by omega
      obtain ⟨lb, lc, hlv⟩ := hP.own.slice
      rw [hlv, hpl] at b1
      have e : SLk page k l k = SL page k l := by unfold SLk SL; rw [ldPg_end]
      rw [e] at hP
      have HPP := Lib.hid hP
      clear hlv hpl hP e
      go_wp2_with fail
      go_ret2
      exact ⟨r, F, rfl, HPP.out, hF, hB⟩
end Go.Proofs.Ytipjngoenklioaa

-- espalierref03.Lent, AsLent: walks.
namespace Go.Proofs.Ytipjngoenklioaa
open Go.RowKit
def mk9 (j : Nat) : List UInt8 := (List.range j).map fun (i : Nat) => UInt8.ofNat (200 + i)
theorem mk9_length (j : Nat) : (mk9 j).length = j := by simp [mk9]
theorem mk9_succ (j : Nat) : mk9 (j + 1) = mk9 j ++ [UInt8.ofNat (200 + j)] := by unfold mk9; rw [List.range_succ, List.map_append]; rfl
theorem mk9_get (j i : Nat) (h : i < j) : (mk9 j)[i]? = some (UInt8.ofNat (200 + i)) := by
  unfold mk9
  rw [List.getElem?_map, List.getElem?_range h]; rfl
def lent9 (l : List UInt8) (j : Nat) : List UInt8 := l ++ (mk9 j ++ List.replicate (9 - j) 0)
theorem lent9_length (l : List UInt8) (j : Nat) (h : j ≤ 9) : (lent9 l j).length = l.length + 9 := by simp [lent9, mk9_length]; omega
theorem lent9_set (l : List UInt8) (j : Nat) (h : j < 9) : (lent9 l j).set (l.length + j) (UInt8.ofNat (200 + j)) = lent9 l (j + 1) := by
  unfold lent9
  rw [List.set_append_right _ _ (by omega), Nat.add_sub_cancel_left]
  congr 1
  rw [List.set_append_right _ _ (by rw [mk9_length]; exact Nat.le_refl _), mk9_length, Nat.sub_self, mk9_succ, List.append_assoc]
  congr 1
  rw [show 9 - j = (9 - (j + 1)) + 1 by omega, List.replicate_succ, List.set_cons_zero]
  rfl
theorem lent9_start (l : List UInt8) : splice (List.replicate (l.length + 9) 0) 0 (l.take (min l.length (l.length + 9))) = lent9 l 0 := by
  rw [Nat.min_eq_left (by omega), List.take_length]
  unfold splice lent9
  simp [mk9, List.drop_replicate]
def marks9 : List UInt8 := mk9 9
theorem lent9_end (l : List UInt8) : lent9 l 9 = l ++ marks9 := by unfold lent9 marks9; simp
theorem b200 (j : Nat) (h : j < 9) : ((UInt8.ofNat (200 + j)).toNat : Int) = 200 + (j : Int) := by
  rw [UInt8.toNat_ofNat']
  omega
set_option maxHeartbeats 1000000 in
set_option maxRecDepth 20000 in
theorem Lent_any (v : Value) (l : List UInt8) (w : World) (hv : RdB w v l) (hl : l.length ≤ 140737488355328) :
    Calls Try.prog 21 #[v] w fun e w' => ∃ g, e = .returned (.slice (some ⟨g, 0, none⟩) l.length (l.length + 9)) ∧ OwB w' w.heap.size (.slice (some ⟨g, 0, none⟩) (l.length + 9) (l.length + 9)) (l ++ marks9) ∧ Below w.heap.size w w' := by
  obtain ⟨A, c, rfl, hm⟩ := hv.form
  go_enter Try.func21, Try.ntmps21
  go_wp2_with (first
    | (at_make; refine wp_make_B rfl (.tmp 7) (.tmp 7) rfl _ (l.length + 9) rfl rfl (by go_num) (by omega) ?_; intro w1 hb1 hw1 hs1)
    | ((with_reducible refine at_copy ?_); refine wp_copy_B rfl (.tmp 9) (.tmp 10) rfl _ (l.length + 9) _ w.heap.size 0 rfl _ hb1 (fun _ => rfl) (by simp) _ l rfl (hv.below hw1 (Nat.le_refl _)) ?_; intro w2 hb2 hg2; rw [lent9_start] at hb2)
    | fail)
  have hw2 := hw1.grown hg2 hw1.size (fun k hk => Nat.le_of_eq (Option.some.inj hk))
  clear hb1 hw1 hg2
  go_loopw [4] (fun i wr => ∃ d : Nat, d ≤ 9 ∧ i = .int .i64 ((l.length + d : Nat) : Int) ∧ OBlk wr w.heap.size 5 (bvs (lent9 l d)) ∧ Below w.heap.size w wr) (fun i _ => l.length + 9 - (intOf i).toNat)
  case atStart => exact ⟨0, by omega, rfl, hb2, hw2⟩
  case round =>
    clear hb2 hw2
    obtain ⟨d, hd, rfl, hb, hw⟩ := hrel
    by_cases hlt : d < 9
    · have hml := lent9_length l d (by omega)
      have hc := hb.cell' (bvs_get' (lent9 l d) (l.length + d) (by omega))
      have hf := hb.frozen (j := l.length + d) (by rw [bvs_length]; omega)
      have hset := hb.set (l.length + d) (.int .u8 ((UInt8.ofNat (200 + d)).toNat : Int))
      rw [← bvs_set, lent9_set l d hlt, b200 d hlt] at hset
      generalize ((lent9 l d)[l.length + d]'(by omega)).toNat = y at hc
      obtain ⟨k, hk⟩ : ∃ k, k = l.length + d := ⟨_, rfl⟩
      have e1 : (200 : Int) + (k : Int) - (l.length : Int) = 200 + (d : Int) := by omega
      have e2 : IntKind.u8.wrap (200 + (d : Int)) = 200 + (d : Int) := IntWalk.u8_in _ (by omega)
      have ik : k < l.length + 9 := by omega
      rw [← hk] at hc hf hset ⊢
      have HK := Lib.hid hk
      clear hml hk
      go_wp2_with fail
      go_roundw
      case rel => exact ⟨d + 1, by omega, by rw [HK.out]; go_num, hset, hw.setCell (Nat.le_refl _) _⟩
      case measure => have := HK.out; simp [intOf]; omega
    · obtain rfl : d = 9 := by omega
      have ho := hb.owB' (base := w.heap.size) (Nat.le_refl _) (by rw [lent9_length l 9 (by omega)]; simp only [maxLen]; omega)
      rw [lent9_length l 9 (by omega), lent9_end] at ho
      clear hb
      go_wp2_with fail
      go_ret
      exact ⟨w.heap.size, rfl, ho, hw⟩
end Go.Proofs.Ytipjngoenklioaa

-- espalierref03.AsLent: the walk.
namespace Go.Proofs.Ytipjngoenklioaa
open Go.RowKit
def as9 (l : List UInt8) (k : Nat) : List UInt8 := List.replicate k 77 ++ (l ++ marks9).drop k
theorem as9_length (l : List UInt8) (k : Nat) (h : k ≤ l.length + 9) : (as9 l k).length = l.length + 9 := by simp [as9, marks9, mk9_length]; omega
theorem as9_set (l : List UInt8) (k : Nat) (h : k < l.length + 9) : (as9 l k).set k 77 = as9 l (k + 1) := by
  have hl : (l ++ marks9).length = l.length + 9 := by simp [marks9, mk9_length]
  unfold as9
  rw [List.set_append_right _ _ (by simp), List.length_replicate, Nat.sub_self, List.drop_eq_getElem_cons (by omega), List.set_cons_zero, List.replicate_succ', List.append_assoc]
  rfl
theorem as9_get (l : List UInt8) (d : Nat) (h : d < 9) : (as9 l (l.length + d))[l.length + d]? = some (UInt8.ofNat (200 + d)) := by
  unfold as9
  rw [List.getElem?_append_right (by simp), List.length_replicate, Nat.sub_self, List.getElem?_drop, Nat.add_zero, List.getElem?_append_right (by omega), Nat.add_sub_cancel_left]
  exact mk9_get 9 d h
theorem OwB.part' {w : World} {base g n k c : Nat} {x s : List UInt8} (h : OwB w base (.slice (some ⟨g, 0, none⟩) (n + k) c) (x ++ s)) (hx : x.length = n) : RdB w (.slice (some ⟨g, 0, none⟩) n c) x := by
  subst hx
  have := (h.take (m := x.length) (by omega)).rd
  rw [List.take_left] at this
  exact this
set_option maxHeartbeats 2000000 in
set_option maxRecDepth 20000 in
theorem AsLent_any (g n : Nat) (vb : Value) (l : List UInt8) (base : Nat) (w : World) (hn : l.length = n) (ho : OwB w base (.slice (some ⟨g, 0, none⟩) (n + 9) (n + 9)) (l ++ marks9)) (hv : RdB w vb l) (hl : n ≤ 140737488355328) :
    Calls Try.prog 23 #[.slice (some ⟨g, 0, none⟩) n (n + 9), vb] w fun e w' => e = .returned (.bool true) ∧ w.grownBy w' (some g) := by
  subst hn
  obtain ⟨A, c, rfl, hm⟩ := hv.form
  have q1 := run_B_string hv
  have q2 := run_B_string (ho.part' rfl)
  go_enter Try.func23, Try.ntmps23
  go_wp2_with fail
  clear q1 q2
  go_loopw [6, 7] (fun gd i wr => ∃ k : Nat, gd = .bool true ∧ i = .int .i64 (k : Int) ∧ k ≤ l.length + 9 ∧ OwB wr base (.slice (some ⟨g, 0, none⟩) (l.length + 9) (l.length + 9)) (as9 l k) ∧ w.grownBy wr (some g)) (fun _ i _ => l.length + 9 - (intOf i).toNat)
  case atStart => exact ⟨0, rfl, rfl, Nat.zero_le _, by simpa [as9] using ho, World.grownBy.refl w _⟩
  case round =>
    clear ho hv
    obtain ⟨k, rfl, rfl, hk, ho, hg⟩ := hrel
    by_cases hlt : k < l.length + 9
    · have hml := as9_length l k hk
      have hc := ho.cell (j := k) (by omega)
      have hf := ho.frozen (j := k) (by omega)
      have hset := ho.set k 77
      rw [as9_set l k hlt] at hset
      have hset' : OwB (wr.setCell ⟨g, k, none⟩ (.int .u8 77)) base (.slice (some ⟨g, 0, none⟩) (l.length + 9) (l.length + 9)) (as9 l (k + 1)) := hset
      have ik : (k : Int) < ((l.length + 9 : Nat) : Int) := by omega
      have ik2 : k < l.length + 9 := hlt
      by_cases hd : k < l.length
      · have id : (k : Int) < (l.length : Int) := by omega
        have id2 : ¬ (l.length : Int) ≤ (k : Int) := by omega
        generalize ((as9 l k)[k]'(by omega)).toNat = y at hc
        clear hml hset
        go_wp2_with fail
        go_roundw
        case rel => exact ⟨k + 1, rfl, by go_num, by omega, hset', grownBy_trans hg (grownBy_setCell _ _ _)⟩
        case measure => simp [intOf]; omega
      · obtain ⟨d, hd2⟩ : ∃ d, k = l.length + d := ⟨k - l.length, by omega⟩
        have hd9 : d < 9 := by omega
        have e0 : (as9 l k)[k]'(by omega) = UInt8.ofNat (200 + d) := by
          have := as9_get l d hd9
          rw [← hd2, List.getElem?_eq_getElem (by omega)] at this
          exact Option.some.inj this
        rw [e0, b200 d hd9] at hc
        have e1 : (200 : Int) + (k : Int) - (l.length : Int) = 200 + (d : Int) := by omega
        have e2 : IntKind.u8.wrap (200 + (d : Int)) = 200 + (d : Int) := IntWalk.u8_in _ (by omega)
        have id : (l.length : Int) ≤ (k : Int) := by omega
        clear hml hset e0 hd2 hd
        go_wp2_with fail
        go_roundw
        case rel => exact ⟨k + 1, rfl, by go_num, by omega, hset', grownBy_trans hg (grownBy_setCell _ _ _)⟩
        case measure => simp [intOf]; omega
    · obtain rfl : k = l.length + 9 := by omega
      go_wp2_with fail
      go_ret
      exact ⟨rfl, hg⟩
end Go.Proofs.Ytipjngoenklioaa

-- espalierlaw03.PlateMakes: the walk.
namespace Go.Proofs.Ytipjngoenklioaa
open Go.RowKit
def LoadOk (size : Int) (l : List UInt8) : Prop := isPowB size = true ∧ (l.length : Int) % size = 0 ∧ devB size ((l.length : Int) / size) = true
theorem LoadOk.nat {size : Int} {l : List UInt8} (h : LoadOk size l) : ∃ s n : Nat, size = (s : Int) ∧ l.length = n * s ∧ devB (s : Int) (n : Int) = true := by
  obtain ⟨h1, h2, h3⟩ := h
  have h5 := isPowB_range h1
  obtain ⟨s, rfl⟩ := Int.eq_ofNat_of_zero_le (show 0 ≤ size by omega)
  have h6 : 0 ≤ (l.length : Int) / (s : Int) := Int.ediv_nonneg (by omega) (by omega)
  obtain ⟨n, hn⟩ := Int.eq_ofNat_of_zero_le h6
  refine ⟨s, n, rfl, ?_, by rw [← hn]; exact h3⟩
  have h7 := Int.mul_ediv_add_emod (l.length : Int) (s : Int)
  rw [hn, h2, Int.add_zero] at h7
  have h8 : ((n * s : Nat) : Int) = (l.length : Int) := by rw [Int.natCast_mul, Int.mul_comm]; exact h7
  omega
theorem LoadOk.not {size : Int} {l : List UInt8} (h : ¬ LoadOk size l) : isPowB size = false ∨ (l.length : Int) % size ≠ 0 ∨ devB size ((l.length : Int) / size) = false := by
  cases h1 : isPowB size
  · exact .inl rfl
  · by_cases h2 : (l.length : Int) % size = 0
    · cases h3 : devB size ((l.length : Int) / size)
      · exact .inr (.inr rfl)
      · exact absurd ⟨h1, h2, h3⟩ h
    · exact .inr (.inl h2)
theorem dev_nat {size pages : Int} (h : devB size pages = true) : ∃ s n : Nat, size = (s : Int) ∧ pages = (n : Int) := by
  obtain ⟨h1, h2, _, _⟩ := devB_spec h
  have h5 := isPowB_range h1
  obtain ⟨s, hs⟩ := Int.eq_ofNat_of_zero_le (show 0 ≤ size by omega)
  obtain ⟨n, hn⟩ := Int.eq_ofNat_of_zero_le (show 0 ≤ pages by omega)
  exact ⟨s, n, hs, hn⟩
set_option maxRecDepth 100000 in
set_option maxHeartbeats 4000000 in
theorem makes_11 (v : Value) (l : List UInt8) (hl : l.length ≤ 140737488351232) (w : World) (hv : RdB w v l) (s n : Nat) (hd : devB (s : Int) (n : Int) = true) (m : Nat) (hld : devB (s : Int) (m : Int) = true) (hll : l.length = m * s) :
    Calls Try.prog 5 #[.int .i64 (s : Int), .int .i64 (n : Int), v] w fun e w' => e = .returned (.bool true) ∧ Below w.heap.size w w' := by
  obtain ⟨A, c, rfl, hm⟩ := hv.form
  have h5 : 512 ≤ (s : Int) ∧ (s : Int) ≤ 65536 := isPowB_range (devB_spec hd).1
  have hn5 : (n : Int) ≤ 65536 := (devB_spec hd).2.2.1
  have HD := Lib.hid hd
  clear hd
  have HLD := Lib.hid hld
  have HLL := Lib.hid hll
  clear hld hll
  go_enter Try.func5, Try.ntmps5
  go_wp2_with fail
  refine (awake_any _).mono ?_
  rintro e w1 ⟨rfl, hb1⟩
  go_wp2_with fail
  refine (New_ok s n HD.out _).mono ?_
  rintro e w2 ⟨r2, F2, rfl, hP2, hF2, hb2⟩
  unfold plPtr
  go_wp2_with fail
  refine (RNew_ok s n HD.out _).mono ?_
  rintro e w3 ⟨r3, F3, rfl, hP3, hF3, hb3⟩
  unfold rfPtr
  have hQ := hP2.below hb3
  have hB3 : Below w.heap.size w w3 := (hb1.trans (hb2.mono hb1.size)).trans (hb3.mono (Nat.le_trans hb1.size hb2.size))
  have k1 := Page_any w3 F2 r2 _ hQ
  have k2 := Pages_any w3 F2 r2 _ hQ
  have k3 := fun w' (hb : Below w3.heap.size w3 w') => Up_any w' F2 r2 _ (hQ.below hb)
  have k4 := fun w' (hb : Below w3.heap.size w3 w') => Loose_any w' F2 r2 _ (hQ.below hb)
  unfold plPtr at k1 k2 k3 k4
  rw [show (S0 s n).page = s from rfl] at k1
  rw [show (S0 s n).np = n from rfl] at k2
  have K3 := Lib.hid k3
  have K4 := Lib.hid k4
  clear hQ hP2 hP3 hb1 hb2 hb3 hF2 hF3 k3 k4
  go_wp2_with (first
    | (go_at_call 19; refine k1.mono ?_; rintro e w4 ⟨rfl, rfl⟩)
    | (go_at_call 20; refine k2.mono ?_; rintro e w4 ⟨rfl, hb4⟩)
    | (go_at_call 14; refine (K3.out _ hb4).mono ?_; rintro e w5 ⟨rfl, rfl⟩; rw [show (S0 s n).down = false from rfl])
    | (go_at_call 17; refine (K4.out _ hb4).mono ?_; rintro e w5 ⟨rfl, rfl⟩; rw [show (S0 s n).wild.length = 0 from rfl])
    | fail)
  have hB : Below w.heap.size w w4 := hB3.trans (hb4.mono hB3.size)
  clear hB3 hb4 k1 k2 K3 K4
  have hv1 := hv.below hB (Nat.le_refl _)
  refine (Lent_any _ l _ hv1 (by omega)).mono ?_
  rintro e w6 ⟨g6, rfl, ho6, hb6⟩
  have hv6 := hv1.below hb6 (Nat.le_refl _)
  have hB6 := hB.trans (hb6.mono hB.size)
  have hr6 : RdB w6 (.slice (some ⟨g6, 0, none⟩) l.length (l.length + 9)) l := ho6.part' rfl
  have hg6 := ho6.lt g6 rfl
  clear hv1 hb6
  go_wp2_with fail
  refine (Load_ok s m HLD.out _ l HLL.out _ hr6).mono ?_
  rintro e w7 ⟨r7, F7, rfl, hP7, hF7, hb7⟩
  unfold plPtr
  have ho7 := ho6.below2 hb7
  have hv7 := hv6.below hb7 (Nat.le_refl _)
  have hB7 := hB6.trans (hb7.mono hB6.size)
  go_wp2_with fail
  refine (AsLent_any g6 l.length _ l w4.heap.size _ rfl ho7 hv7 (by omega)).mono ?_
  rintro e w8 ⟨rfl, hg8⟩
  have hB8 := hB7.grown hg8 hB7.size (fun k e => by cases e; have := hB.size; omega)
  have hv8 : RdB w8 (.slice A l.length c) l := hv.below hB8 (Nat.le_refl _)
  have hP8 : PlRaw w8 F7 r7 (SL s m l) := hP7.turn (Turn.of_grown (F := fun k => k = g6) hg8 (fun k e => (Option.some.inj e).symm)) (fun k hf e => by have := hF7 k hf; omega)
  clear hr6 hv6 ho6 hv7 ho7 hg8 hP7
  go_wp2_with fail
  refine (RLoad_ok s m HLD.out _ l HLL.out _ hv8).mono ?_
  rintro e w9 ⟨r9, F9, rfl, hP9, hF9, hb9⟩
  unfold rfPtr
  have hQ9 := hP8.below hb9
  have hB9 := hB8.trans (hb9.mono hB8.size)
  have j1 := Image_any w9 F7 r7 _ hQ9
  unfold plPtr at j1
  have efl : (SL s m l).pg.flatten = l := by
    show (chunk s l m).flatten = l
    rw [chunk_flat s l m (Nat.le_of_eq HLL.out.symm), ← HLL.out, List.take_length]
  rw [show syncPg (SL s m l).wild (SL s m l).pg = (SL s m l).pg from rfl, efl] at j1
  clear hv8 hP8 hb9 hB8 hF9 hB7 hb7
  go_wp2_with fail
  refine j1.mono ?_
  rintro e w10 ⟨v10, rfl, ho10, hb10⟩
  have hQ10 := hQ9.below hb10
  have j2 := Safe_any w10 F7 r7 _ hQ10
  unfold plPtr at j2
  rw [efl] at j2
  clear j1
  go_wp2_with fail
  refine j2.mono ?_
  rintro e w11 ⟨v11, rfl, ho11, hb11⟩
  have hB10 := hB9.trans (hb10.mono hB9.size)
  have hB11 := hB10.trans (hb11.mono hB10.size)
  have hQ11 := hQ10.below hb11
  have hR11 := (hP9.below hb10).below hb11
  have q1 := run_B_string (ho10.below2 hb11).rd
  have q2 := run_B_string ho11.rd
  have q3 := run_B_string (hv.below hB11 (Nat.le_refl _))
  have k1 := Up_any w11 F7 r7 _ hQ11
  have k2 := Pages_any w11 F7 r7 _ hQ11
  have k3 := fun w' (hb : Below w11.heap.size w11 w') => RPages_any w' F9 r9 _ (hR11.below hb)
  unfold plPtr at k1 k2
  unfold rfPtr at k3
  rw [show (SL s m l).down = false from rfl] at k1
  rw [show (SL s m l).np = m from rfl] at k2 k3
  have K3 := Lib.hid k3
  clear ho10 ho11 hb10 hb11 hQ9 hQ10 hQ11 hR11 hP9 hB9 hB10 k3 j2 hv
  go_wp2_with (first
    | (go_at_call 14; refine k1.mono ?_; rintro e w12 ⟨rfl, rfl⟩)
    | (go_at_call 20; refine k2.mono ?_; rintro e w12 ⟨rfl, hb12⟩)
    | (go_at_call 25; refine (K3.out _ hb12).mono ?_; rintro e w13 ⟨rfl, rfl⟩)
    | fail)
  go_ret
  exact ⟨rfl, hB11.trans (hb12.mono hB11.size)⟩
set_option maxRecDepth 100000 in
set_option maxHeartbeats 4000000 in
theorem makes_10 (v : Value) (l : List UInt8) (hl : l.length ≤ 140737488351232) (w : World) (hv : RdB w v l) (s n : Nat) (hd : devB (s : Int) (n : Int) = true) (hlo : isPowB (s : Int) = false ∨ (l.length : Int) % (s : Int) ≠ 0 ∨ devB (s : Int) ((l.length : Int) / (s : Int)) = false) :
    Calls Try.prog 5 #[.int .i64 (s : Int), .int .i64 (n : Int), v] w fun e w' => e = .returned (.bool true) ∧ Below w.heap.size w w' := by
  obtain ⟨A, c, rfl, hm⟩ := hv.form
  have h5 : 512 ≤ (s : Int) ∧ (s : Int) ≤ 65536 := isPowB_range (devB_spec hd).1
  have hn5 : (n : Int) ≤ 65536 := (devB_spec hd).2.2.1
  have HD := Lib.hid hd
  clear hd
  have HLO := Lib.hid hlo
  clear hlo
  go_enter Try.func5, Try.ntmps5
  go_wp2_with fail
  refine (awake_any _).mono ?_
  rintro e w1 ⟨rfl, hb1⟩
  go_wp2_with fail
  refine (New_ok s n HD.out _).mono ?_
  rintro e w2 ⟨r2, F2, rfl, hP2, hF2, hb2⟩
  unfold plPtr
  go_wp2_with fail
  refine (RNew_ok s n HD.out _).mono ?_
  rintro e w3 ⟨r3, F3, rfl, hP3, hF3, hb3⟩
  unfold rfPtr
  have hQ := hP2.below hb3
  have hB3 : Below w.heap.size w w3 := (hb1.trans (hb2.mono hb1.size)).trans (hb3.mono (Nat.le_trans hb1.size hb2.size))
  have k1 := Page_any w3 F2 r2 _ hQ
  have k2 := Pages_any w3 F2 r2 _ hQ
  have k3 := fun w' (hb : Below w3.heap.size w3 w') => Up_any w' F2 r2 _ (hQ.below hb)
  have k4 := fun w' (hb : Below w3.heap.size w3 w') => Loose_any w' F2 r2 _ (hQ.below hb)
  unfold plPtr at k1 k2 k3 k4
  rw [show (S0 s n).page = s from rfl] at k1
  rw [show (S0 s n).np = n from rfl] at k2
  have K3 := Lib.hid k3
  have K4 := Lib.hid k4
  clear hQ hP2 hP3 hb1 hb2 hb3 hF2 hF3 k3 k4
  go_wp2_with (first
    | (go_at_call 19; refine k1.mono ?_; rintro e w4 ⟨rfl, rfl⟩)
    | (go_at_call 20; refine k2.mono ?_; rintro e w4 ⟨rfl, hb4⟩)
    | (go_at_call 14; refine (K3.out _ hb4).mono ?_; rintro e w5 ⟨rfl, rfl⟩; rw [show (S0 s n).down = false from rfl])
    | (go_at_call 17; refine (K4.out _ hb4).mono ?_; rintro e w5 ⟨rfl, rfl⟩; rw [show (S0 s n).wild.length = 0 from rfl])
    | fail)
  have hB : Below w.heap.size w w4 := hB3.trans (hb4.mono hB3.size)
  clear hB3 hb4 k1 k2 K3 K4
  have hv1 := hv.below hB (Nat.le_refl _)
  refine (Lent_any _ l _ hv1 (by omega)).mono ?_
  rintro e w6 ⟨g6, rfl, ho6, hb6⟩
  have hv6 := hv1.below hb6 (Nat.le_refl _)
  have hB6 := hB.trans (hb6.mono hB.size)
  have hr6 : RdB w6 (.slice (some ⟨g6, 0, none⟩) l.length (l.length + 9)) l := ho6.part' rfl
  have hg6 := ho6.lt g6 rfl
  clear hv1 hb6
  go_wp2_with (first
    | (go_at_call 22; refine (Load_bad (s : Int) (by omega) _ l HLO.out _ hr6).mono ?_; rintro e w7 ⟨rfl, rfl⟩)
    | fail)
  refine (AsLent_any g6 l.length _ l w4.heap.size _ rfl ho6 hv6 (by omega)).mono ?_
  rintro e w8 ⟨rfl, hg8⟩
  have hv8 : RdB w8 (.slice A l.length c) l := hv.below (hB6.grown hg8 hB6.size (fun k e => by cases e; have := hB.size; omega)) (Nat.le_refl _)
  have hB8 := hB6.grown hg8 hB6.size (fun k e => by cases e; have := hB.size; omega)
  clear hr6 hv6 ho6 hg8
  go_wp2_with (first
    | (go_at_call 24; refine (RLoad_bad (s : Int) (by omega) _ l HLO.out _ hv8).mono ?_; rintro e w9 ⟨rfl, rfl⟩)
    | fail)
  go_ret
  exact ⟨rfl, hB8⟩
set_option maxRecDepth 100000 in
set_option maxHeartbeats 4000000 in
theorem makes_01 (v : Value) (l : List UInt8) (hl : l.length ≤ 140737488351232) (w : World) (hv : RdB w v l) (s : Nat) (pages : Int) (hd : devB (s : Int) pages = false) (m : Nat) (hld : devB (s : Int) (m : Int) = true) (hll : l.length = m * s) :
    Calls Try.prog 5 #[.int .i64 (s : Int), .int .i64 pages, v] w fun e w' => e = .returned (.bool true) ∧ Below w.heap.size w w' := by
  obtain ⟨A, c, rfl, hm⟩ := hv.form
  have h5 : 512 ≤ (s : Int) ∧ (s : Int) ≤ 65536 := isPowB_range (devB_spec hld).1
  have HD := Lib.hid hd
  clear hd
  have HLD := Lib.hid hld
  have HLL := Lib.hid hll
  clear hld hll
  go_enter Try.func5, Try.ntmps5
  go_wp2_with fail
  refine (awake_any _).mono ?_
  rintro e w1 ⟨rfl, hb1⟩
  go_wp2_with (first
    | (go_at_call 8; refine (New_bad (s : Int) pages (by omega) HD.out _).mono ?_; rintro e w2 ⟨rfl, rfl⟩)
    | (go_at_call 18; refine (RNew_bad (s : Int) pages (by omega) HD.out _).mono ?_; rintro e w2 ⟨rfl, rfl⟩)
    | fail)
  have hB : Below w.heap.size w w1 := hb1
  clear hb1
  have hv1 := hv.below hB (Nat.le_refl _)
  refine (Lent_any _ l _ hv1 (by omega)).mono ?_
  rintro e w6 ⟨g6, rfl, ho6, hb6⟩
  have hv6 := hv1.below hb6 (Nat.le_refl _)
  have hB6 := hB.trans (hb6.mono hB.size)
  have hr6 : RdB w6 (.slice (some ⟨g6, 0, none⟩) l.length (l.length + 9)) l := ho6.part' rfl
  have hg6 := ho6.lt g6 rfl
  clear hv1 hb6
  go_wp2_with fail
  refine (Load_ok s m HLD.out _ l HLL.out _ hr6).mono ?_
  rintro e w7 ⟨r7, F7, rfl, hP7, hF7, hb7⟩
  unfold plPtr
  have ho7 := ho6.below2 hb7
  have hv7 := hv6.below hb7 (Nat.le_refl _)
  have hB7 := hB6.trans (hb7.mono hB6.size)
  go_wp2_with fail
  refine (AsLent_any g6 l.length _ l w1.heap.size _ rfl ho7 hv7 (by omega)).mono ?_
  rintro e w8 ⟨rfl, hg8⟩
  have hB8 := hB7.grown hg8 hB7.size (fun k e => by cases e; have := hB.size; omega)
  have hv8 : RdB w8 (.slice A l.length c) l := hv.below hB8 (Nat.le_refl _)
  have hP8 : PlRaw w8 F7 r7 (SL s m l) := hP7.turn (Turn.of_grown (F := fun k => k = g6) hg8 (fun k e => (Option.some.inj e).symm)) (fun k hf e => by have := hF7 k hf; omega)
  clear hr6 hv6 ho6 hv7 ho7 hg8 hP7
  go_wp2_with fail
  refine (RLoad_ok s m HLD.out _ l HLL.out _ hv8).mono ?_
  rintro e w9 ⟨r9, F9, rfl, hP9, hF9, hb9⟩
  unfold rfPtr
  have hQ9 := hP8.below hb9
  have hB9 := hB8.trans (hb9.mono hB8.size)
  have j1 := Image_any w9 F7 r7 _ hQ9
  unfold plPtr at j1
  have efl : (SL s m l).pg.flatten = l := by
    show (chunk s l m).flatten = l
    rw [chunk_flat s l m (Nat.le_of_eq HLL.out.symm), ← HLL.out, List.take_length]
  rw [show syncPg (SL s m l).wild (SL s m l).pg = (SL s m l).pg from rfl, efl] at j1
  clear hv8 hP8 hb9 hB8 hF9 hB7 hb7
  go_wp2_with fail
  refine j1.mono ?_
  rintro e w10 ⟨v10, rfl, ho10, hb10⟩
  have hQ10 := hQ9.below hb10
  have j2 := Safe_any w10 F7 r7 _ hQ10
  unfold plPtr at j2
  rw [efl] at j2
  clear j1
  go_wp2_with fail
  refine j2.mono ?_
  rintro e w11 ⟨v11, rfl, ho11, hb11⟩
  have hB10 := hB9.trans (hb10.mono hB9.size)
  have hB11 := hB10.trans (hb11.mono hB10.size)
  have hQ11 := hQ10.below hb11
  have hR11 := (hP9.below hb10).below hb11
  have q1 := run_B_string (ho10.below2 hb11).rd
  have q2 := run_B_string ho11.rd
  have q3 := run_B_string (hv.below hB11 (Nat.le_refl _))
  have k1 := Up_any w11 F7 r7 _ hQ11
  have k2 := Pages_any w11 F7 r7 _ hQ11
  have k3 := fun w' (hb : Below w11.heap.size w11 w') => RPages_any w' F9 r9 _ (hR11.below hb)
  unfold plPtr at k1 k2
  unfold rfPtr at k3
  rw [show (SL s m l).down = false from rfl] at k1
  rw [show (SL s m l).np = m from rfl] at k2 k3
  have K3 := Lib.hid k3
  clear ho10 ho11 hb10 hb11 hQ9 hQ10 hQ11 hR11 hP9 hB9 hB10 k3 j2 hv
  go_wp2_with (first
    | (go_at_call 14; refine k1.mono ?_; rintro e w12 ⟨rfl, rfl⟩)
    | (go_at_call 20; refine k2.mono ?_; rintro e w12 ⟨rfl, hb12⟩)
    | (go_at_call 25; refine (K3.out _ hb12).mono ?_; rintro e w13 ⟨rfl, rfl⟩)
    | fail)
  go_ret
  exact ⟨rfl, hB11.trans (hb12.mono hB11.size)⟩
set_option maxRecDepth 100000 in
set_option maxHeartbeats 4000000 in
theorem makes_00 (v : Value) (l : List UInt8) (hl : l.length ≤ 140737488351232) (w : World) (hv : RdB w v l) (size pages : Int) (hs : -9223372036854775808 ≤ size ∧ size ≤ 9223372036854775807) (hd : devB size pages = false) (hlo : isPowB size = false ∨ (l.length : Int) % size ≠ 0 ∨ devB size ((l.length : Int) / size) = false) :
    Calls Try.prog 5 #[.int .i64 size, .int .i64 pages, v] w fun e w' => e = .returned (.bool true) ∧ Below w.heap.size w w' := by
  obtain ⟨A, c, rfl, hm⟩ := hv.form
  have HD := Lib.hid hd
  clear hd
  have HLO := Lib.hid hlo
  clear hlo
  go_enter Try.func5, Try.ntmps5
  go_wp2_with fail
  refine (awake_any _).mono ?_
  rintro e w1 ⟨rfl, hb1⟩
  go_wp2_with (first
    | (go_at_call 8; refine (New_bad size pages hs HD.out _).mono ?_; rintro e w2 ⟨rfl, rfl⟩)
    | (go_at_call 18; refine (RNew_bad size pages hs HD.out _).mono ?_; rintro e w2 ⟨rfl, rfl⟩)
    | fail)
  have hB : Below w.heap.size w w1 := hb1
  clear hb1
  have hv1 := hv.below hB (Nat.le_refl _)
  refine (Lent_any _ l _ hv1 (by omega)).mono ?_
  rintro e w6 ⟨g6, rfl, ho6, hb6⟩
  have hv6 := hv1.below hb6 (Nat.le_refl _)
  have hB6 := hB.trans (hb6.mono hB.size)
  have hr6 : RdB w6 (.slice (some ⟨g6, 0, none⟩) l.length (l.length + 9)) l := ho6.part' rfl
  have hg6 := ho6.lt g6 rfl
  clear hv1 hb6
  go_wp2_with (first
    | (go_at_call 22; refine (Load_bad size hs _ l HLO.out _ hr6).mono ?_; rintro e w7 ⟨rfl, rfl⟩)
    | fail)
  refine (AsLent_any g6 l.length _ l w1.heap.size _ rfl ho6 hv6 (by omega)).mono ?_
  rintro e w8 ⟨rfl, hg8⟩
  have hv8 : RdB w8 (.slice A l.length c) l := hv.below (hB6.grown hg8 hB6.size (fun k e => by cases e; have := hB.size; omega)) (Nat.le_refl _)
  have hB8 := hB6.grown hg8 hB6.size (fun k e => by cases e; have := hB.size; omega)
  clear hr6 hv6 ho6 hg8
  go_wp2_with (first
    | (go_at_call 24; refine (RLoad_bad size hs _ l HLO.out _ hv8).mono ?_; rintro e w9 ⟨rfl, rfl⟩)
    | fail)
  go_ret
  exact ⟨rfl, hB8⟩
theorem makes_any (size pages : Int) (hs : -9223372036854775808 ≤ size ∧ size ≤ 9223372036854775807) (v : Value) (l : List UInt8) (hl : l.length ≤ 140737488351232) (w : World) (hv : RdB w v l) :
    Calls Try.prog 5 #[.int .i64 size, .int .i64 pages, v] w fun e w' => e = .returned (.bool true) ∧ Below w.heap.size w w' := by
  by_cases hlo : LoadOk size l
  · obtain ⟨s, m, rfl, hll, hld⟩ := hlo.nat
    cases hd : devB (s : Int) pages
    · exact makes_01 v l hl w hv s pages hd m hld hll
    · obtain ⟨s', n, e1, rfl⟩ := dev_nat hd
      exact makes_11 v l hl w hv s n hd m hld hll
  · cases hd : devB size pages
    · exact makes_00 v l hl w hv size pages hs hd (LoadOk.not hlo)
    · obtain ⟨s, n, rfl, rfl⟩ := dev_nat hd
      exact makes_10 v l hl w hv s n hd (LoadOk.not hlo)
end Go.Proofs.Ytipjngoenklioaa
