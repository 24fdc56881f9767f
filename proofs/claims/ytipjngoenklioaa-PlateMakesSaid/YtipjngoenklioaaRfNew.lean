/- espalierref03.device, New: walks. -/
import Derived.Test.YtipjngoenklioaaRfPla
import Derived.Deep.RegionLaw
namespace Go.Proofs.Ytipjngoenklioaa
open Go.RowKit
set_option maxRecDepth 20000 in
set_option maxHeartbeats 2000000 in
theorem device_any (p n : Int) (hp : -9223372036854775808 ≤ p ∧ p ≤ 9223372036854775807) (w : World) : Calls Try.prog 41 #[.int .i64 p, .int .i64 n] w fun e w' => e = .returned (.bool (devB p n)) ∧ w = w' := by
  cases hq : isPowB p
  · have HV := Lib.hid (devB_pow (n := n) hq)
    have HP := Lib.hid hq
    clear hq
    go_enter Try.func41, Try.ntmps41
    go_wp2_with (first
      | (go_at_call 42; refine (IsPage_any _ _).mono ?_; rintro e w0 ⟨rfl, rfl⟩; rw [HP.out]))
    go_ret
    rw [HV.out]
    exact ⟨rfl, rfl⟩
  have h5 := isPowB_range hq
  have HP := Lib.hid hq
  by_cases h1 : 4 ≤ n
  · by_cases h2 : n ≤ 65536
    · have hm : 0 ≤ n * p ∧ n * p ≤ 65536 * 65536 := ⟨Int.mul_nonneg (by omega) (by omega), Int.mul_le_mul h2 h5.2 (by omega) (by omega)⟩
      have HV : Hid (devB p n = decide (n * p ≤ 67108864)) := Lib.hid (by unfold devB; rw [hq, decide_eq_true h1, decide_eq_true h2]; rfl)
      clear hq
      obtain ⟨x, hx⟩ : ∃ x, n * p = x := ⟨_, rfl⟩
      rw [hx] at HV hm
      have wm : IntKind.i64.wrap x = x := IntWalk.i64_in _ (by omega)
      by_cases h3 : x ≤ 67108864
      · have HD := Lib.hid (decide_eq_true h3)
        clear hm
        go_enter Try.func41, Try.ntmps41
        go_wp2_with (first
          | (go_at_call 42; refine (IsPage_any _ _).mono ?_; rintro e w0 ⟨rfl, rfl⟩; rw [HP.out]))
        go_ret
        rw [HV.out, HD.out]
        exact ⟨rfl, rfl⟩
      · have HD := Lib.hid (decide_eq_false h3)
        have h4 : 67108864 < x := by omega
        clear hm
        go_enter Try.func41, Try.ntmps41
        go_wp2_with (first
          | (go_at_call 42; refine (IsPage_any _ _).mono ?_; rintro e w0 ⟨rfl, rfl⟩; rw [HP.out]))
        go_ret
        rw [HV.out, HD.out]
        exact ⟨rfl, rfl⟩
    · have HV := Lib.hid (show devB p n = false by unfold devB; rw [hq, decide_eq_true h1, decide_eq_false h2]; rfl)
      clear hq
      go_enter Try.func41, Try.ntmps41
      go_wp2_with (first
        | (go_at_call 42; refine (IsPage_any _ _).mono ?_; rintro e w0 ⟨rfl, rfl⟩; rw [HP.out]))
      go_ret
      rw [HV.out]
      exact ⟨rfl, rfl⟩
  · have HV := Lib.hid (show devB p n = false by unfold devB; rw [hq, decide_eq_false h1]; rfl)
    clear hq
    go_enter Try.func41, Try.ntmps41
    go_wp2_with (first
      | (go_at_call 42; refine (IsPage_any _ _).mono ?_; rintro e w0 ⟨rfl, rfl⟩; rw [HP.out]))
    go_ret
    rw [HV.out]
    exact ⟨rfl, rfl⟩
theorem run_make_B (w : World) (n : Nat) (hn : n ≤ 281474976710656) : (Instr.makeSlice 28 (.int .i64 (n : Int)) (.int .i64 (n : Int))).run Try.prog w = .ok (.slice (some ⟨w.heap.size, 0, none⟩) n n) (w.alloc (.cells (bvs (List.replicate n 0)).toArray 5)) := by
  obtain ⟨i, hi, hz0, hz1, hz2⟩ := info_parts u8_info
  have hr := run_make (P := Try.prog) w 28 5 i _ Try.underlying28 hi hz0 .i64 .i64 n n (by omega) (by omega) (by rw [hz2]; omega) (by omega)
  have e := toList_madeCells_one (.int .u8 0) n
  rw [hr]
  simp only [Value.cells, hz1, Int.toNat_natCast, Nat.mul_one]
  rw [← Array.toArray_toList (xs := madeCells #[Value.int .u8 0] n), e, bvs_replicate]
theorem RNew_bad (page n : Int) (hp : -9223372036854775808 ≤ page ∧ page ≤ 9223372036854775807) (h : devB page n = false) (w : World) : Calls Try.prog 18 #[.int .i64 page, .int .i64 n] w fun e w' => e = .returned (.pointer none) ∧ w = w' := by
  have H := Lib.hid h
  clear h
  go_enter Try.func18, Try.ntmps18
  go_wp2_with (first
    | (go_at_call 41; refine (device_any page n hp _).mono ?_; rintro e w0 ⟨rfl, rfl⟩; rw [H.out]))
  go_ret
  exact ⟨rfl, rfl⟩
theorem OwB.ne_ownT {w : World} {b b' : Nat} {u v : Value} {l : List UInt8} {n size : Nat} {xs : List Value} {T : TypeId} (h : OwB w b u l) (h' : Own w b' T size v n xs) (hT : 5 ≠ T) : ∀ g, u.ownBlock = some g → some g ≠ v.ownBlock := fun g hg e => by
  rcases h'.2 with ⟨rfl, _⟩ | ⟨g', cap, cs, rfl, _, hg', _⟩
  · simp [Value.ownBlock] at e
  · simp [Value.ownBlock] at e
    subst e
    exact OwB.ne_T h hg' hT hg.symm
/-- Pages laid so far. -/
structure NewI (w : World) (page : Nat) (k pb : Nat) (lv : Value) (pv : List Value) (wi : World) : Prop where
  blk : OBlk wi pb 76 [.int .i64 (page : Int), lv, .slice none 0 0, .bool false, .bool false, .int .i64 0, .slice none 0 0, .int .i64 0, .int .i64 0, .int .i64 0, .int .i64 0, .int .i64 0]
  own : Own wi w.heap.size 28 1 lv pv.length pv
  len : pv.length = k
  el : ∀ (i : Nat) (v : Value), pv[i]? = some v → OwB wi w.heap.size v (List.replicate page 0)
  ap : ApartV pv
  hb : Below w.heap.size w wi
  pb1 : w.heap.size ≤ pb
theorem NewI.push {w wi w2 w3 : World} {page k pb : Nat} {lv lv' : Value} {pv : List Value} (h : NewI w page k pb lv pv wi) (hp : page ≤ 65536) (u : Value)
    (h2 : Below wi.heap.size wi w2) (hu : OwB w2 wi.heap.size u (List.replicate page 0)) (ho : Own w3 w.heap.size 28 1 lv' (pv.length + 1) (pv ++ [u])) (hg : w2.grownBy w3 lv.ownBlock) (c : List Value)
    (hc : c = [.int .i64 (page : Int), lv', .slice none 0 0, .bool false, .bool false, .int .i64 0, .slice none 0 0, .int .i64 0, .int .i64 0, .int .i64 0, .int .i64 0, .int .i64 0]) :
    NewI w page (k + 1) pb lv' (pv ++ [u]) (w3.setCell ⟨pb, 1, none⟩ lv') := by
  have hpb3 := (h.blk.below h2 h.blk.lt).grown hg (fun e => (Own.below' h.own h2 (Nat.le_refl _)).ne_T (h.blk.below h2 h.blk.lt) (by decide) e)
  have hown2 := Own.below' h.own h2 (Nat.le_refl _)
  have hs2 := h2.size
  have hbw := h.hb.size
  have ne_pb : ∀ {v : Value} {l : List UInt8} {b : Nat}, OwB w3 b v l → v.ownBlock ≠ some pb := fun hv e => OwB.ne_T hv hpb3 (by decide) e.symm
  have el3 : ∀ (i : Nat) (v : Value), pv[i]? = some v → OwB w3 w.heap.size v (List.replicate page 0) := fun i v hv => by
    have e2 := (h.el i v hv).below' h2 (Nat.le_refl _)
    refine Own.grown e2 hg fun g hg' e => ?_
    have := OwB.ne_ownT e2 hown2 (by decide) g hg'
    exact this e
  have u3 : OwB w3 w.heap.size u (List.replicate page 0) := (Own.grown hu hg fun g hg' e => by
    have := (Own.lt hu g hg').1
    have := (Own.lt h.own g e.symm).2
    omega).low hbw
  refine { blk := ?_, own := ?_, len := by simp [h.len], el := ?_, ap := ?_, hb := ?_, pb1 := h.pb1 }
  · exact hpb3.set 1 lv'
  · have := ho.far (p := ⟨pb, 1, none⟩) (fun e => ho.ne_T hpb3 (by decide) e.symm) lv'
    simpa using this
  · intro i v hv
    rcases Nat.lt_or_ge i pv.length with hi | hi
    · rw [List.getElem?_append_left hi] at hv
      exact Own.far (el3 i v hv) (ne_pb (el3 i v hv)) lv'
    · rw [List.getElem?_append_right hi] at hv
      have : v = u := by
        cases hk : i - pv.length with
        | zero => rw [hk] at hv; simpa using hv.symm
        | succ m => rw [hk] at hv; simp at hv
      subst this
      exact Own.far u3 (ne_pb u3) lv'
  · intro i j a b hij ha hb g hg'
    rcases Nat.lt_or_ge i pv.length with hi | hi <;> rcases Nat.lt_or_ge j pv.length with hj | hj
    · rw [List.getElem?_append_left hi] at ha
      rw [List.getElem?_append_left hj] at hb
      exact h.ap i j a b hij ha hb g hg'
    · rw [List.getElem?_append_left hi] at ha
      rw [List.getElem?_append_right hj] at hb
      have hb' : b = u := by
        cases hk : j - pv.length with
        | zero => rw [hk] at hb; simpa using hb.symm
        | succ m => rw [hk] at hb; simp at hb
      subst hb'
      intro e
      have h1 := (Own.lt (h.el i a ha) g hg').2
      have h2 := (Own.lt hu g e.symm).1
      omega
    · rw [List.getElem?_append_right hi] at ha
      rw [List.getElem?_append_left hj] at hb
      have ha' : a = u := by
        cases hk : i - pv.length with
        | zero => rw [hk] at ha; simpa using ha.symm
        | succ m => rw [hk] at ha; simp at ha
      subst ha'
      intro e
      have h1 := (Own.lt (h.el j b hb) g e.symm).2
      have h2 := (Own.lt hu g hg').1
      omega
    · rw [List.getElem?_append_right hi] at ha
      rw [List.getElem?_append_right hj] at hb
      have e1 := (List.getElem?_eq_some_iff.1 ha).1
      have e2 := (List.getElem?_eq_some_iff.1 hb).1
      simp at e1 e2
      omega
  · exact ((h.hb.trans (h2.mono hbw)).grown hg (Nat.le_trans hbw hs2) (fun k hk => (Own.lt h.own k hk).1)).setCell h.pb1 _
end Go.Proofs.Ytipjngoenklioaa
