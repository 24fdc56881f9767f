/- Texts joined: espalierlaw03.pair.play; espalierlaw03.pair.play; espalierlaw03.pair.play; espalierlaw03.pair.play; espalierlaw03.pair.owned, big; espalierlaw03.PlateLasts -/
import Derived.Test.YtipjngoenklioaaG4
import Derived.Test.YtipjngoenklioaaG7
import Derived.Test.YtipjngoenklioaaG10
-- espalierlaw03.pair.play: walks, by the kind of the step (read).
namespace Go.Proofs.Ytipjngoenklioaa
open Go.RowKit
theorem Step.told {T T' T'' : Nat → Prop} {w w2 w3 : World} {a : Value} (hs : Step T w T' w2) (ht : Turn T' w2 w3) (hg : ∀ k, T'' k → T' k ∨ a.ownBlock = some k ∨ w2.heap.size ≤ k) (ha : ∀ g, a.ownBlock = some g → w.heap.size ≤ g) : Step T w T'' w3 :=
  ⟨hs.turn.trans ht hs.grow, fun b hb => by
    rcases hg b hb with h | h | h
    · exact hs.grow b h
    · exact .inr (ha b h)
    · exact .inr (Nat.le_trans hs.turn.size h)⟩
theorem told_ls {b : Prop} {ls : List LW} {l : List UInt8} (h : ∀ x ∈ ls, x.2.length ≤ 67108864 ∧ (b → x.1 = x.2)) (hl : l.length ≤ 67108864) : ∀ x ∈ ls ++ [(l, l)], x.2.length ≤ 67108864 ∧ (b → x.1 = x.2) := fun x hx => by
  rcases List.mem_append.1 hx with hx | hx
  · exact h x hx
  · rw [List.mem_singleton] at hx; subst hx; exact ⟨hl, fun _ => rfl⟩
theorem readPg_len {S : PS} (h : S.ok) {n : Nat} (hn : n < S.np) : ∃ l, readPg S.wild S.pg n = some l ∧ l.length = S.page := by
  have hp : n < S.pg.length := by rw [h.pl]; exact hn
  have hs : n < (syncPg S.wild S.pg).length := by rw [syncPg_length]; exact hp
  have e := syncPg_get S.pg n hp S.wild
  rw [List.getElem?_eq_getElem hs] at e
  refine ⟨_, e.symm, ?_⟩
  unfold readPg at e
  split at e
  · rename_i i hi
    obtain ⟨hil, _⟩ := lastI_some hi
    rw [List.getElem?_eq_getElem hil] at e
    simp only [Option.map_some, Option.some.injEq] at e
    rw [e]
    exact (h.we _ (List.getElem_mem hil)).2
  · rw [List.getElem?_eq_getElem hp] at e
    rw [Option.some.inj e]
    exact h.pe _ (List.getElem_mem hp)
theorem sync_flat {S : PS} (h : S.ok) : (syncPg S.wild S.pg).flatten.length = S.sz := by
  have hlen : (syncPg S.wild S.pg).length = S.np := by rw [syncPg_length]; exact h.pl
  rw [flat_len (P := S.page) (fun x hx => ?_), hlen, h.sn]
  obtain ⟨i, hi, rfl⟩ := List.getElem_of_mem hx
  obtain ⟨l, h1, h2⟩ := readPg_len h (n := i) (by rw [← hlen]; exact hi)
  have e := syncPg_get S.pg i (by rw [h.pl, ← hlen]; exact hi) S.wild
  rw [List.getElem?_eq_getElem hi, h1] at e
  rw [Option.some.inj e]; exact h2
set_option maxRecDepth 100000 in
set_option maxHeartbeats 8000000 in
theorem play_read (b0 : Prop) (W w : World) (T : Nat → Prop) (xb N : Nat) (o : OpV) (hk : o.kind = 1) (h : Pair b0 w T xb N) (hN : N ≤ 10000000) (ho : o.ok W) (hB : Below W.heap.size W w) (hT : ∀ b, T b → W.heap.size ≤ b) (hkl : o.keep.length ≤ 10000000) (hdl : o.data.length ≤ 10000000) :
    Calls Try.prog 27 #[pairV xb, opV o] w (PlayAt b0 w T xb N) := by
  obtain ⟨r, q, S, D, R, cv, cs, wv, ls, h, hcn, hwn, hll⟩ := h
  have HWF := Lib.hid ho
  obtain ⟨kind, on, n, byte, dv, data, kv, ks, torn, at_⟩ := o
  obtain ⟨A, c, hkv, hkc1, hkc2⟩ := ho.k.form
  obtain ⟨Dv, dc, hdv, hdc⟩ := ho.d.form
  simp only at hkv hdv hkl hdl hdc hk
  subst hkv hdv
  subst hk
  have HO := Lib.hid ho
  have HB := Lib.hid hB
  have HT := Lib.hid hT
  have HLL := Lib.hid hll
  have hob := OBlk.new' w 33 [.int .i64 1, .int .i64 on, .int .i64 n, .int .u8 (byte.toNat : Int), .slice Dv data.length dc, .slice A ks.length c, .int .i64 torn, .int .i64 at_]
  have hbA : Below w.heap.size w (w.alloc (.cells #[.int .i64 1, .int .i64 on, .int .i64 n, .int .u8 (byte.toNat : Int), .slice Dv data.length dc, .slice A ks.length c, .int .i64 torn, .int .i64 at_] 33)) := (Below.refl _ _).alloc (Nat.le_refl _) _
  have hzA : w.heap.size < (w.alloc (.cells #[.int .i64 1, .int .i64 on, .int .i64 n, .int .u8 (byte.toNat : Int), .slice Dv data.length dc, .slice A ks.length c, .int .i64 torn, .int .i64 at_] 33)).heap.size := by simp
  have hP := h.below hbA
  have hWs := hB.size
  have hcl := h.came
  have HH := Lib.hid h
  clear h ho hB hT hcl hll
  unfold opV pairV
  go_enter Try.func27, Try.ntmps27
  go_upto_region 1 with (fail)
  generalize w.alloc (.cells #[.int .i64 1, .int .i64 on, .int .i64 n, .int .u8 (byte.toNat : Int), .slice Dv data.length dc, .slice A ks.length c, .int .i64 torn, .int .i64 at_] 33) = w0 at *
  have hS0 : Step T w T w0 := ⟨Turn.of_below hbA, fun b hb => .inl hb⟩
  have hBw := HB.out.trans (hbA.mono hWs)
  have k0 := hob.cell' (j := 0) rfl
  have c0 := hP.blk.cell' (j := 0) rfl
  by_cases hr : S.ref n = 0
  · obtain ⟨nn, rfl⟩ : ∃ nn : Nat, n = (nn : Int) := by
      unfold PS.ref at hr
      split at hr
      · cases hr
      · split at hr
        · cases hr
        · exact Int.eq_ofNat_of_zero_le (by omega)
    obtain ⟨hdn, hnn⟩ := ref_zero hr
    obtain ⟨l, hl, hll2⟩ := readPg_len HH.out.dev.ok hnn
    have hp2 := HH.out.dev.ok.p2
    have HR := Lib.hid hr
    have HL := Lib.hid hl
    have HL2 := Lib.hid hll2
    clear hr hl hdn hll2
    have k2 := hob.cell' (j := 2) rfl
    go_upto_region 3 with (fail)
    have hPq := hP.drewN 1
    have hrd := Read_ok (w0.drewN 1) D r S nn l hPq.dev HR.out hnn HL.out
    have hno : ¬ T w.heap.size := fun e => by have := HH.out.lt _ e; omega
    unfold plPtr at hrd
    go_region_held3 (fun w' => w'.cell? ⟨xb, 0, none⟩ = some (plPtr r) ∧ w'.cell? ⟨w.heap.size, 2, none⟩ = some (.int .i64 (nn : Int)))
      (first | exact ⟨c0, k2⟩ | exact ⟨hx1, hx2⟩)
      (first
        | (go_at_call 31; refine hrd.mono ?_; rintro e w1 ⟨g1, rfl, ho1, hD1, hT1, hof1⟩; have hpp := hPq.devStep hD1 rfl (Step.mk0 hT1); have hx1 := hpp.1.blk.cell' (j := 0) rfl; have hob1 := (hob.drewN 1).turn hpp.2.turn hno; have hx2 := hob1.cell' (j := 2) rfl)
        | fail)
    obtain ⟨hPA, hSA⟩ := hpp
    have hS01 : Step T w _ w1 := (⟨hS0.turn.drewN 1, hS0.grow⟩ : Step T w T (w0.drewN 1)).trans hSA
    have hlw : ∀ b, T b → b < w.heap.size := HH.out.lt
    have HLW := Lib.hid hlw
    have hg1 : w0.heap.size ≤ g1 := (Own.lt ho1 g1 rfl).1
    have hg1l : g1 < w1.heap.size := (Own.lt ho1 g1 rfl).2
    have hno1 : ¬ (T w.heap.size ∨ D w.heap.size) := fun e => e.elim hno (fun e => hno (HH.out.tD _ e))
    clear hrd k2 c0 k0 hx1 hx2 hlw
    have k2 := hob1.cell' (j := 2) rfl
    have c1 := hPA.blk.cell' (j := 1) rfl
    have hPB := hPA.drewN 1
    have hrr := RRead_ok (w1.drewN 1) R q S nn hPB.ref HR.out
    unfold rfPtr at hrr
    go_upto_region 4 with (fail)
    go_region_held3 (fun w' => w'.cell? ⟨xb, 1, none⟩ = some (rfPtr q) ∧ w'.cell? ⟨w.heap.size, 2, none⟩ = some (.int .i64 (nn : Int)))
      (first | exact ⟨c1, k2⟩ | exact ⟨hx1, hx2⟩)
      (first
        | (go_at_call 43; refine hrr.mono ?_; rintro e w2 ⟨v2, l2, rfl, hl2, ho2, hR2, hT2⟩; have hpp := hPB.refStep hR2 rfl (Step.mk0 hT2); have hx1 := hpp.1.blk.cell' (j := 1) rfl; have hob2 := (hob1.drewN 1).turn hpp.2.turn hno1; have hx2 := hob2.cell' (j := 2) rfl; obtain ⟨B2, d2, hv2⟩ := Own.slice ho2; subst hv2)
        | fail)
    obtain rfl : l2 = l := by
      have h1 := HL.out
      have h2 : readPg S.wild S.pg nn = some l2 := hl2
      rw [h2] at h1
      exact Option.some.inj h1
    obtain ⟨hPC, hSC⟩ := hpp
    have hS02 : Step T w _ w2 := (⟨hS01.turn.drewN 1, hS01.grow⟩ : Step T w _ (w1.drewN 1)).trans hSC
    have hnotR : ∀ b, R b → b < w.heap.size := fun b hb => HLW.out b (HH.out.tR b hb)
    have hnotD : ∀ b, D b → b < w.heap.size := fun b hb => HLW.out b (HH.out.tD b hb)
    have ho1' : OwB w2 0 (.slice (some ⟨g1, 0, none⟩) S.page S.page) l2 := Own.low (OwB.turn (show OwB (w1.drewN 1) (w0.drewN 1).heap.size _ _ from ho1) hT2 (fun g hg hr => by have hgg : g1 = g := Option.some.inj hg; have := hnotR _ hr; omega)) (Nat.zero_le _)
    have hat : ∀ g, (Value.slice (some ⟨g1, 0, none⟩) S.page S.page).ownBlock = some g → ¬ ((T g ∨ D g) ∨ R g) := fun g hg e => by
      have hgg : g1 = g := Option.some.inj hg
      rcases e with (e | e) | e
      · have := HLW.out _ e; omega
      · have := hnotD _ e; omega
      · have := hnotR _ e; omega
    have hto := told_any w2 _ xb r q S.red S.red D R cv cs wv ls _ _ l2 hPC (by omega) ho1' (Own.low ho2 (Nat.zero_le _)) hat (by rw [HL2.out]; omega)
    unfold pairV at hto
    have hll4 := told_ls HLL.out (l := l2) (by rw [HL2.out]; omega)
    have HL4 := Lib.hid hll4
    clear hrr hl2 ho2 hR2 hT2 hPB hPA hSA hS01 hob1 hob2 k2 c1 hx1 hx2 hll4
    go_wp2_with (first
      | (go_at_call 44; refine hto.mono ?_; rintro e w3 ⟨rfl, T3, cv3, wv3, hPD, hT3, hG3⟩)
      | fail)
    go_ret
    refine ⟨rfl, T3, ⟨r, q, S.red, D, R, cv3, _, wv3, _, hPD, by rw [List.length_append, List.length_singleton]; omega, (show S.wild.length ≤ N + 1 by omega), HL4.out⟩, hS02.told hT3 hG3 (fun g hg => by have hgg : g1 = g := Option.some.inj hg; omega)⟩
  · have HR := Lib.hid hr
    clear hr
    have k2 := hob.cell' (j := 2) rfl
    go_upto_region 3 with (fail)
    have hPq := hP.drewN 1
    have hrd := Read_bad (w0.drewN 1) D r S n hPq.dev HR.out
    unfold plPtr at hrd
    have HH0 := HH.out.lt
    have HLW := Lib.hid HH0
    clear HH0
    go_region_held3 (fun w' => w'.cell? ⟨xb, 0, none⟩ = some (plPtr r) ∧ w'.cell? ⟨w.heap.size, 2, none⟩ = some (.int .i64 n))
      (first | exact ⟨c0, k2⟩ | exact ⟨hx1, hx2⟩)
      (first
        | (go_at_call 31; refine hrd.mono ?_; rintro e w1 ⟨rfl, hD1, hb1⟩; have hPA := hPq.below hb1; have hx1 := hPA.blk.cell' (j := 0) rfl; have hob1 := (hob.drewN 1).below hb1 (hob.drewN 1).lt; have hx2 := hob1.cell' (j := 2) rfl)
        | fail)
    have hS01 : Step T w T w1 := ⟨(hS0.turn.drewN 1).new (hb1.mono hS0.turn.size), fun b hb => .inl hb⟩
    clear hrd k2 c0 k0 hx1 hx2
    have k2 := hob1.cell' (j := 2) rfl
    have c1 := hPA.blk.cell' (j := 1) rfl
    have hPB := hPA.drewN 1
    have hrr := RRead_bad (w1.drewN 1) R q S n hPB.ref HR.out
    unfold rfPtr at hrr
    go_upto_region 4 with (fail)
    go_region_held3 (fun w' => w'.cell? ⟨xb, 1, none⟩ = some (rfPtr q) ∧ w'.cell? ⟨w.heap.size, 2, none⟩ = some (.int .i64 n))
      (first | exact ⟨c1, k2⟩)
      (first
        | (go_at_call 43; refine hrr.mono ?_; rintro e w2 ⟨rfl, rfl⟩)
        | fail)
    have hS02 : Step T w T (w1.drewN 1) := ⟨hS01.turn.drewN 1, hS01.grow⟩
    have hto := told_any (w1.drewN 1) T xb r q S S D R cv cs wv ls _ _ [] hPB (by omega) (OwB.nil _ _) (OwB.nil _ _) (fun g hg => by cases hg) (by simp)
    unfold pairV at hto
    have hll4 := told_ls HLL.out (l := []) (by simp)
    have HL4 := Lib.hid hll4
    clear hrr hPA hS01 hob1 k2 c1 hll4
    generalize S.ref n = z at *
    go_wp2_with (first
      | (go_at_call 44; refine hto.mono ?_; rintro e w3 ⟨rfl, T3, cv3, wv3, hPD, hT3, hG3⟩)
      | fail)
    go_ret
    refine ⟨rfl, T3, ⟨r, q, S, D, R, cv3, _, wv3, _, hPD, by rw [List.length_append, List.length_singleton]; omega, by omega, HL4.out⟩, hS02.told hT3 hG3 (fun g hg => by cases hg)⟩
end Go.Proofs.Ytipjngoenklioaa

-- espalierlaw03.pair.play: walks, by the kind of the step (image).
namespace Go.Proofs.Ytipjngoenklioaa
open Go.RowKit
set_option maxRecDepth 100000 in
set_option maxHeartbeats 8000000 in
theorem play_image (b0 : Prop) (W w : World) (T : Nat → Prop) (xb N : Nat) (o : OpV) (hk : o.kind = 7) (h : Pair b0 w T xb N) (hN : N ≤ 10000000) (ho : o.ok W) (hB : Below W.heap.size W w) (hT : ∀ b, T b → W.heap.size ≤ b) (hkl : o.keep.length ≤ 10000000) (hdl : o.data.length ≤ 10000000) :
    Calls Try.prog 27 #[pairV xb, opV o] w (PlayAt b0 w T xb N) := by
  obtain ⟨r, q, S, D, R, cv, cs, wv, ls, h, hcn, hwn, hll⟩ := h
  have HWF := Lib.hid ho
  obtain ⟨kind, on, n, byte, dv, data, kv, ks, torn, at_⟩ := o
  obtain ⟨A, c, hkv, hkc1, hkc2⟩ := ho.k.form
  obtain ⟨Dv, dc, hdv, hdc⟩ := ho.d.form
  simp only at hkv hdv hkl hdl hdc hk
  subst hkv hdv
  subst hk
  have HO := Lib.hid ho
  have HB := Lib.hid hB
  have HT := Lib.hid hT
  have HLL := Lib.hid hll
  have hob := OBlk.new' w 33 [.int .i64 7, .int .i64 on, .int .i64 n, .int .u8 (byte.toNat : Int), .slice Dv data.length dc, .slice A ks.length c, .int .i64 torn, .int .i64 at_]
  have hbA : Below w.heap.size w (w.alloc (.cells #[.int .i64 7, .int .i64 on, .int .i64 n, .int .u8 (byte.toNat : Int), .slice Dv data.length dc, .slice A ks.length c, .int .i64 torn, .int .i64 at_] 33)) := (Below.refl _ _).alloc (Nat.le_refl _) _
  have hzA : w.heap.size < (w.alloc (.cells #[.int .i64 7, .int .i64 on, .int .i64 n, .int .u8 (byte.toNat : Int), .slice Dv data.length dc, .slice A ks.length c, .int .i64 torn, .int .i64 at_] 33)).heap.size := by simp
  have hP := h.below hbA
  have hWs := hB.size
  have hcl := h.came
  have HH := Lib.hid h
  clear h ho hB hT hcl hll
  unfold opV pairV
  go_enter Try.func27, Try.ntmps27
  go_upto_region 1 with (fail)
  generalize w.alloc (.cells #[.int .i64 7, .int .i64 on, .int .i64 n, .int .u8 (byte.toNat : Int), .slice Dv data.length dc, .slice A ks.length c, .int .i64 torn, .int .i64 at_] 33) = w0 at *
  have hS0 : Step T w T w0 := ⟨Turn.of_below hbA, fun b hb => .inl hb⟩
  have hBw := HB.out.trans (hbA.mono hWs)
  have k0 := hob.cell' (j := 0) rfl
  have c0 := hP.blk.cell' (j := 0) rfl
  have him := Image_any w0 D r S hP.dev
  have hfl := sync_flat HH.out.dev.ok
  have hfl2 : S.pg.flatten.length = S.sz := by rw [flat_len HH.out.dev.ok.pe, HH.out.dev.ok.pl, HH.out.dev.ok.sn]
  have hsz := HH.out.dev.ok.pn
  unfold plPtr at him
  obtain ⟨im, hime⟩ : ∃ im, im = (syncPg S.wild S.pg).flatten := ⟨_, rfl⟩
  obtain ⟨sf, hsfe⟩ : ∃ sf, sf = S.pg.flatten := ⟨_, rfl⟩
  rw [← hime] at him hfl
  rw [← hsfe] at hfl2
  have HFL := Lib.hid hfl
  have HFL2 := Lib.hid hfl2
  have HIM := Lib.hid hime
  have HSF := Lib.hid hsfe
  clear hob hfl hfl2 hime hsfe
  go_upto_region 28 with (first
    | (go_at_call 16; refine him.mono ?_; rintro e w1 ⟨v1, rfl, ho1, hb1⟩)
    | fail)
  have hP1 := hP.below hb1
  have hS1 : Step T w T w1 := ⟨hS0.turn.new (hb1.mono hS0.turn.size), fun b hb => .inl hb⟩
  have c0' := hP1.blk.cell' (j := 0) rfl
  have hsf := Safe_any w1 D r S hP1.dev
  unfold plPtr at hsf
  rw [← HSF.out] at hsf
  clear him c0 k0 hP hS0
  go_upto_region 29 with (first
    | (go_at_call 12; refine hsf.mono ?_; rintro e w2 ⟨v2, rfl, ho2, hb2⟩)
    | fail)
  have hP2 := hP1.below hb2
  have hS2 : Step T w T w2 := ⟨hS1.turn.new (hb2.mono hS1.turn.size), fun b hb => .inl hb⟩
  have c1 := hP2.blk.cell' (j := 1) rfl
  have hri := RImage_any w2 R q S hP2.ref
  unfold rfPtr at hri
  rw [← HIM.out] at hri
  have ho1' := ho1.below2 hb2
  have hz0 := hbA.size
  have hz1 := hb1.size
  have hz2 := hb2.size
  have hlw : ∀ b, T b → b < w.heap.size := HH.out.lt
  have HLW := Lib.hid hlw
  clear hlw hsf c0' hP1 hS1
  obtain ⟨A1, d1, hv1⟩ := Own.slice ho1'
  obtain ⟨A2, d2, hv2⟩ := Own.slice ho2
  subst hv1 hv2
  have hto := fun w3 v3 (hb3 : Below w2.heap.size w2 w3) (ho3 : OwB w3 w2.heap.size v3 im) => told_any w3 T xb r q S S D R cv cs wv ls _ v3 _ (hP2.below hb3) (by omega) (Own.low (ho1'.below2 hb3) (Nat.zero_le _)) (Own.low ho3 (Nat.zero_le _)) (fun g hg e => by have h1 := (Own.lt ho1' g hg).1; have h2 := HLW.out g e; omega) (by rw [HFL.out]; omega)
  unfold pairV at hto
  have HTO := Lib.hid hto
  clear hto
  go_upto_region 30 with (first
    | (go_at_call 49; refine hri.mono ?_; rintro e w3 ⟨v3, rfl, ho3, hb3⟩)
    | (go_at_call 44; refine (HTO.out _ _ hb3 ho3).mono ?_; rintro e w4 ⟨rfl, T4, cv4, wv4, hP4, hT4, hG4⟩)
    | fail)
  have hz3 := hb3.size
  have hS3 : Step T w T w3 := ⟨hS2.turn.new (hb3.mono hS2.turn.size), fun b hb => .inl hb⟩
  have hS4 := hS3.told hT4 hG4 (fun g hg => by have h1 := (Own.lt ho1' g hg).1; omega)
  have ho2' := (ho2.below2 hb3).turn hT4 (fun g hg e => by have h1 := (Own.lt ho2 g hg).1; have h2 := HLW.out g e; omega)
  have c1 := hP4.blk.cell' (j := 1) rfl
  have hrs := RSafe_any w4 R q S hP4.ref
  unfold rfPtr at hrs
  rw [← HSF.out] at hrs
  have hz4 := hT4.size
  have hna : ∀ g, (Value.slice A2 sf.length d2).ownBlock = some g → ¬ T4 g := fun g hg e => by
    have h1 := Own.lt ho2 g hg
    have h5 := h1.1
    have h6 := h1.2
    rcases hG4 g e with h | h | h
    · have h2 := HLW.out g h; omega
    · have h2 := (Own.lt ho1' g h).2; have h7 := (Own.lt ho1 g h).2; omega
    · omega
  have hto := fun w5 v5 (hb5 : Below w4.heap.size w4 w5) (ho5 : OwB w5 w4.heap.size v5 sf) => told_any w5 T4 xb r q S S D R cv4 _ wv4 _ _ v5 _ (hP4.below hb5) (by rw [List.length_append, List.length_singleton]; omega) (Own.low (ho2'.below2 hb5) (Nat.zero_le _)) (Own.low ho5 (Nat.zero_le _)) hna (by rw [HFL2.out]; omega)
  unfold pairV at hto
  have HTP := Lib.hid hto
  clear hto hri hP2 hS2 ho3 hS3
  have hz14 := hS4.turn.size
  go_wp2_with (first
    | (go_at_call 50; refine hrs.mono ?_; rintro e w5 ⟨v5, rfl, ho5, hb5⟩)
    | (go_at_call 44; refine (HTP.out _ _ hb5 ho5).mono ?_; rintro e w6 ⟨rfl, T6, cv6, wv6, hP6, hT6, hG6⟩)
    | fail)
  have hS5 : Step T w T4 w5 := ⟨hS4.turn.new (hb5.mono hS4.turn.size), hS4.grow⟩
  have hS6 := hS5.told hT6 hG6 (fun g hg => by have h1 := (Own.lt ho2 g hg).1; omega)
  have hll4 := told_ls (told_ls HLL.out (l := im) (by rw [HFL.out]; omega)) (l := sf) (by rw [HFL2.out]; omega)
  go_ret
  exact ⟨rfl, T6, ⟨r, q, S, D, R, cv6, _, wv6, _, hP6, by simp only [List.length_append, List.length_singleton]; omega, by omega, hll4⟩, hS6⟩
end Go.Proofs.Ytipjngoenklioaa

-- espalierlaw03.pair.play: walks, by the kind of the step (write).
namespace Go.Proofs.Ytipjngoenklioaa
open Go.RowKit
theorem ref_nat {S : PS} {n : Int} (hr : S.ref n = 0) : ∃ nn : Nat, n = (nn : Int) := by
  unfold PS.ref at hr
  split at hr
  · cases hr
  · split at hr
    · cases hr
    · exact Int.eq_ofNat_of_zero_le (by omega)
theorem write_no {S : PS} {n : Int} {l : List UInt8} (h : ¬ (S.ref n = 0 ∧ l.length = S.page)) : ∃ z : Int,
    (∀ (w : World) (D : Nat → Prop) (r : Raw) (v : Value), PlRaw w D r S → RdB w v l → Calls Try.prog 9 #[plPtr r, .int .i64 n, v] w fun e w' => e = .returned (.int .i64 z) ∧ Below w.heap.size w w') ∧
    (∀ (w : World) (R : Nat → Prop) (q : RRaw) (v : Value), RfAt w R q S → RdB w v l → Calls Try.prog 45 #[rfPtr q, .int .i64 n, v] w fun e w' => e = .returned (.int .i64 z) ∧ w = w') := by
  by_cases hr : S.ref n = 0
  · have hl : l.length ≠ S.page := fun e => h ⟨hr, e⟩
    obtain ⟨nn, rfl⟩ := ref_nat hr
    exact ⟨31, fun w D r v hd hv => Write_size w D r S _ v l hd hr hv hl, fun w R q v hq hv => RWrite_size w R q S nn v l hq hr hv hl⟩
  · exact ⟨S.ref n, fun w D r v hd hv => Write_ref w D r S n v hd hr, fun w R q v hq hv => RWrite_bad w R q S n v hq hr⟩
set_option maxRecDepth 100000 in
set_option maxHeartbeats 8000000 in
theorem play_write (b0 : Prop) (W w : World) (T : Nat → Prop) (xb N : Nat) (o : OpV) (hk : o.kind = 2) (h : Pair b0 w T xb N) (hN : N ≤ 10000000) (ho : o.ok W) (hB : Below W.heap.size W w) (hT : ∀ b, T b → W.heap.size ≤ b) (hkl : o.keep.length ≤ 10000000) (hdl : o.data.length ≤ 10000000) :
    Calls Try.prog 27 #[pairV xb, opV o] w (PlayAt b0 w T xb N) := by
  obtain ⟨r, q, S, D, R, cv, cs, wv, ls, h, hcn, hwn, hll⟩ := h
  have HWF := Lib.hid ho
  obtain ⟨kind, on, n, byte, dv, data, kv, ks, torn, at_⟩ := o
  obtain ⟨A, c, hkv, hkc1, hkc2⟩ := ho.k.form
  obtain ⟨Dv, dc, hdv, hdc⟩ := ho.d.form
  simp only at hkv hdv hkl hdl hdc hk
  subst hkv hdv
  subst hk
  have HO := Lib.hid ho
  have HB := Lib.hid hB
  have HT := Lib.hid hT
  have HLL := Lib.hid hll
  have hob := OBlk.new' w 33 [.int .i64 2, .int .i64 on, .int .i64 n, .int .u8 (byte.toNat : Int), .slice Dv data.length dc, .slice A ks.length c, .int .i64 torn, .int .i64 at_]
  have hbA : Below w.heap.size w (w.alloc (.cells #[.int .i64 2, .int .i64 on, .int .i64 n, .int .u8 (byte.toNat : Int), .slice Dv data.length dc, .slice A ks.length c, .int .i64 torn, .int .i64 at_] 33)) := (Below.refl _ _).alloc (Nat.le_refl _) _
  have hzA : w.heap.size < (w.alloc (.cells #[.int .i64 2, .int .i64 on, .int .i64 n, .int .u8 (byte.toNat : Int), .slice Dv data.length dc, .slice A ks.length c, .int .i64 torn, .int .i64 at_] 33)).heap.size := by simp
  have hP := h.below hbA
  have hWs := hB.size
  have hcl := h.came
  have HH := Lib.hid h
  clear h ho hB hT hcl hll
  unfold opV pairV
  go_enter Try.func27, Try.ntmps27
  go_upto_region 1 with (fail)
  generalize w.alloc (.cells #[.int .i64 2, .int .i64 on, .int .i64 n, .int .u8 (byte.toNat : Int), .slice Dv data.length dc, .slice A ks.length c, .int .i64 torn, .int .i64 at_] 33) = w0 at *
  have hS0 : Step T w T w0 := ⟨Turn.of_below hbA, fun b hb => .inl hb⟩
  have hBw := HB.out.trans (hbA.mono hWs)
  have k0 := hob.cell' (j := 0) rfl
  have c0 := hP.blk.cell' (j := 0) rfl
  have k3 := hob.cell' (j := 3) rfl
  have k4 := hob.cell' (j := 4) rfl
  have hzw : w.heap.size < w0.heap.size := hzA
  by_cases hd0 : data.length = 0
  · have hb0 : ((data.length : Int) == 0) = true := by simp [hd0]
    clear hd0
    go_upto_region 10 with (fail)
    have c1 := hP.blk.cell' (j := 1) rfl
    have hpg := fun W (hW : Below w0.heap.size w0 W) => RPage_any W R q S (hP.below hW).ref
    unfold rfPtr at hpg
    have HPG := Lib.hid hpg
    have hp2 := HH.out.dev.ok.p2
    clear hpg
    go_region_held3 (fun w' => w'.cell? ⟨xb, 1, none⟩ = some (rfPtr q) ∧ w'.cell? ⟨w.heap.size, 3, none⟩ = some (.int .u8 (byte.toNat : Int)))
      (first | exact ⟨c1, k3⟩ | exact ⟨hx1, hx2⟩)
      (first
        | (go_at_call 29; refine (HPG.out _ ((Below.refl _ _).drew)).mono ?_; rintro e w1 ⟨rfl, rfl⟩)
        | (go_at_call 10; refine (page_any S.page byte hp2 _).mono ?_; rintro e w1 ⟨g1, rfl, ho1, hb1⟩; have hb1' : Below w0.heap.size w0 w1 := ((Below.refl _ _).drew).trans hb1; have hx1 := (hP.below hb1').blk.cell' (j := 1) rfl; have hx2 := (hob.below hb1' hob.lt).cell' (j := 3) rfl)
        | fail)
    have hPm := hP.below hb1'
    have hobm := hob.below hb1' hob.lt
    have hSm : Step T w T w1 := ⟨hS0.turn.new (hb1'.mono hS0.turn.size), fun b hb => .inl hb⟩
    have hrb := OwB.rd ho1
    have HML : Hid ((List.replicate S.page byte).length = S.page) := Lib.hid (by simp)
    have hml : S.page ≤ 65536 := hp2
    have hgo := Own.lt ho1 g1 rfl
    have hoff : ∀ A' n' c', Value.slice (some ⟨g1, 0, none⟩) S.page S.page = .slice (some A') n' c' → ¬ T A'.block ∧ A'.block < w1.heap.size := fun A' n' c' e => by
      injection e with e
      injection e with e
      subst e
      exact ⟨fun e => by have := HH.out.lt _ e; have h3 : w0.heap.size ≤ g1 := hgo.1; simp only at this; omega, hgo.2⟩
    have HOF := Lib.hid hoff
    have hzm : w.heap.size < w1.heap.size := by have := hb1'.size; omega
    clear hoff hgo ho1 hb1 hb1' c1 c0 k0 k3 k4 hP hob hS0 hx1 hx2 hbA hBw hzA hzw
    generalize (some ⟨g1, 0, none⟩ : Option Addr) = Bv at *
    generalize List.replicate S.page byte = bl at *
    have hln := Lent_any _ bl w1 hrb (by rw [HML.out]; omega)
    rw [HML.out] at hln
    go_upto_region 12 with (first
      | (go_at_call 21; refine hln.mono ?_; rintro e w2 ⟨g2, rfl, ho2, hb2⟩)
      | fail)
    have hr2 : RdB w2 (.slice (some ⟨g2, 0, none⟩) S.page (S.page + 9)) bl := lent_rd ho2 HML.out
    have hg2 := Own.lt ho2 g2 rfl
    have hg2a := hg2.1
    have hg2b := hg2.2
    have hrb2 := hrb.below hb2 (Nat.le_refl _)
    have hP2 := hPm.below hb2
    have hob2 := hobm.below hb2 hobm.lt
    have hz2 := hb2.size
    have hS2 : Step T w T w2 := ⟨hSm.turn.new (hb2.mono hSm.turn.size), fun b hb => .inl hb⟩
    have hlm : ∀ b, T b → b < w1.heap.size := hPm.lt
    have hno : ¬ T w.heap.size := fun e => by have := HH.out.lt _ e; omega
    have HLM := Lib.hid hlm
    clear hln hlm
    have c0 := hP2.blk.cell' (j := 0) rfl
    have k2 := hob2.cell' (j := 2) rfl
    by_cases hok : S.ref n = 0 ∧ bl.length = S.page
    · obtain ⟨hr, hl⟩ := hok
      obtain ⟨nn, rfl⟩ := ref_nat hr
      have hnn := (ref_zero hr).2
      have hoD : OffA D (.slice (some ⟨g2, 0, none⟩) S.page (S.page + 9)) := fun A' n' c' e hd => by
        injection e with e
        injection e with e
        have := HLM.out _ (HH.out.tD _ hd)
        rw [← e] at this
        simp only at this
        omega
      have hwr := fun nq => Write_ok (w2.drewN nq) D r S nn _ bl (hP2.drewN nq).dev hr hnn (show RdB (w2.drewN nq) _ _ from hr2) hoD hl (by omega)
      unfold plPtr at hwr
      have HR := Lib.hid hr
      have HL := Lib.hid hl
      have HWR := Lib.hid hwr
      clear hr hl hwr hnn
      refine wp_region_dtail 7 (by kernel_rfl) (by kernel_rfl) ?_
      simp only [List.take_succ_cons, List.take_zero, List.drop_succ_cons, List.drop_zero]
      repeat (quiet_step (fail))
      refine wpQuiet_nil ?_
      rintro _ ⟨nq, rfl⟩
      go_upto_region 13 with (first
        | (go_at_call 9; refine (HWR.out nq).mono ?_; rintro e w3 ⟨rfl, r3, D3, e3, _, hD3, hS3⟩)
        | fail)
      obtain ⟨hPA, hSA⟩ := (hP2.drewN nq).devStep hD3 e3 hS3
      have hS02 : Step T w _ w3 := (⟨hS2.turn.drewN nq, hS2.grow⟩ : Step T w T (w2.drewN nq)).trans hSA
      have hob3 := (hob2.drewN nq).turn hSA.turn hno
      have hoT : OffA T (.slice Bv S.page S.page) := fun A' n' c' e hd => (HOF.out A' n' c' e).1 hd
      have hrb3 : RdB w3 (.slice Bv S.page S.page) bl := RdB.turn (show RdB (w2.drewN nq) _ _ from hrb2) hSA.turn hoT
      have hT2g : ¬ T g2 := fun e => by have := HLM.out _ e; omega
      have ho3 : OwB w3 w1.heap.size (.slice (some ⟨g2, 0, none⟩) (S.page + 9) (S.page + 9)) (bl ++ marks9) := OwB.turn (show OwB (w2.drewN nq) _ _ _ from ho2) hSA.turn (fun g hg => by have hgg : g2 = g := Option.some.inj hg; exact hgg ▸ hT2g)
      have hno3 : ¬ (T w.heap.size ∨ D3 w.heap.size) := hSA.off hno (by show w.heap.size < w2.heap.size; omega)
      have hg3 : ¬ (T g2 ∨ D3 g2) := hSA.off hT2g hg2b
      have hz3 : w2.heap.size ≤ w3.heap.size := hSA.turn.size
      clear c0 k2 hP2 hob2 ho2 hr2 hrb2 hS2 hD3 hS3 hSA
      have hal := AsLent_any g2 S.page _ bl w1.heap.size w3 HML.out ho3 hrb3 (by omega)
      go_upto_region 14 with (first
        | (go_at_call 23; refine hal.mono ?_; rintro e w4 ⟨rfl, hg4⟩)
        | fail)
      have hT4 : Turn (fun b => b = g2) w3 w4 := Turn.of_grown hg4 (fun k e => (Option.some.inj e).symm)
      have hP4 := hPA.turn hT4 (fun b hb e => hg3 (e ▸ hb))
      have hob4 := hob3.turn hT4 (fun e => by have e' : w.heap.size = g2 := e; omega)
      have hrb4 : RdB w4 (.slice Bv S.page S.page) bl := hrb3.turn hT4 (fun A' n' c' e hd => by have := (HOF.out A' n' c' e).2; have h2 : A'.block = g2 := hd; omega)
      have hS4 : Step T w _ w4 := ⟨hS02.turn.trans hT4 (fun b e => by have e' : b = g2 := e; right; omega), hS02.grow⟩
      clear hPA hob3 ho3 hrb3 hS02 hal hg4 hT4
      have c1 := hP4.blk.cell' (j := 1) rfl
      have k2 := hob4.cell' (j := 2) rfl
      have hrr := fun nq => RWrite_ok (w4.drewN nq) R q S nn _ bl (hP4.drewN nq).ref HR.out (show RdB (w4.drewN nq) _ _ from hrb4) (fun A' n' c' e hd => hoT A' n' c' e (HH.out.tR _ hd)) HL.out (by omega)
      unfold rfPtr at hrr
      have HRR := Lib.hid hrr
      clear hrr
      refine wp_region_dtail 7 (by kernel_rfl) (by kernel_rfl) ?_
      simp only [List.take_succ_cons, List.take_zero, List.drop_succ_cons, List.drop_zero]
      repeat (quiet_step (fail))
      refine wpQuiet_nil ?_
      rintro _ ⟨nq2, rfl⟩
      go_upto_region 15 with (first
        | (go_at_call 45; refine (HRR.out nq2).mono ?_; rintro e w5 ⟨rfl, q5, R5, e5, hR5, hS5⟩)
        | fail)
      obtain ⟨hPC, hSC⟩ := (hP4.drewN nq2).refStep hR5 e5 hS5
      have hS05 : Step T w _ w5 := (⟨hS4.turn.drewN nq2, hS4.grow⟩ : Step T w _ (w4.drewN nq2)).trans hSC
      have hww := write_wild S nn bl
      clear c1 k2 hP4 hob4 hrb4 hS4 hR5 hS5 hSC
      generalize WriteE S = z at *
      go_wp2_with fail
      go_ret
      exact ⟨rfl, _, ⟨r3, q5, S.write nn bl, D3, R5, cv, cs, wv, ls, hPC, by omega, by omega, HLL.out⟩, hS05⟩
    · obtain ⟨z, hz1, hz2⟩ := write_no hok
      have hwr := fun nq => hz1 (w2.drewN nq) D r _ (hP2.drewN nq).dev (show RdB (w2.drewN nq) _ _ from hr2)
      unfold plPtr at hwr
      have HWR := Lib.hid hwr
      have HZ2 := Lib.hid hz2
      clear hz1 hz2 hok hwr
      refine wp_region_dtail 7 (by kernel_rfl) (by kernel_rfl) ?_
      simp only [List.take_succ_cons, List.take_zero, List.drop_succ_cons, List.drop_zero]
      repeat (quiet_step (fail))
      refine wpQuiet_nil ?_
      rintro _ ⟨nq, rfl⟩
      go_upto_region 13 with (first
        | (go_at_call 9; refine (HWR.out nq).mono ?_; rintro e w3 ⟨rfl, hb3⟩)
        | fail)
      have hb3' : Below w2.heap.size w2 w3 := (below_drewN (Below.refl _ _) nq).trans hb3
      have hP3 := hP2.below hb3'
      have hob3 := hob2.below hb3' hob2.lt
      have hrb3 := hrb2.below hb3' (Nat.le_refl _)
      have ho3 := ho2.below2 hb3'
      have hS3 : Step T w T w3 := ⟨hS2.turn.new (hb3'.mono hS2.turn.size), fun b hb => .inl hb⟩
      have hz3 := hb3'.size
      clear c0 k2 hP2 hob2 ho2 hr2 hrb2 hS2 hb3 hb3'
      have hal := AsLent_any g2 S.page _ bl w1.heap.size w3 HML.out ho3 hrb3 (by omega)
      go_upto_region 14 with (first
        | (go_at_call 23; refine hal.mono ?_; rintro e w4 ⟨rfl, hg4⟩)
        | fail)
      have hT4 : Turn (fun b => b = g2) w3 w4 := Turn.of_grown hg4 (fun k e => (Option.some.inj e).symm)
      have hP4 := hP3.turn hT4 (fun b hb e => by have e' : b = g2 := e; have := HLM.out _ hb; omega)
      have hob4 := hob3.turn hT4 (fun e => by have e' : w.heap.size = g2 := e; omega)
      have hrb4 : RdB w4 (.slice Bv S.page S.page) bl := hrb3.turn hT4 (fun A' n' c' e hd => by have := (HOF.out A' n' c' e).2; have h2 : A'.block = g2 := hd; omega)
      have hS4 : Step T w T w4 := ⟨hS3.turn.trans hT4 (fun b e => by have e' : b = g2 := e; right; omega), hS3.grow⟩
      clear hP3 hob3 ho3 hrb3 hS3 hal hg4 hT4
      have c1 := hP4.blk.cell' (j := 1) rfl
      have k2 := hob4.cell' (j := 2) rfl
      have hrr := fun nq => HZ2.out (w4.drewN nq) R q _ (hP4.drewN nq).ref (show RdB (w4.drewN nq) _ _ from hrb4)
      unfold rfPtr at hrr
      have HRR := Lib.hid hrr
      clear hrr
      refine wp_region_dtail 7 (by kernel_rfl) (by kernel_rfl) ?_
      simp only [List.take_succ_cons, List.take_zero, List.drop_succ_cons, List.drop_zero]
      repeat (quiet_step (fail))
      refine wpQuiet_nil ?_
      rintro _ ⟨nq2, rfl⟩
      go_upto_region 15 with (first
        | (go_at_call 45; refine (HRR.out nq2).mono ?_; rintro e w5 ⟨rfl, rfl⟩)
        | fail)
      have hPC := hP4.drewN nq2
      have hS05 : Step T w T (w4.drewN nq2) := ⟨hS4.turn.drewN nq2, hS4.grow⟩
      clear c1 k2 hP4 hob4 hrb4 hS4
      go_wp2_with fail
      go_ret
      exact ⟨rfl, T, ⟨r, q, S, D, R, cv, cs, wv, ls, hPC, by omega, by omega, HLL.out⟩, hS05⟩
  · have hb0 : ((data.length : Int) == 0) = false := beq_eq_false_iff_ne.2 (by omega)
    go_upto_region 11 with (fail)
    have hrbW : RdB W (.slice Dv data.length dc) data := HO.out.d
    obtain ⟨ad, hDv, hcl⟩ := hrbW.at_ (j := 0) (by omega)
    subst hDv
    have hbl := World.block_lt_of_cell? W _ hcl
    rw [block_of_add] at hbl
    have hrb := hrbW.below hBw (Nat.le_refl _)
    have hml : data.length ≤ 10000000 := hdl
    have hoff : ∀ A' n' c', Value.slice (some ad) data.length dc = .slice (some A') n' c' → ¬ T A'.block ∧ A'.block < w0.heap.size := fun A' n' c' e => by
      injection e with e
      injection e with e
      subst e
      exact ⟨fun e => by have := HT.out _ e; omega, by omega⟩
    have HOF := Lib.hid hoff
    have hPm := hP
    have hobm := hob
    have hSm := hS0
    have hzm := hzA
    clear hoff hbl hcl hrbW c0 k0 k3 k4 hP hob hS0 hbA hBw hzA hzw hd0
    obtain ⟨m, hml2⟩ : ∃ m, data.length = m := ⟨_, rfl⟩
    rw [hml2]
    rw [hml2] at hrb hml HOF
    have HML := Lib.hid hml2
    clear hml2 hdl hdc
    have hln := Lent_any _ data w0 hrb (by rw [HML.out]; omega)
    rw [HML.out] at hln
    go_upto_region 12 with (first
      | (go_at_call 21; refine hln.mono ?_; rintro e w2 ⟨g2, rfl, ho2, hb2⟩)
      | fail)
    have hr2 : RdB w2 (.slice (some ⟨g2, 0, none⟩) m (m + 9)) data := lent_rd ho2 HML.out
    have hg2 := Own.lt ho2 g2 rfl
    have hg2a := hg2.1
    have hg2b := hg2.2
    have hrb2 := hrb.below hb2 (Nat.le_refl _)
    have hP2 := hPm.below hb2
    have hob2 := hobm.below hb2 hobm.lt
    have hz2 := hb2.size
    have hS2 : Step T w T w2 := ⟨hSm.turn.new (hb2.mono hSm.turn.size), fun b hb => .inl hb⟩
    have hlm : ∀ b, T b → b < w0.heap.size := hPm.lt
    have hno : ¬ T w.heap.size := fun e => by have := HH.out.lt _ e; omega
    have HLM := Lib.hid hlm
    clear hln hlm
    have c0 := hP2.blk.cell' (j := 0) rfl
    have k2 := hob2.cell' (j := 2) rfl
    by_cases hok : S.ref n = 0 ∧ data.length = S.page
    · obtain ⟨hr, hl⟩ := hok
      obtain ⟨nn, rfl⟩ := ref_nat hr
      have hnn := (ref_zero hr).2
      have hoD : OffA D (.slice (some ⟨g2, 0, none⟩) m (m + 9)) := fun A' n' c' e hd => by
        injection e with e
        injection e with e
        have := HLM.out _ (HH.out.tD _ hd)
        rw [← e] at this
        simp only at this
        omega
      have hwr := fun nq => Write_ok (w2.drewN nq) D r S nn _ data (hP2.drewN nq).dev hr hnn (show RdB (w2.drewN nq) _ _ from hr2) hoD hl (by omega)
      unfold plPtr at hwr
      have HR := Lib.hid hr
      have HL := Lib.hid hl
      have HWR := Lib.hid hwr
      clear hr hl hwr hnn
      refine wp_region_dtail 7 (by kernel_rfl) (by kernel_rfl) ?_
      simp only [List.take_succ_cons, List.take_zero, List.drop_succ_cons, List.drop_zero]
      repeat (quiet_step (fail))
      refine wpQuiet_nil ?_
      rintro _ ⟨nq, rfl⟩
      go_upto_region 13 with (first
        | (go_at_call 9; refine (HWR.out nq).mono ?_; rintro e w3 ⟨rfl, r3, D3, e3, _, hD3, hS3⟩)
        | fail)
      obtain ⟨hPA, hSA⟩ := (hP2.drewN nq).devStep hD3 e3 hS3
      have hS02 : Step T w _ w3 := (⟨hS2.turn.drewN nq, hS2.grow⟩ : Step T w T (w2.drewN nq)).trans hSA
      have hob3 := (hob2.drewN nq).turn hSA.turn hno
      have hoT : OffA T (.slice (some ad) m dc) := fun A' n' c' e hd => (HOF.out A' n' c' e).1 hd
      have hrb3 : RdB w3 (.slice (some ad) m dc) data := RdB.turn (show RdB (w2.drewN nq) _ _ from hrb2) hSA.turn hoT
      have hT2g : ¬ T g2 := fun e => by have := HLM.out _ e; omega
      have ho3 : OwB w3 w0.heap.size (.slice (some ⟨g2, 0, none⟩) (m + 9) (m + 9)) (data ++ marks9) := OwB.turn (show OwB (w2.drewN nq) _ _ _ from ho2) hSA.turn (fun g hg => by have hgg : g2 = g := Option.some.inj hg; exact hgg ▸ hT2g)
      have hno3 : ¬ (T w.heap.size ∨ D3 w.heap.size) := hSA.off hno (by show w.heap.size < w2.heap.size; omega)
      have hg3 : ¬ (T g2 ∨ D3 g2) := hSA.off hT2g hg2b
      have hz3 : w2.heap.size ≤ w3.heap.size := hSA.turn.size
      clear c0 k2 hP2 hob2 ho2 hr2 hrb2 hS2 hD3 hS3 hSA
      have hal := AsLent_any g2 m _ data w0.heap.size w3 HML.out ho3 hrb3 (by omega)
      go_upto_region 14 with (first
        | (go_at_call 23; refine hal.mono ?_; rintro e w4 ⟨rfl, hg4⟩)
        | fail)
      have hT4 : Turn (fun b => b = g2) w3 w4 := Turn.of_grown hg4 (fun k e => (Option.some.inj e).symm)
      have hP4 := hPA.turn hT4 (fun b hb e => hg3 (e ▸ hb))
      have hob4 := hob3.turn hT4 (fun e => by have e' : w.heap.size = g2 := e; omega)
      have hrb4 : RdB w4 (.slice (some ad) m dc) data := hrb3.turn hT4 (fun A' n' c' e hd => by have := (HOF.out A' n' c' e).2; have h2 : A'.block = g2 := hd; omega)
      have hS4 : Step T w _ w4 := ⟨hS02.turn.trans hT4 (fun b e => by have e' : b = g2 := e; right; omega), hS02.grow⟩
      clear hPA hob3 ho3 hrb3 hS02 hal hg4 hT4
      have c1 := hP4.blk.cell' (j := 1) rfl
      have k2 := hob4.cell' (j := 2) rfl
      have hrr := fun nq => RWrite_ok (w4.drewN nq) R q S nn _ data (hP4.drewN nq).ref HR.out (show RdB (w4.drewN nq) _ _ from hrb4) (fun A' n' c' e hd => hoT A' n' c' e (HH.out.tR _ hd)) HL.out (by omega)
      unfold rfPtr at hrr
      have HRR := Lib.hid hrr
      clear hrr
      refine wp_region_dtail 7 (by kernel_rfl) (by kernel_rfl) ?_
      simp only [List.take_succ_cons, List.take_zero, List.drop_succ_cons, List.drop_zero]
      repeat (quiet_step (fail))
      refine wpQuiet_nil ?_
      rintro _ ⟨nq2, rfl⟩
      go_upto_region 15 with (first
        | (go_at_call 45; refine (HRR.out nq2).mono ?_; rintro e w5 ⟨rfl, q5, R5, e5, hR5, hS5⟩)
        | fail)
      obtain ⟨hPC, hSC⟩ := (hP4.drewN nq2).refStep hR5 e5 hS5
      have hS05 : Step T w _ w5 := (⟨hS4.turn.drewN nq2, hS4.grow⟩ : Step T w _ (w4.drewN nq2)).trans hSC
      have hww := write_wild S nn data
      clear c1 k2 hP4 hob4 hrb4 hS4 hR5 hS5 hSC
      generalize WriteE S = z at *
      go_wp2_with fail
      go_ret
      exact ⟨rfl, _, ⟨r3, q5, S.write nn data, D3, R5, cv, cs, wv, ls, hPC, by omega, by omega, HLL.out⟩, hS05⟩
    · obtain ⟨z, hz1, hz2⟩ := write_no hok
      have hwr := fun nq => hz1 (w2.drewN nq) D r _ (hP2.drewN nq).dev (show RdB (w2.drewN nq) _ _ from hr2)
      unfold plPtr at hwr
      have HWR := Lib.hid hwr
      have HZ2 := Lib.hid hz2
      clear hz1 hz2 hok hwr
      refine wp_region_dtail 7 (by kernel_rfl) (by kernel_rfl) ?_
      simp only [List.take_succ_cons, List.take_zero, List.drop_succ_cons, List.drop_zero]
      repeat (quiet_step (fail))
      refine wpQuiet_nil ?_
      rintro _ ⟨nq, rfl⟩
      go_upto_region 13 with (first
        | (go_at_call 9; refine (HWR.out nq).mono ?_; rintro e w3 ⟨rfl, hb3⟩)
        | fail)
      have hb3' : Below w2.heap.size w2 w3 := (below_drewN (Below.refl _ _) nq).trans hb3
      have hP3 := hP2.below hb3'
      have hob3 := hob2.below hb3' hob2.lt
      have hrb3 := hrb2.below hb3' (Nat.le_refl _)
      have ho3 := ho2.below2 hb3'
      have hS3 : Step T w T w3 := ⟨hS2.turn.new (hb3'.mono hS2.turn.size), fun b hb => .inl hb⟩
      have hz3 := hb3'.size
      clear c0 k2 hP2 hob2 ho2 hr2 hrb2 hS2 hb3 hb3'
      have hal := AsLent_any g2 m _ data w0.heap.size w3 HML.out ho3 hrb3 (by omega)
      go_upto_region 14 with (first
        | (go_at_call 23; refine hal.mono ?_; rintro e w4 ⟨rfl, hg4⟩)
        | fail)
      have hT4 : Turn (fun b => b = g2) w3 w4 := Turn.of_grown hg4 (fun k e => (Option.some.inj e).symm)
      have hP4 := hP3.turn hT4 (fun b hb e => by have e' : b = g2 := e; have := HLM.out _ hb; omega)
      have hob4 := hob3.turn hT4 (fun e => by have e' : w.heap.size = g2 := e; omega)
      have hrb4 : RdB w4 (.slice (some ad) m dc) data := hrb3.turn hT4 (fun A' n' c' e hd => by have := (HOF.out A' n' c' e).2; have h2 : A'.block = g2 := hd; omega)
      have hS4 : Step T w T w4 := ⟨hS3.turn.trans hT4 (fun b e => by have e' : b = g2 := e; right; omega), hS3.grow⟩
      clear hP3 hob3 ho3 hrb3 hS3 hal hg4 hT4
      have c1 := hP4.blk.cell' (j := 1) rfl
      have k2 := hob4.cell' (j := 2) rfl
      have hrr := fun nq => HZ2.out (w4.drewN nq) R q _ (hP4.drewN nq).ref (show RdB (w4.drewN nq) _ _ from hrb4)
      unfold rfPtr at hrr
      have HRR := Lib.hid hrr
      clear hrr
      refine wp_region_dtail 7 (by kernel_rfl) (by kernel_rfl) ?_
      simp only [List.take_succ_cons, List.take_zero, List.drop_succ_cons, List.drop_zero]
      repeat (quiet_step (fail))
      refine wpQuiet_nil ?_
      rintro _ ⟨nq2, rfl⟩
      go_upto_region 15 with (first
        | (go_at_call 45; refine (HRR.out nq2).mono ?_; rintro e w5 ⟨rfl, rfl⟩)
        | fail)
      have hPC := hP4.drewN nq2
      have hS05 : Step T w T (w4.drewN nq2) := ⟨hS4.turn.drewN nq2, hS4.grow⟩
      clear c1 k2 hP4 hob4 hrb4 hS4
      go_wp2_with fail
      go_ret
      exact ⟨rfl, T, ⟨r, q, S, D, R, cv, cs, wv, ls, hPC, by omega, by omega, HLL.out⟩, hS05⟩
end Go.Proofs.Ytipjngoenklioaa

-- espalierlaw03.pair.play: walks, by the kind of the step (ask; all).
namespace Go.Proofs.Ytipjngoenklioaa
open Go.RowKit
set_option maxRecDepth 100000 in
set_option maxHeartbeats 8000000 in
theorem play_ask (b0 : Prop) (W w : World) (T : Nat → Prop) (xb N : Nat) (o : OpV) (hk : o.kind = 9) (h : Pair b0 w T xb N) (hN : N ≤ 10000000) (ho : o.ok W) (hB : Below W.heap.size W w) (hT : ∀ b, T b → W.heap.size ≤ b) (hkl : o.keep.length ≤ 10000000) (hdl : o.data.length ≤ 10000000) :
    Calls Try.prog 27 #[pairV xb, opV o] w (PlayAt b0 w T xb N) := by
  obtain ⟨r, q, S, D, R, cv, cs, wv, ls, h, hcn, hwn, hll⟩ := h
  have HWF := Lib.hid ho
  obtain ⟨kind, on, n, byte, dv, data, kv, ks, torn, at_⟩ := o
  obtain ⟨A, c, hkv, hkc1, hkc2⟩ := ho.k.form
  obtain ⟨Dv, dc, hdv, hdc⟩ := ho.d.form
  simp only at hkv hdv hkl hdl hdc hk
  subst hkv hdv
  subst hk
  have HO := Lib.hid ho
  have HB := Lib.hid hB
  have HT := Lib.hid hT
  have HLL := Lib.hid hll
  have hob := OBlk.new' w 33 [.int .i64 9, .int .i64 on, .int .i64 n, .int .u8 (byte.toNat : Int), .slice Dv data.length dc, .slice A ks.length c, .int .i64 torn, .int .i64 at_]
  have hbA : Below w.heap.size w (w.alloc (.cells #[.int .i64 9, .int .i64 on, .int .i64 n, .int .u8 (byte.toNat : Int), .slice Dv data.length dc, .slice A ks.length c, .int .i64 torn, .int .i64 at_] 33)) := (Below.refl _ _).alloc (Nat.le_refl _) _
  have hzA : w.heap.size < (w.alloc (.cells #[.int .i64 9, .int .i64 on, .int .i64 n, .int .u8 (byte.toNat : Int), .slice Dv data.length dc, .slice A ks.length c, .int .i64 torn, .int .i64 at_] 33)).heap.size := by simp
  have hP := h.below hbA
  have hWs := hB.size
  have hcl := h.came
  have HH := Lib.hid h
  clear h ho hB hT hcl hll
  unfold opV pairV
  go_enter Try.func27, Try.ntmps27
  go_upto_region 1 with (fail)
  generalize w.alloc (.cells #[.int .i64 9, .int .i64 on, .int .i64 n, .int .u8 (byte.toNat : Int), .slice Dv data.length dc, .slice A ks.length c, .int .i64 torn, .int .i64 at_] 33) = w0 at *
  have hS0 : Step T w T w0 := ⟨Turn.of_below hbA, fun b hb => .inl hb⟩
  have hBw := HB.out.trans (hbA.mono hWs)
  have k0 := hob.cell' (j := 0) rfl
  have c0 := hP.blk.cell' (j := 0) rfl
  have hlo := Loose_any w0 D r S hP.dev
  have hct := Counts_any w0 D r S hP.dev
  unfold plPtr at hlo hct
  go_upto_region 37 with (first
    | (go_at_call 17; refine hlo.mono ?_; rintro e w1 ⟨rfl, rfl⟩)
    | (go_at_call 52; refine hct.mono ?_; rintro e w1 ⟨rfl, hb1⟩)
    | fail)
  have hP1 := hP.below hb1
  have hS1 : Step T w T w1 := ⟨hS0.turn.new (hb1.mono hS0.turn.size), fun b hb => .inl hb⟩
  have hbB : Below w1.heap.size w1 (w1.alloc (.cells #[.int .i64 S.cr, .int .i64 S.cw, .int .i64 S.cs] 74)) := (Below.refl _ _).alloc (Nat.le_refl _) _
  have hcb := OBlk.new' w1 74 [.int .i64 S.cr, .int .i64 S.cw, .int .i64 S.cs]
  have hP2 := hP1.below hbB
  have hS2 : Step T w T _ := ⟨hS1.turn.new (hbB.mono hS1.turn.size), fun b hb => .inl hb⟩
  clear hlo hct hP hP1 hS1 hS0 hob c0 k0 hbA hBw hzA hbB
  generalize w1.alloc (.cells #[.int .i64 S.cr, .int .i64 S.cw, .int .i64 S.cs] 74) = w2 at *
  have c1 := hP2.blk.cell' (j := 1) rfl
  have y0 := hcb.cell' (j := 0) rfl
  have y1 := hcb.cell' (j := 1) rfl
  have y2 := hcb.cell' (j := 2) rfl
  have hrl := RLoose_any (w2.drewN 1) R q S (hP2.drewN 1).ref
  have hrc := RCounts_any (w2.drewN 1) R q S (hP2.drewN 1).ref
  unfold rfPtr at hrl hrc
  go_region_held3 (fun w' => w'.cell? ⟨xb, 1, none⟩ = some (rfPtr q) ∧ w'.cell? ⟨w1.heap.size, 0, none⟩ = some (.int .i64 S.cr) ∧ w'.cell? ⟨w1.heap.size, 1, none⟩ = some (.int .i64 S.cw) ∧ w'.cell? ⟨w1.heap.size, 2, none⟩ = some (.int .i64 S.cs))
    (first | exact ⟨c1, y0, y1, y2⟩ | exact ⟨hx1, hx2, hx3, hx4⟩)
    (first
      | (go_at_call 53; refine hrl.mono ?_; rintro e w3 ⟨rfl, rfl⟩)
      | (go_at_call 54; refine hrc.mono ?_; rintro e w3 ⟨rfl, hb3⟩; have hb3' : Below w2.heap.size w2 w3 := ((Below.refl _ _).drew).trans hb3; have hx1 := (hP2.below hb3').blk.cell' (j := 1) rfl; have hx2 := (hcb.below hb3' hcb.lt).cell' (j := 0) rfl; have hx3 := (hcb.below hb3' hcb.lt).cell' (j := 1) rfl; have hx4 := (hcb.below hb3' hcb.lt).cell' (j := 2) rfl)
      | fail)
  have hP3 := hP2.below hb3'
  have hS3 : Step T w T w3 := ⟨hS2.turn.new (hb3'.mono hS2.turn.size), fun b hb => .inl hb⟩
  clear c1 y0 y1 y2 hx1 hx2 hx3 hx4 hrl hrc hP2 hS2
  go_wp2_with fail
  go_ret
  exact ⟨rfl, T, ⟨r, q, S, D, R, cv, cs, wv, ls, hP3, by omega, by omega, HLL.out⟩, hS3⟩
theorem play_any (b0 : Prop) (W w : World) (T : Nat → Prop) (xb N : Nat) (o : OpV) (h : Pair b0 w T xb N) (hN : N ≤ 10000000) (ho : o.ok W) (hB : Below W.heap.size W w) (hT : ∀ b, T b → W.heap.size ≤ b) (hkl : o.keep.length ≤ 10000000) (hdl : o.data.length ≤ 10000000) :
    Calls Try.prog 27 #[pairV xb, opV o] w (PlayAt b0 w T xb N) := by
  by_cases h1 : o.kind = 1
  · exact play_read b0 W w T xb N o h1 h hN ho hB hT hkl hdl
  by_cases h2 : o.kind = 2
  · exact play_write b0 W w T xb N o h2 h hN ho hB hT hkl hdl
  by_cases h3 : o.kind = 3
  · exact play_sync b0 W w T xb N o h3 h hN ho hB hT hkl hdl
  by_cases h4 : o.kind = 4
  · exact play_arm b0 W w T xb N o h4 h hN ho hB hT hkl hdl
  by_cases h5 : o.kind = 5
  · exact play_crash b0 W w T xb N o h5 h hN ho hB hT hkl hdl
  by_cases h6 : o.kind = 6
  · exact play_start b0 W w T xb N o h6 h hN ho hB hT hkl hdl
  by_cases h7 : o.kind = 7
  · exact play_image b0 W w T xb N o h7 h hN ho hB hT hkl hdl
  by_cases h8 : o.kind = 8
  · exact play_load b0 W w T xb N o h8 h hN ho hB hT hkl hdl
  by_cases h9 : o.kind = 9
  · exact play_ask b0 W w T xb N o h9 h hN ho hB hT hkl hdl
  exact play_other b0 W w T xb N o ⟨h1, h2, h3, h4, h5, h6, h7, h8, h9⟩ h hN ho hB hT hkl hdl
end Go.Proofs.Ytipjngoenklioaa

-- espalierlaw03.pair.owned, big: walks.
namespace Go.Proofs.Ytipjngoenklioaa
open Go.RowKit
def ls2 (ls : List LW) : List LW := (List.range ls.length).map fun j => ((ls.getD j ([], [])).1, mkL j (ls.getD j ([], [])).2.length)
theorem ls2_length (ls : List LW) : (ls2 ls).length = ls.length := by simp [ls2]
theorem ls2_strs (ls : List LW) : strs (ls2 ls) = strs ls := by
  unfold strs ls2
  apply List.ext_getElem
  · simp
  · intro i h1 h2
    simp only [List.length_map] at h2
    simp [List.getD, h2]
theorem ls2_get (ls : List LW) {j : Nat} (h : j < ls.length) : ((ls2 ls).getD j ([], [])).2 = mkL j (ls.getD j ([], [])).2.length := by
  unfold ls2
  simp [List.getD, h]
theorem ls2_mem {ls : List LW} (h : ∀ l ∈ ls, l.2.length ≤ 67108864) : ∀ l ∈ ls2 ls, l.2.length ≤ 67108864 := by
  intro l hl
  unfold ls2 at hl
  obtain ⟨j, hj, rfl⟩ := List.mem_map.1 hl
  have hj' : j < ls.length := List.mem_range.1 hj
  simp only [mkL_length]
  have := h ls[j] (List.getElem_mem hj')
  simpa [List.getD, hj'] using this
theorem PairAt.marked {w w' : World} {T : Nat → Prop} {xb : Nat} {r : Raw} {q : RRaw} {S S2 : PS} {D R : Nat → Prop} {cv wv : Value} {cs : List Value} {ls : List LW} (h : PairAt w T xb r q S S2 D R cv cs wv ls) (ht : Turn (InL cs) w w') (ho : OwLs w' 0 cs (fun j => mkL j (ls.getD j ([], [])).2.length)) :
    PairAt w' T xb r q S S2 D R cv cs wv (ls2 ls) := by
  have hin : ∀ b, InL cs b → OO xb cv wv cs b := fun b hb => .inr (.inr (.inr hb))
  have key : ∀ {b0 : Nat} {A : TypeId} {size n : Nat} {v : Value} {xs : List Value}, Own w b0 A size v n xs → 5 ≠ A → Own w' b0 A size v n xs := fun {b0 A size n v xs} hv hA => Own.heap hv fun g hg => ht.block g (Own.lt hv g hg).2 (fun ⟨j, u, hj, hu⟩ => by
    obtain ⟨cs', hb⟩ := Own.oblk hv hg
    exact OwB.ne_blk (h.each j u hj) hb hA (by rw [hu]))
  exact
    { dev := h.dev.turn ht (fun k hk e => (h.sepD k hk).2 (hin k e))
      ref := h.ref.turn ht (fun k hk e => h.sepR k hk (hin k e))
      blk := h.blk.of_heap (ht.block xb h.blk.lt (fun ⟨j, u, hj, hu⟩ => OwB.ne_blk (h.each j u hj) h.blk (by decide) (by rw [hu])))
      came := key h.came (by decide)
      want := by rw [ls2_length, ls2_strs]; exact key h.want (by decide)
      len := by rw [ls2_length]; exact h.len
      each := fun j u hj => by
        have hjl : j < ls.length := by rw [← h.len]; exact (List.getElem?_eq_some_iff.1 hj).1
        show OwB w' 0 u ((ls2 ls).getD j ([], [])).2
        rw [ls2_get ls hjl]
        exact ho j u hj
      apart := h.apart
      sepD := h.sepD, sepR := h.sepR, tD := h.tD, tR := h.tR, tO := h.tO
      lt := fun b hb => Nat.lt_of_lt_of_le (h.lt b hb) ht.size }
theorem apart_take {cs : List Value} (h : ApartL cs) {k : Nat} {u : Value} (hk : cs[k]? = some u) : ∀ (j : Nat) (y : Value), (cs.take k)[j]? = some y → ∀ g, u.ownBlock = some g → y.ownBlock ≠ some g := fun j y hj g hg e => by
  rw [List.getElem?_take] at hj
  split at hj
  · exact h k j u y (by omega) hk hj g hg e.symm
  · cases hj
set_option maxRecDepth 100000 in
set_option maxHeartbeats 8000000 in
theorem owned_any (w : World) (T : Nat → Prop) (xb N : Nat) (h : Pair True w T xb N) (hN : N ≤ 4000000) :
    Calls Try.prog 30 #[pairV xb] w fun e w' => e = .returned (.bool true) ∧ Pair False w' T xb N ∧ Turn T w w' := by
  obtain ⟨r, q, S, D, R, cv, cs, wv, ls, h, hcn, hwn, hll⟩ := h
  have hA : Below w.heap.size w (w.alloc (.cells #[.slice none 0 0] 80)) := (Below.refl _ _).alloc (Nat.le_refl _) _
  have hb0 := OBlk.new' w 80 [.slice none 0 0]
  have hbk : BookAt (w.alloc (.cells #[.slice none 0 0] 80)) w.heap.size w.heap.size (.slice none 0 0) [] (fun j => (ls.getD j ([], [])).2) := ⟨hb0, Own.nil _ _ _ _, fun j u hj => by simp at hj, fun i j u u' _ hj => by simp at hj⟩
  have hlen := h.len
  obtain ⟨Ac, cc, hcv⟩ := Own.slice h.came
  obtain ⟨Aw, wc, hwv⟩ := Own.slice h.want
  have hlo := h.blk.lt
  have HH := Lib.hid h
  have HLN := Lib.hid hlen
  have HLL := Lib.hid hll
  have HCV := Lib.hid hcv
  have HWV := Lib.hid hwv
  clear hlen hll hcv hwv h hb0
  unfold pairV
  go_enter Try.func30, Try.ntmps30
  go_wp2_with fail
  go_loopw [4] (fun i wr => ∃ (k : Nat) (v : Value), k ≤ cs.length ∧ i = .int .i64 (k : Int) ∧ BookAt wr w.heap.size w.heap.size v (cs.take k) (fun j => (ls.getD j ([], [])).2) ∧ Below w.heap.size w wr) (fun i _ => cs.length - (intOf i).toNat)
  case atStart => exact ⟨0, _, Nat.zero_le _, rfl, hbk, hA⟩
  case round =>
    clear hbk hA
    obtain ⟨k, v, hk, rfl, hbk, hB⟩ := hrel
    have hP := HH.out.below hB
    have c2 := hP.blk.cell' (j := 2) (u := .slice Ac cs.length cc) (congrArg some HCV.out)
    have c3 := hP.blk.cell' (j := 3) (u := .slice Aw ls.length wc) (congrArg some HWV.out)
    by_cases hlt : k < cs.length
    · have hkl : k < ls.length := by rw [← HLN.out]; exact hlt
      have hku : cs[k]? = some cs[k] := List.getElem?_eq_getElem hlt
      have hou : OwB wr 0 cs[k] (ls.getD k ([], [])).2 := hP.each k _ hku
      have hlm := HLL.out _ (List.getElem_mem hkl)
      have hgd : (ls.getD k ([], [])) = ls[k] := by simp [List.getD, hkl]
      rw [hgd] at hou
      have heq : ls[k].1 = ls[k].2 := hlm.2 trivial
      have hcame := hP.came
      rw [HCV.out] at hcame
      have hwant := hP.want
      rw [HWV.out] at hwant
      obtain ⟨gc, rfl⟩ : ∃ g, Ac = some ⟨g, 0, none⟩ := by
        rcases hcame.form with ⟨e, h0⟩ | ⟨g, c, e, _⟩
        · omega
        · injection e with e; exact ⟨g, e⟩
      obtain ⟨gw, rfl⟩ : ∃ g, Aw = some ⟨g, 0, none⟩ := by
        rcases hwant.form with ⟨e, h0⟩ | ⟨g, c, e, _⟩
        · omega
        · injection e with e; exact ⟨g, e⟩
      have d1 := hcame.cells k _ hku
      have d2 := hwant.cells k (strV ls[k].1) (by simp [strs, hkl])
      rw [heq] at d2
      have hap := apart_take hP.apart hku
      have hnx : cs.take (k + 1) = cs.take k ++ [cs[k]] := List.take_succ_eq_append_getElem hlt
      have hfe : (fun j => if j = (cs.take k).length then ls[k].2 else (ls.getD j ([], [])).2) = (fun j => (ls.getD j ([], [])).2) := by
        funext j
        rw [List.length_take, Nat.min_eq_left (Nat.le_of_lt hlt)]
        by_cases e : j = k
        · subst e; rw [if_pos rfl, hgd]
        · rw [if_neg e]
      have HNX := Lib.hid hnx
      have HFE := Lib.hid hfe
      have hl2 : ls[k].2.length ≤ 67108864 := hlm.1
      clear hgd heq hnx hfe hcame hwant hlm
      generalize ls[k].2 = l at *
      generalize cs[k] = u at *
      have hsl := Own.slice hou
      obtain ⟨Au, cu, rfl⟩ := hsl
      have s1 := run_B_string (w := wr.drew) (show RdB wr.drew _ _ from OwB.rd hou)
      have ik : (k : Int) < (cs.length : Int) := by omega
      have ikl : (k : Int) < (ls.length : Int) := by omega
      have d2' : wr.cell? ⟨gw, k, none⟩ = some (.string ⟨l.toArray⟩) := d2
      have htk : (cs.take k).length ≤ 100000000 := by rw [List.length_take]; omega
      have hbkd : BookAt wr.drew w.heap.size w.heap.size v (cs.take k) (fun j => (ls.getD j ([], [])).2) := ⟨hbk.blk, hbk.own, hbk.each, hbk.apart⟩
      have htk2 := Take_any wr.drew w.heap.size w.heap.size v (cs.take k) _ _ l hbkd hB.size htk (show OwB wr.drew 0 _ _ from hou) hap
      have HTK := Lib.hid htk2
      have HOWN := Lib.hid hbk
      clear d2 hku hou hap htk hbkd htk2 hbk
      go_upto_region 5 with (fail)
      go_region
      clear s1
      go_wp2_with (first
        | (go_at_call 55; refine HTK.out.mono ?_; rintro e w2 ⟨⟨x2, rfl⟩, v2, hbk2, hT2, hg2⟩)
        | fail)
      have hB2 : Below w.heap.size w w2 := hB.drew.trans (hT2.below hB.size (fun b hb => by
        rcases hb with hb | hb
        · rw [hb]; exact Nat.le_refl _
        · exact (Own.lt HOWN.out.own b hb).1))
      exact ⟨⟨k + 1, v2, by omega, by go_num, by rw [HNX.out, ← HFE.out]; exact hbk2, hB2⟩, by simp only [intOf, IntKind.wrap_i64]; omega⟩
    · obtain rfl : k = cs.length := by omega
      rw [List.take_length] at hbk
      have hbo := BookOwned_any v cs _ w.heap.size w.heap.size wr hbk (by omega) (fun j hj => by
        have hjl : j < ls.length := by rw [← HLN.out]; exact hj
        have := (HLL.out _ (List.getElem_mem hjl)).1
        simp [List.getD, hjl]; omega)
      clear hbk
      go_wp2_with fail
      refine hbo.mono ?_
      rintro e w2 ⟨rfl, hT2, ho2⟩
      have hPM := hP.marked hT2 ho2
      have hTT : Turn T w w2 := (Turn.of_below hB).trans hT2 (fun b hb => .inl (HH.out.tO b (.inr (.inr (.inr hb)))))
      have hls := ls2_mem (fun l hl => (HLL.out l hl).1)
      go_wp2_with fail
      go_ret
      exact ⟨rfl, ⟨r, q, S, D, R, cv, cs, wv, ls2 ls, hPM, hcn, hwn, fun l hl => ⟨hls l hl, fun e => e.elim⟩⟩, hTT⟩
end Go.Proofs.Ytipjngoenklioaa

-- espalierlaw03.PlateLasts: what a fall may change: plain laws.
namespace Go.Proofs.Ytipjngoenklioaa
open Go.RowKit
def nOf (n : Int) : Nat := (bits .and .i64 n 7).toNat
theorem nOf_eq (n : Int) : bits .and .i64 n 7 = (nOf n : Int) ∧ nOf n < 8 := by
  have e : bits .and .i64 n 7 = IntKind.i64.wrap (((BitVec.ofInt 64 n) &&& (BitVec.ofInt 64 7)).toNat : Int) := rfl
  have h7 : (BitVec.ofInt 64 7).toNat = 7 := by decide
  have h : ((BitVec.ofInt 64 n) &&& (BitVec.ofInt 64 7)).toNat ≤ 7 := by
    rw [BitVec.toNat_and, h7]
    exact Nat.and_le_right
  unfold nOf
  rw [e, IntKind.wrap_i64]
  omega
def byteAt (pg : List (List UInt8)) (q j : Nat) : Option UInt8 := (pg[q]?).bind fun l => l[j]?
/-- Each byte is that of B, or that of a write to its page. -/
def MayPg (ws : List (Nat × List UInt8)) (B A : List (List UInt8)) : Prop :=
  A.length = B.length ∧ ∀ q j, byteAt A q j = byteAt B q j ∨ ∃ x ∈ ws, x.1 = q ∧ byteAt A q j = x.2[j]?
theorem MayPg.refl (ws : List (Nat × List UInt8)) (B : List (List UInt8)) : MayPg ws B B := ⟨rfl, fun _ _ => .inl rfl⟩
theorem byteAt_put (pg : List (List UInt8)) (n : Nat) (m : List UInt8) (q j : Nat) : byteAt (putPg pg n m) q j = byteAt pg q j ∨ (q = n ∧ j < m.length ∧ byteAt (putPg pg n m) q j = m[j]?) := by
  unfold putPg byteAt
  by_cases h : n = q
  · subst h
    by_cases hn : n < pg.length
    · rw [List.getElem?_set_self hn, List.getElem?_eq_getElem hn]
      simp only [Option.bind_some, List.getD, List.getElem?_eq_getElem hn, Option.getD_some]
      rcases Nat.lt_or_ge j m.length with hj | hj
      · refine .inr ⟨trivial, hj, ?_⟩
        exact List.getElem?_append_left hj
      · refine .inl ?_
        rw [List.getElem?_append_right hj, List.getElem?_drop]
        congr 1; omega
    · rw [List.set_eq_of_length_le (by omega)]; exact .inl rfl
  · rw [List.getElem?_set_ne h]; exact .inl rfl
theorem MayPg.put {ws : List (Nat × List UInt8)} {B A : List (List UInt8)} (h : MayPg ws B A) {x : Nat × List UInt8} (hx : x ∈ ws) (k : Nat) : MayPg ws B (putPg A x.1 (x.2.take k)) := by
  refine ⟨by rw [putPg_length]; exact h.1, fun q j => ?_⟩
  rcases byteAt_put A x.1 (x.2.take k) q j with e | ⟨rfl, hj, e⟩
  · rw [e]; exact h.2 q j
  · refine .inr ⟨x, hx, rfl, ?_⟩
    rw [e, List.getElem?_take, if_pos (by simp at hj; omega)]
theorem MayPg.fallOne {P : Nat} {ks : List Int} {torn at_ : Int} {i : Nat} {ws : List (Nat × List UInt8)} {B A : List (List UInt8)} (h : MayPg ws B A) {x : Nat × List UInt8} (hx : x ∈ ws) : MayPg ws B (fallOne P ks torn at_ i x A) := by
  unfold Proofs.Ytipjngoenklioaa.fallOne
  split
  · exact h.put hx _
  · split
    · have := h.put hx x.2.length
      rwa [List.take_length] at this
    · exact h
theorem MayPg.fall (P : Nat) (ks : List Int) (torn at_ : Int) (ws : List (Nat × List UInt8)) (B : List (List UInt8)) : ∀ n, MayPg ws B (fallN P ks torn at_ ws B n)
  | 0 => MayPg.refl _ _
  | n + 1 => by
    rw [fallN]
    split
    · rename_i x hx
      exact (MayPg.fall P ks torn at_ ws B n).fallOne (List.mem_of_getElem? hx)
    · exact MayPg.fall P ks torn at_ ws B n
theorem MayPg.mono {ws ws' : List (Nat × List UInt8)} {B A : List (List UInt8)} (h : MayPg ws B A) (hs : ∀ x ∈ ws, x ∈ ws') : MayPg ws' B A :=
  ⟨h.1, fun q j => (h.2 q j).imp id fun ⟨x, hx, e⟩ => ⟨x, hs x hx, e⟩⟩
theorem flat_at {P : Nat} (hP : 0 < P) : ∀ (pg : List (List UInt8)) (k : Nat), (∀ l ∈ pg, l.length = P) → pg.flatten[k]? = byteAt pg (k / P) (k % P)
  | [], k, _ => by simp [byteAt]
  | x :: r, k, h => by
    have h1 := h x (by simp)
    rw [List.flatten_cons]
    rcases Nat.lt_or_ge k P with hk | hk
    · rw [List.getElem?_append_left (by omega), Nat.div_eq_of_lt hk, Nat.mod_eq_of_lt hk]; rfl
    · rw [List.getElem?_append_right (by omega), h1, flat_at hP r (k - P) (fun l hl => h l (by simp [hl]))]
      have e1 : k / P = (k - P) / P + 1 := by
        rw [← Nat.add_div_right _ hP, Nat.sub_add_cancel hk]
      have e2 : k % P = (k - P) % P := by
        rw [← Nat.add_mod_right (k - P) P, Nat.sub_add_cancel hk]
      rw [e1, e2]
      rfl
/-- The writes that ops stand for. -/
def wsOf (l : List OpV) : List (Nat × List UInt8) := l.map fun o => (nOf o.n, List.replicate 512 o.byte)
/-- The check of one byte, after i writes. -/
def mayF (l : List OpV) (a b : UInt8) (q : Nat) : Nat → Bool
  | 0 => a == b
  | i + 1 => mayF l a b q i || ((nOf (l.getD i default).n == q) && (a == (l.getD i default).byte))
theorem mayF_true {l : List OpV} {a b : UInt8} {q n : Nat} (h : a = b ∨ ∃ i, i < n ∧ nOf (l.getD i default).n = q ∧ a = (l.getD i default).byte) : mayF l a b q n = true := by
  induction n with
  | zero =>
    rcases h with h | ⟨i, hi, _⟩
    · simp [mayF, h]
    · omega
  | succ n ih =>
    rw [mayF]
    rcases h with h | ⟨i, hi, h1, h2⟩
    · rw [ih (.inl h)]; rfl
    · by_cases e : i = n
      · subst e
        rw [Bool.or_eq_true, Bool.and_eq_true]
        exact .inr ⟨by rw [h1]; exact beq_self_eq_true _, by rw [← h2]; exact beq_self_eq_true _⟩
      · rw [ih (.inr ⟨i, by omega, h1, h2⟩)]; rfl
theorem may_bytes {l : List OpV} {n : Nat} (hn : n ≤ l.length) {B A : List (List UInt8)} (h : MayPg (wsOf (l.take n)) B A) (hA : ∀ x ∈ A, x.length = 512) (hB : ∀ x ∈ B, x.length = 512) {k : Nat} {a b : UInt8} (ha : A.flatten[k]? = some a) (hb : B.flatten[k]? = some b) :
    mayF l a b (k / 512) n = true := by
  rw [flat_at (P := 512) (by omega) A k hA] at ha
  rw [flat_at (P := 512) (by omega) B k hB] at hb
  refine mayF_true ?_
  rcases h.2 (k / 512) (k % 512) with e | ⟨x, hx, e1, e2⟩
  · rw [ha, hb] at e
    exact .inl (Option.some.inj e)
  · obtain ⟨o, ho, rfl⟩ := List.mem_map.1 hx
    obtain ⟨i, hi, rfl⟩ := List.getElem_of_mem ho
    have hi' : i < n := by simp at hi; omega
    have hil : i < l.length := by omega
    refine .inr ⟨i, hi', ?_, ?_⟩
    · simp only [List.getD, List.getElem?_eq_getElem hil, Option.getD_some]
      simpa using e1
    · rw [ha] at e2
      rw [List.getElem?_replicate, if_pos (Nat.mod_lt _ (by omega))] at e2
      simp only [List.getD, List.getElem?_eq_getElem hil, Option.getD_some]
      simpa using Option.some.inj e2
end Go.Proofs.Ytipjngoenklioaa
