/- Texts joined: espalierlaw03.pair.fall; append(b, make([]byte, n)...) of bytes that the call owns.; espalierlaw03.page, awake; espalierlaw03.awake -/
import Derived.Test.YtipjngoenklioaaG2
import Derived.Test.YtipjngoenklioaaG4
import Derived.Test.YtipjngoenklioaaG6
import Derived.Test.YtipjngoenklioaaG7
import Derived.BigQuiet
import Derived.Lib.AppendZeros
-- espalierlaw03.pair.fall: the walk.
namespace Go.Proofs.Ytipjngoenklioaa
open Go.RowKit
def opV (o : OpV) : Value := .agg #[.int .i64 o.kind, .int .i64 o.on, .int .i64 o.n, .int .u8 (o.byte.toNat : Int), o.dv, o.kv, .int .i64 o.torn, .int .i64 o.at_]
theorem ivs_append (a b : List Int) : ivs (a ++ b) = ivs a ++ ivs b := by simp [ivs]
section laws
variable {w : World} {ops : Array Oper} {rest : List Oper} {o : Oper} {a : Act} {Q : Exit → Act → World → Prop}
theorem wp_make_I (hg : o.guard = none) (l c : Operand) (hop : o.op = Op.makeSlice 29 l c)
    (L : Int) (n : Nat) (hl : a.eval l = .int .i64 L) (hc : a.eval c = .int .i64 L) (hL : L = (n : Int)) (hn : n ≤ 35184372088832)
    (hK : ∀ w', OBlk w' w.heap.size 3 (ivs (List.replicate n 0)) → Below w.heap.size w w' → w'.heap.size = w.heap.size + 1 → wpList Try.prog ops Q rest (a.put o.dst (.slice (some ⟨w.heap.size, 0, none⟩) n n)) w') :
    wpList Try.prog ops Q (o :: rest) a w := by
  obtain ⟨i, hi, hz0, hz1, hz2⟩ := info_parts int_info
  refine wpList_plain hg fun K hK' => ?_
  have hr := run_make (P := Try.prog) w 29 3 i _ Try.underlying29 hi hz0 .i64 .i64 n n (by omega) (by omega) (by rw [hz2]; omega) (by omega)
  subst hL
  unfold Oper.wp
  simp [execOp, hop, hl, hc, hr, Result.andThen]
  refine hK' _ _ (hK _ ?_ ((Below.refl _ _).alloc (Nat.le_refl _) _) (by simp))
  have e := toList_madeCells_one (.int .i64 0) n
  have := OBlk.new w 3 (madeCells #[.int .i64 0] n)
  rw [e] at this
  simpa [Value.cells, hz1, ivs] using this
end laws
theorem splice_keep (ks : List Int) : splice (ivs (List.replicate (ks.length + 2) 0)) 0 ((ivs ks).take (min ks.length (ks.length + 2))) = ivs ks ++ [Value.int .i64 0, Value.int .i64 0] := by
  rw [Nat.min_eq_left (by omega), List.take_of_length_le (by rw [ivs_length]; exact Nat.le_refl _)]
  unfold splice
  rw [List.take_zero, List.nil_append, Nat.zero_add, ivs_length]
  congr 1
  rw [← List.replicate_append_replicate, ivs_append, List.drop_left' (by rw [ivs_length, List.length_replicate])]
  rfl
theorem set_keep (ks : List Int) : ((ivs ks ++ [Value.int .i64 0, Value.int .i64 0]).set ks.length (Value.int .i64 (-5))).set (ks.length + 1) (Value.int .i64 (-5)) = ivs (ks ++ [-5, -5]) := by
  rw [List.set_append_right _ _ (by rw [ivs_length]; exact Nat.le_refl _), List.set_append_right _ _ (by rw [ivs_length]; omega), ivs_length, Nat.sub_self, Nat.add_sub_cancel_left, ivs_append]
  rfl
theorem keep_rd {w : World} {kb : Nat} {ks : List Int} (h : OBlk w kb 3 (ivs (ks ++ [-5, -5]))) (hl : ks.length ≤ 10000000) : RdI w (.slice (some ⟨kb, 0, none⟩) ks.length (ks.length + 2)) ks := by
  refine ⟨by rw [ivs_length]; omega, _, _, rfl, by omega, by simp only [maxLen]; omega, fun j u hj => ⟨_, rfl, ?_⟩⟩
  rw [add_row, Nat.zero_add, h.cell, ivs_append, List.getElem?_append_left]
  · exact hj
  · exact (List.getElem?_eq_some_iff.1 hj).1
theorem PairAt.drewN {w : World} {T : Nat → Prop} {xb : Nat} {r : Raw} {q : RRaw} {S S2 : PS} {D R : Nat → Prop} {cv wv : Value} {cs : List Value} {ls : List LW} (h : PairAt w T xb r q S S2 D R cv cs wv ls) (n : Nat) : PairAt (w.drewN n) T xb r q S S2 D R cv cs wv ls :=
  h.turn (G := fun _ => False) ((Turn.refl _ w).drewN n) (fun _ _ h => h)
theorem Step.off {F F' : Nat → Prop} {w w' : World} (hs : Step F w F' w') {b : Nat} (h : ¬ F b) (hb : b < w.heap.size) : ¬ F' b := fun h' => (hs.grow b h').elim h (fun e => by omega)
theorem Step.belowW {W w w' : World} {T T' : Nat → Prop} (hs : Step T w T' w') (hB : Below W.heap.size W w) (hT : ∀ b, T b → W.heap.size ≤ b) : Below W.heap.size W w' ∧ ∀ b, T' b → W.heap.size ≤ b :=
  ⟨hB.trans (hs.turn.below hB.size hT), fun b hb => (hs.grow b hb).elim (hT b) (fun h => Nat.le_trans hB.size h)⟩
def PairStep (w : World) (T : Nat → Prop) (xb : Nat) (S' : PS) (cv : Value) (cs : List Value) (wv : Value) (ls : List LW) (w' : World) : Prop :=
  ∃ T' r' q' D' R', PairAt w' T' xb r' q' S' S' D' R' cv cs wv ls ∧ Step T w T' w'
def FallMid (w : World) (T : Nat → Prop) (xb : Nat) (S' : PS) (cv : Value) (cs : List Value) (wv : Value) (ls : List LW) (kb : Nat) (ks : List Int) (ob : Nat) (oc : List Value) (wx : World) : Prop :=
  ∃ T' r' q' D' R', PairAt wx T' xb r' q' S' S' D' R' cv cs wv ls ∧ Step T w T' wx ∧ ¬ T' kb ∧ OBlk wx kb 3 (ivs (ks ++ [-5, -5])) ∧ OBlk wx ob 33 oc
def rngI (j : Nat) : List Int := (List.range j).map Int.ofNat
theorem rngI_set (j : Nat) (l : List Int) (h : j < l.length) : (ivs (rngI j ++ l.drop j)).set j (.int .i64 (j : Int)) = ivs (rngI (j + 1) ++ l.drop (j + 1)) := by
  have hl : (rngI j).length = j := by simp [rngI]
  rw [ivs_append, List.set_append_right _ _ (by rw [ivs_length, hl]; exact Nat.le_refl _), ivs_length, hl, Nat.sub_self, List.drop_eq_getElem_cons h]
  have e : rngI (j + 1) = rngI j ++ [(j : Int)] := by simp [rngI, List.range_succ]
  rw [e, List.append_assoc, ivs_append]
  rfl
theorem rngI_get (j : Nat) (l : List Int) (h : j < l.length) : (ivs (rngI j ++ l.drop j))[j]? = some (.int .i64 l[j]) := by
  have hl : (rngI j).length = j := by simp [rngI]
  rw [ivs_append, List.getElem?_append_right (by rw [ivs_length, hl]; exact Nat.le_refl _), ivs_length, hl, Nat.sub_self, List.drop_eq_getElem_cons h]
  rfl
def fallS (S : PS) (o : OpV) : PS := if o.kind = 4 then S.arm o.n o.keep o.torn o.at_ else S.crash o.keep o.torn o.at_
set_option maxRecDepth 100000 in
set_option maxHeartbeats 8000000 in
theorem fall_any (W w : World) (T : Nat → Prop) (xb : Nat) (r : Raw) (q : RRaw) (S : PS) (D R : Nat → Prop) (cv : Value) (cs : List Value) (wv : Value) (ls : List LW) (o : OpV) (h : PairAt w T xb r q S S D R cv cs wv ls) (ho : o.ok W) (hB : Below W.heap.size W w) (hT : ∀ b, T b → W.heap.size ≤ b) (hkl : o.keep.length ≤ 10000000) :
    Calls Try.prog 47 #[pairV xb, opV o] w fun e w' => e = .returned (.bool true) ∧ PairStep w T xb (fallS S o) cv cs wv ls w' := by
  obtain ⟨kind, on, n, byte, dv, data, kv, ks, torn, at_⟩ := o
  obtain ⟨A, c, hkv, hkc1, hkc2⟩ := ho.k.form
  simp only at hkv hkl
  subst hkv
  obtain ⟨Dv, dc, hdv, _⟩ := ho.d.form
  simp only at hdv
  subst hdv
  have hk0 : RdI W (.slice A ks.length c) ks := ho.k
  have HK : Hid (∀ W', Below W.heap.size W W' → RdI W' (.slice A ks.length c) ks) := Lib.hid fun W' hb => hk0.below hb
  have hob := OBlk.new' w 33 [.int .i64 kind, .int .i64 on, .int .i64 n, .int .u8 (byte.toNat : Int), .slice Dv data.length dc, .slice A ks.length c, .int .i64 torn, .int .i64 at_]
  have hbA : Below w.heap.size w (w.alloc (.cells #[.int .i64 kind, .int .i64 on, .int .i64 n, .int .u8 (byte.toNat : Int), .slice Dv data.length dc, .slice A ks.length c, .int .i64 torn, .int .i64 at_] 33)) := (Below.refl _ _).alloc (Nat.le_refl _) _
  have hzA : w.heap.size < (w.alloc (.cells #[.int .i64 kind, .int .i64 on, .int .i64 n, .int .u8 (byte.toNat : Int), .slice Dv data.length dc, .slice A ks.length c, .int .i64 torn, .int .i64 at_] 33)).heap.size := by simp
  have hWs := hB.size
  have HO := Lib.hid ho
  have HH := Lib.hid h
  have HT := Lib.hid hT
  have HB := Lib.hid hB
  clear h hT hk0 ho hB
  unfold opV pairV
  go_enter Try.func47, Try.ntmps47
  go_upto_region 1 with (fail)
  generalize w.alloc (.cells #[.int .i64 kind, .int .i64 on, .int .i64 n, .int .u8 (byte.toNat : Int), .slice Dv data.length dc, .slice A ks.length c, .int .i64 torn, .int .i64 at_] 33) = w0 at *
  have k5 := hob.cell' (j := 5) rfl
  go_upto_region 2 with (first
    | ((with_reducible refine wp_make_I rfl (.tmp 12) (.tmp 12) rfl _ (ks.length + 2) rfl rfl (by omega) (by omega) ?_); intro w1 hk1 hb1 _)
    | fail)
  have k5 := (hob.below hb1 hob.lt).cell' (j := 5) rfl
  have hcp := hbA.trans (hb1.mono hbA.size)
  have hkr := HK.out _ (HB.out.trans (hcp.mono hWs))
  go_upto_region 3 with (first
    | ((with_reducible refine at_copy ?_); refine wp_copy rfl (.tmp 14) (.tmp 17) _ _ rfl 3 Try.underlying29 (by obtain ⟨i, hi, _, h2, _⟩ := info_parts int_info; rw [hi]; simp [h2]) _ (ks.length + 2) (ks.length + 2) w0.heap.size 0 rfl (ivs (List.replicate (ks.length + 2) 0)) _ hk1 (fun _ => rfl) (by rw [ivs_length, List.length_replicate]; omega) _ ks.length (ivs ks) rfl hkr (ivs_one ks) ?_; intro w2 hk2 hg2)
    | fail)
  rw [splice_keep] at hk2
  have hne : w.heap.size ≠ w0.heap.size := by omega
  have hob2 := (hob.below hb1 hob.lt).grown hg2 (fun e => hne (Option.some.inj e))
  have k5 := hob2.cell' (j := 5) rfl
  have e0 := hk2.cell' (j := ks.length) (u := .int .i64 0) (by rw [List.getElem?_append_right (by rw [ivs_length]; exact Nat.le_refl _), ivs_length, Nat.sub_self]; rfl)
  have f0 := hk2.frozen (j := ks.length) (by simp [ivs_length])
  have hT2 : Turn (fun _ => False) w w2 := (Turn.of_below hcp).grown hg2 (fun b e => by cases e; right; omega)
  go_upto_region 4 with (fail)
  have hk3 := hk2.set ks.length (.int .i64 (-5))
  have hob3 := hob2.far (p := ⟨w0.heap.size, ks.length, none⟩) hne (.int .i64 (-5))
  have hT3 := hT2.setCell ⟨w0.heap.size, ks.length, none⟩ (.int .i64 (-5)) (.inr (by show w.heap.size ≤ w0.heap.size; omega))
  clear hk2 hob2 hT2 k5 e0 f0 hg2 hk1 hb1 hob hkr
  generalize w2.setCell ⟨w0.heap.size, ks.length, none⟩ (.int .i64 (-5)) = w3 at *
  have k5 := hob3.cell' (j := 5) rfl
  have e0 := hk3.cell' (j := ks.length + 1) (u := .int .i64 0) (by rw [List.getElem?_set_ne (by omega), List.getElem?_append_right (by rw [ivs_length]; omega), ivs_length, Nat.add_sub_cancel_left]; rfl)
  have f0 := hk3.frozen (j := ks.length + 1) (by simp [ivs_length])
  go_upto_region 5 with (fail)
  have hk4 := hk3.set (ks.length + 1) (.int .i64 (-5))
  have hob4 := hob3.far (p := ⟨w0.heap.size, ks.length + 1, none⟩) hne (.int .i64 (-5))
  have hT4 := hT3.setCell ⟨w0.heap.size, ks.length + 1, none⟩ (.int .i64 (-5)) (.inr (by show w.heap.size ≤ w0.heap.size; omega))
  rw [set_keep] at hk4
  clear hk3 hob3 hT3 k5 e0 f0
  generalize w3.setCell ⟨w0.heap.size, ks.length + 1, none⟩ (.int .i64 (-5)) = w4 at *
  have k5 := hob4.cell' (j := 5) rfl
  have k6 := hob4.cell' (j := 6) rfl
  have k7 := hob4.cell' (j := 7) rfl
  have hlo4 := hob4.lt
  go_upto_region 6 with (fail)
  have hfb5 := OBlk.new' w4 31 [.slice A ks.length c, .int .i64 torn, .int .i64 at_]
  have hob5 := hob4.alloc (.cells #[.slice A ks.length c, .int .i64 torn, .int .i64 at_] 31)
  have hk5 := hk4.alloc (.cells #[.slice A ks.length c, .int .i64 torn, .int .i64 at_] 31)
  have hT5 := hT4.alloc (.cells #[.slice A ks.length c, .int .i64 torn, .int .i64 at_] 31)
  have hkl4 := hk4.lt
  have hsz4 := hT4.size
  clear k5 k6 k7 hk4 hT4 hob4
  generalize w4.alloc (.cells #[.slice A ks.length c, .int .i64 torn, .int .i64 at_] 31) = w5 at *
  have k5 := hob5.cell' (j := 5) rfl
  have y0 := hfb5.cell' (j := 0) rfl
  have x0 := hfb5.frozen (j := 0) (by simp)
  go_upto_region 7 with (fail)
  have hfb6 := hfb5.set 0 (.slice (some ⟨w0.heap.size, 0, none⟩) ks.length (ks.length + 2))
  have hob6 := hob5.far (p := ⟨w4.heap.size, 0, none⟩) (show w.heap.size ≠ w4.heap.size by omega) (.slice (some ⟨w0.heap.size, 0, none⟩) ks.length (ks.length + 2))
  have hk6 := hk5.far (p := ⟨w4.heap.size, 0, none⟩) (show w0.heap.size ≠ w4.heap.size by omega) (.slice (some ⟨w0.heap.size, 0, none⟩) ks.length (ks.length + 2))
  have hT6 := hT5.setCell ⟨w4.heap.size, 0, none⟩ (.slice (some ⟨w0.heap.size, 0, none⟩) ks.length (ks.length + 2)) (.inr (by show w.heap.size ≤ w4.heap.size; omega))
  clear k5 y0 x0 hk5 hT5 hob5 hfb5
  generalize w5.setCell ⟨w4.heap.size, 0, none⟩ (.slice (some ⟨w0.heap.size, 0, none⟩) ks.length (ks.length + 2)) = w6 at *
  generalize w4.heap.size = fb at *
  generalize w0.heap.size = kb at *
  have hP6 := HH.out.turn hT6 (fun _ _ h => h)
  have HT6 := Lib.hid hT6
  have hnk : ¬ T kb := fun e => by have := HH.out.lt _ e; omega
  have hno : ¬ T w.heap.size := fun e => by have := HH.out.lt _ e; omega
  have k0 := hob6.cell' (j := 0) rfl
  go_upto_if 43 with (fail)
  clear k0
  go_cut [] (fun wx => FallMid w T xb (fallS S ⟨kind, on, n, byte, .slice Dv data.length dc, data, .slice A ks.length c, ks, torn, at_⟩) cv cs wv ls kb ks w.heap.size [.int .i64 kind, .int .i64 on, .int .i64 n, .int .u8 (byte.toNat : Int), .slice Dv data.length dc, .slice A ks.length c, .int .i64 torn, .int .i64 at_] wx)
  case first =>
    have y0 := hfb6.cell' (j := 0) rfl
    have y1 := hfb6.cell' (j := 1) rfl
    have y2 := hfb6.cell' (j := 2) rfl
    have k2 := hob6.cell' (j := 2) rfl
    have c0 := hP6.blk.cell' (j := 0) rfl
    have hS6 : Step T w T w6 := ⟨hT6.mono (fun _ h => h.elim), fun b hb => .inl hb⟩
    clear hT6
    by_cases hk4 : kind = 4
    · have i4 : (kind == 4) = true := by simp [hk4]
      have HK4 := Lib.hid hk4
      clear hk4
      go_upto_region 8 with (fail)
      refine wp_region_dtail 7 (by kernel_rfl) (by kernel_rfl) ?_
      simp only [List.take_succ_cons, List.take_zero, List.drop_succ_cons, List.drop_zero]
      repeat (quiet_step (fail))
      refine wpQuiet_nil ?_
      rintro _ ⟨nq, rfl⟩
      have hP7 := hP6.drewN nq
      have har := Arm_any _ D r S n (.slice (some ⟨kb, 0, none⟩) ks.length (ks.length + 2)) ks torn at_ hP7.dev (keep_rd (hk6.drewN nq) hkl) (by omega) HO.out.r2 HO.out.r3 HO.out.r4
      unfold plPtr fallV at har
      have hkl6 : kb < (w6.drewN nq).heap.size := hk6.lt
      have hol6 : w.heap.size < (w6.drewN nq).heap.size := hob6.lt
      clear y0 y1 y2 k2 c0 hfb6
      go_upto_region 9 with (first
        | (go_at_call 13; refine har.mono ?_; rintro e w7 ⟨⟨v7, rfl⟩, r7, F7, e7, _, hD7, hS7⟩)
        | fail)
      obtain ⟨hPA, hSA⟩ := hP7.devStep hD7 e7 hS7
      have hS67 : Step T w _ w7 := (⟨hS6.turn.drewN nq, fun b hb => .inl hb⟩ : Step T w T (w6.drewN nq)).trans hSA
      have hob7 := (hob6.drewN nq).turn hSA.turn hno
      have hk7 := (hk6.drewN nq).turn hSA.turn hnk
      have hno7 := hSA.off hno hol6
      have hnk7 := hSA.off hnk hkl6
      clear hP6 hP7 har hSA hob6 hk6 hS6 e7 hD7 hS7 hkl6 hol6
      have c1 := hPA.blk.cell' (j := 1) rfl
      have k2 := hob7.cell' (j := 2) rfl
      have k5 := hob7.cell' (j := 5) rfl
      have k6 := hob7.cell' (j := 6) rfl
      have k7 := hob7.cell' (j := 7) rfl
      refine wp_region_dtail 8 (by kernel_rfl) (by kernel_rfl) ?_
      simp only [List.take_succ_cons, List.take_zero, List.drop_succ_cons, List.drop_zero]
      repeat (quiet_step (fail))
      refine wpQuiet_nil ?_
      rintro _ ⟨nq2, rfl⟩
      have hP8 := hPA.drewN nq2
      have hS8 : Step T w _ (w7.drewN nq2) := ⟨hS67.turn.drewN nq2, hS67.grow⟩
      have hob8 := hob7.drewN nq2
      have hk8 := hk7.drewN nq2
      have hbw := hS8.belowW HB.out HT.out
      generalize w7.drewN nq2 = w8 at *
      have hrr := RArm_any _ R q S n (.slice A ks.length c) ks torn at_ hP8.ref (fun w' ht => HK.out w' (hbw.1.trans (ht.below hbw.1.size (fun b hb => by rw [hb]; exact hbw.2 _ (hP8.tR _ hP8.ref.fp))))) (by omega) HO.out.r2 HO.out.r3 HO.out.r4
      unfold rfPtr fallV at hrr
      clear c1 k2 k5 k6 k7 hPA hS67 hob7 hk7
      go_wp2_with (first
        | (go_at_call 61; refine hrr.mono ?_; rintro e w9 ⟨⟨v9, rfl⟩, q9, R9, e9, hR9, hS9⟩)
        | fail)
      obtain ⟨hPB, hSB⟩ := hP8.refStep hR9 e9 hS9
      have hob9 := hob8.turn hSB.turn hno7
      have hk9 := hk8.turn hSB.turn hnk7
      go_meet
      have hfs : fallS S ⟨kind, on, n, byte, .slice Dv data.length dc, data, .slice A ks.length c, ks, torn, at_⟩ = _ := if_pos HK4.out
      refine ⟨_, r7, q9, F7, R9, ?_, hS8.trans hSB, hSB.off hnk7 hk8.lt, hk9, hob9⟩
      rw [hfs]
      exact hPB
    · have i4 : (kind == 4) = false := by simp [hk4]
      have HK4 := Lib.hid hk4
      clear hk4
      go_upto_region 10 with (fail)
      refine wp_region_dtail 5 (by kernel_rfl) (by kernel_rfl) ?_
      simp only [List.take_succ_cons, List.take_zero, List.drop_succ_cons, List.drop_zero]
      repeat (quiet_step (fail))
      refine wpQuiet_nil ?_
      rintro _ ⟨nq, rfl⟩
      have hP7 := hP6.drewN nq
      have har := Crash_any _ D r S (.slice (some ⟨kb, 0, none⟩) ks.length (ks.length + 2)) ks torn at_ hP7.dev (keep_rd (hk6.drewN nq) hkl) (fun A' n' c' e _ => by injection e with e; injection e with e; subst e; exact fun e => hnk (by have := hP7.tD _ hP7.dev.fs; rw [← e] at this; exact this)) HO.out.r4
      unfold plPtr fallV at har
      have hkl6 : kb < (w6.drewN nq).heap.size := hk6.lt
      have hol6 : w.heap.size < (w6.drewN nq).heap.size := hob6.lt
      clear y0 y1 y2 k2 c0 hfb6
      go_upto_region 11 with (first
        | (go_at_call 15; refine har.mono ?_; rintro e w7 ⟨⟨v7, rfl⟩, ⟨r7, e7, hD7⟩, hT7⟩)
        | fail)
      have hS7 : Step D (w6.drewN nq) D w7 := ⟨hT7, fun b hb => .inl hb⟩
      obtain ⟨hPA, hSA⟩ := hP7.devStep hD7 e7 hS7
      have hS67 : Step T w _ w7 := (⟨hS6.turn.drewN nq, fun b hb => .inl hb⟩ : Step T w T (w6.drewN nq)).trans hSA
      have hob7 := (hob6.drewN nq).turn hSA.turn hno
      have hk7 := (hk6.drewN nq).turn hSA.turn hnk
      have hno7 := hSA.off hno hol6
      have hnk7 := hSA.off hnk hkl6
      clear hP6 hP7 har hSA hob6 hk6 hS6 e7 hD7 hS7 hkl6 hol6
      have c1 := hPA.blk.cell' (j := 1) rfl
      have k2 := hob7.cell' (j := 2) rfl
      have k5 := hob7.cell' (j := 5) rfl
      have k6 := hob7.cell' (j := 6) rfl
      have k7 := hob7.cell' (j := 7) rfl
      refine wp_region_dtail 6 (by kernel_rfl) (by kernel_rfl) ?_
      simp only [List.take_succ_cons, List.take_zero, List.drop_succ_cons, List.drop_zero]
      repeat (quiet_step (fail))
      refine wpQuiet_nil ?_
      rintro _ ⟨nq2, rfl⟩
      have hP8 := hPA.drewN nq2
      have hS8 : Step T w _ (w7.drewN nq2) := ⟨hS67.turn.drewN nq2, hS67.grow⟩
      have hob8 := hob7.drewN nq2
      have hk8 := hk7.drewN nq2
      have hbw := hS8.belowW HB.out HT.out
      generalize w7.drewN nq2 = w8 at *
      have hrr := RCrash_any _ R q S (.slice A ks.length c) ks torn at_ hP8.ref (fun w' ht => HK.out w' (hbw.1.trans ((ht.turn hP8.ref).below hbw.1.size (fun b hb => hbw.2 _ (hP8.tR _ hb))))) HO.out.r4
      unfold rfPtr fallV at hrr
      clear c1 k2 k5 k6 k7 hPA hS67 hob7 hk7
      go_wp2_with (first
        | (go_at_call 62; refine hrr.mono ?_; rintro e w9 ⟨⟨v9, rfl⟩, ⟨q9, e9, hR9⟩, hT9⟩)
        | fail)
      have hS9 : Step R w8 R w9 := ⟨hT9, fun b hb => .inl hb⟩
      obtain ⟨hPB, hSB⟩ := hP8.refStep hR9 e9 hS9
      have hob9 := hob8.turn hSB.turn hno7
      have hk9 := hk8.turn hSB.turn hnk7
      go_meet
      have hfs : fallS S ⟨kind, on, n, byte, .slice Dv data.length dc, data, .slice A ks.length c, ks, torn, at_⟩ = _ := if_neg HK4.out
      refine ⟨_, r7, q9, D, R, ?_, hS8.trans hSB, hSB.off hnk7 hk8.lt, hk9, hob9⟩
      rw [hfs]
      exact hPB
  case rest =>
    clear hob6 hfb6 hk6 hT6 hP6
    obtain ⟨T', r', q', D', R', hP, hS, hnT, hk, hob⟩ := hcut
    obtain ⟨wx, rfl⟩ : ∃ wx, wx = wc := ⟨_, rfl⟩
    have hbw := hS.belowW HB.out HT.out
    have HP := Lib.hid hP
    have HS := Lib.hid hS
    have HW := Lib.hid hbw
    have hkw : w.heap.size < kb := hzA
    clear hP hS hbw
    go_wp2_with fail
    go_loopw [7] (fun i wr => ∃ j : Nat, j ≤ ks.length + 2 ∧ i = .int .i64 (j : Int) ∧ OBlk wr kb 3 (ivs (rngI j ++ (ks ++ [-5, -5]).drop j)) ∧ OBlk wr w.heap.size 33 [.int .i64 kind, .int .i64 on, .int .i64 n, .int .u8 (byte.toNat : Int), .slice Dv data.length dc, .slice A ks.length c, .int .i64 torn, .int .i64 at_] ∧ Turn (fun b => b = kb) wx wr) (fun i _ => ks.length + 2 - (intOf i).toNat)
    case atStart => exact ⟨0, Nat.zero_le _, rfl, hk, hob, Turn.refl _ _⟩
    case round =>
      clear hk hob
      obtain ⟨j, hj, rfl, hk, hob, hT⟩ := hrel
      have hlen : (ks ++ [-5, -5] : List Int).length = ks.length + 2 := by simp
      by_cases hlt : j < ks.length + 2
      · have hjl : j < (ks ++ [-5, -5] : List Int).length := by omega
        have hst := rngI_set j _ hjl
        have hgt := rngI_get j _ hjl
        have hcell := hk.cell' hgt
        have hfz := hk.frozen (j := j) (by rw [ivs_length]; simp [rngI]; omega)
        have k5 := hob.cell' (j := 5) rfl
        have ij : (j : Int) < (ks.length : Int) + 2 := by omega
        have HST := Lib.hid hst
        have hbl : Below W.heap.size W wr := HW.out.1.trans (hT.below HW.out.1.size (fun b hb => by have : b = kb := hb; omega))
        have hkr := HK.out wr hbl
        have hTn := hT.setCell ⟨kb, j, none⟩ (.int .i64 (j : Int)) (.inl rfl)
        have hobn := hob.far (p := ⟨kb, j, none⟩) (show w.heap.size ≠ kb by omega) (.int .i64 (j : Int))
        have hkn := hk.set j (.int .i64 (j : Int))
        have HTN := Lib.hid hTn
        have HON := Lib.hid hobn
        have HKN := Lib.hid hkn
        by_cases hjk : j < ks.length
        · have hd1 : decide (j < ks.length) = true := decide_eq_true hjk
          have hd2 : decide (ks.length ≤ j) = false := decide_eq_false (by omega)
          have e1 : (ks ++ [-5, -5] : List Int)[j] = ks[j] := List.getElem_append_left hjk
          rw [e1] at hcell
          obtain ⟨_, A', c', hv', _, _, h3⟩ := hkr
          obtain ⟨ad, hA, hc2⟩ := h3 j (.int .i64 ks[j]) (by simp [ivs, hjk])
          injection hv' with hA' _ _
          have hAA : A = some ad := hA'.trans hA
          subst hAA
          generalize ks[j] = x at *
          clear e1 hst hgt hlen hbl hT hob hk hTn hobn hkn hA hA' h3
          go_upto_region 15 with (fail)
          go_quiet (fail)
          go_wp2_with fail
          exact ⟨⟨j + 1, by omega, by go_num, by rw [← HST.out]; exact HKN.out.drewN nq, HON.out.drewN nq, HTN.out.drewN nq⟩, by simp only [intOf, IntKind.wrap_i64]; omega⟩
        · have hd1 : decide (j < ks.length) = false := decide_eq_false hjk
          have hd2 : decide (ks.length ≤ j) = true := decide_eq_true (by omega)
          have e1 : (ks ++ [-5, -5] : List Int)[j] = -5 := by
            rw [List.getElem_append_right (by omega)]
            rcases (by omega : j - ks.length = 0 ∨ j - ks.length = 1) with h | h <;> simp [h]
          rw [e1] at hcell
          clear e1 hst hgt hlen hbl hT hob hk hTn hobn hkn hkr
          go_upto_region 15 with (fail)
          go_quiet (fail)
          go_wp2_with fail
          exact ⟨⟨j + 1, by omega, by go_num, by rw [← HST.out]; exact HKN.out.drewN nq, HON.out.drewN nq, HTN.out.drewN nq⟩, by simp only [intOf, IntKind.wrap_i64]; omega⟩
      · obtain rfl : j = ks.length + 2 := by omega
        have ij : ¬ ((ks.length + 2 : Nat) : Int) < (ks.length : Int) + 2 := by omega
        go_wp2_with fail
        go_ret
        refine ⟨rfl, T', r', q', D', R', HP.out.turn hT (fun b hb e => hnT (e ▸ hb)), HS.out.turn.trans hT (fun b e => by have : b = kb := e; right; omega), fun b hb => HS.out.grow b hb⟩
end Go.Proofs.Ytipjngoenklioaa

-- append(b, make([]byte, n)...) of bytes that the call owns.
namespace Go.Proofs.Ytipjngoenklioaa
open Go.RowKit
theorem zero_u8 (n : Nat) : Builtin.zeroCells (Value.int .u8 0).cells n = (bvs (List.replicate n 0)).toArray := by
  apply Array.ext
  · rw [size_zeroCells]; simp [bvs_length, Value.cells]
  · intro i h1 h2
    simp [Builtin.zeroCells, Value.cells, bvs, bv, Nat.mod_one]
theorem run_append_room_Z (w : World) (ty : TypeId) (g sLen sCap n : Nat) (h0 : ¬ n = 0) (hroom : sLen + n ≤ sCap) (h48 : n ≤ 140737488355328) (hc : ∀ j, j < n → (w.cell? ⟨g, sLen + j, none⟩).isSome = true) (hf : ∀ j, j < n → w.frozen? ⟨g, sLen + j, none⟩ = false) :
    (Builtin.append_ #[28, 3] ty #[.slice (some ⟨g, 0, none⟩) sLen sCap, .int .i64 (n : Int)]).run Try.prog w = .ok (.slice (some ⟨g, 0, none⟩) (sLen + n) sCap) (w.setCells g sLen (bvs (List.replicate n 0))) := by
  obtain ⟨i, hi, hz0, hz1, hz2⟩ := info_parts u8_info
  have hw : IntKind.i64.wrap (n : Int) = n := by rw [IntKind.wrap_i64]; omega
  have hneg : ¬ ((n : Int) < 0) := by omega
  have h48i : ¬ (281474976710656 < (n : Int)) := by omega
  have hst := run_storeCells_cells (P := Try.prog) g sLen (bvs (List.replicate n 0)) 0 w (fun j hj => by have := hc j (by rw [bvs_length] at hj; simpa using hj); simpa using this) (fun j hj => by have := hf j (by rw [bvs_length] at hj; simpa using hj); simpa using this) (bvs_one _)
  simp only [Nat.add_zero] at hst
  have hz := zero_u8 n
  simp [Builtin.append_, run_underlying Try.underlying28, run_underlying Try.underlying3, sizeOf, typeInfo, zeroValue, hi, hz0, hz1, hz2, asInt, asIntOf, hw, hneg, h48i, hroom, Addr.add_lit, h0]
  rw [hz]
  simp [hst]
theorem run_append_grow_Z (w : World) (ty : TypeId) (base : Option Addr) (sLen sCap n : Nat) (olds : List Value) (hold : (Builtin.firstCells 1 sLen (.slice base sLen sCap)).run Try.prog w.drew = .ok olds.toArray w.drew) (h0 : ¬ n = 0) (hg : sCap < sLen + n) (h48 : sLen + n ≤ 140737488355328) :
    (Builtin.append_ #[28, 3] ty #[.slice base sLen sCap, .int .i64 (n : Int)]).run Try.prog w =
      .ok (.slice (some ⟨w.heap.size, 0, none⟩) (sLen + n) (grownCap w (sLen + n) sCap 5)) (w.drew.alloc (.cells ((olds ++ bvs (List.replicate n 0)).toArray ++ Builtin.zeroCells (Value.int .u8 0).cells (grownCap w (sLen + n) sCap 5 - (sLen + n))) 5)) := by
  obtain ⟨i, hi, hz0, hz1, hz2⟩ := info_parts u8_info
  have hw : IntKind.i64.wrap (n : Int) = n := by rw [IntKind.wrap_i64]; omega
  have hneg : ¬ ((n : Int) < 0) := by omega
  have h48i : ¬ (281474976710656 < (n : Int)) := by omega
  have hn : ¬ (sLen + n ≤ sCap) := by omega
  have h63' : ¬ (9223372036854775807 < ((sLen : Int) + (n : Int))) := by omega
  have hfit : Builtin.nextslicecap (sLen + n) sCap * 1 ≤ 281474976710656 := growslice_fits (by omega) (by omega)
  have h48' : ¬ (281474976710656 < Builtin.nextslicecap (sLen + n) sCap) := by omega
  have hz := zero_u8 n
  simp [Builtin.append_, run_underlying Try.underlying28, run_underlying Try.underlying3, sizeOf, typeInfo, zeroValue, hi, hz0, hz1, hz2, asInt, asIntOf, hw, hneg, h48i, hn, h63', h48', Question.forced, hold, newRow, grownCap, h0]
  rw [hz]
  congr 2
  apply Array.ext'
  simp [List.append_assoc]
section laws
variable {w : World} {ops : Array Oper} {rest : List Oper} {o : Oper} {a : Act} {Q : Exit → Act → World → Prop}
/-- append(l, make([]byte, n)...), n at least one. -/
theorem wp_append_Z (hgd : o.guard = none) (s x : Operand)
    (ho : o.op = .call { callee := .builtin .append, args := #[s, x], argTypes := #[28, 3] })
    (base : Nat) (v : Value) (l : List UInt8) (hs : a.eval s = v) (hown : OwB w base v l) (n : Nat) (h0 : ¬ n = 0) (X : Int) (hX : X = (n : Int)) (hx : a.eval x = .int .i64 X) (hsm : l.length + n ≤ 140737488355328) (hbase : base ≤ w.heap.size)
    (h : ∀ v' w', OwB w' base v' (l ++ List.replicate n 0) → w.grownBy w' v.ownBlock → (v'.ownBlock = v.ownBlock ∨ v'.ownBlock = some w.heap.size) → wpList Try.prog ops Q rest (a.put o.dst v') w') :
    wpList Try.prog ops Q (o :: rest) a w := by
  subst hX
  have hlen : (l ++ List.replicate n (0 : UInt8)).length = l.length + n := by simp
  have hcells : bvs (l ++ List.replicate n 0) = bvs l ++ bvs (List.replicate n 0) := bvs_append _ _
  have grown : ∀ (old : Nat), old < l.length + n → ∀ (row : Option Nat),
      OwB (w.drew.alloc (.cells ((bvs l ++ bvs (List.replicate n 0)).toArray ++ Builtin.zeroCells (Value.int .u8 0).cells (grownCap w (l.length + n) old 5 - (l.length + n))) 5)) base
        (.slice (some ⟨w.heap.size, 0, none⟩) (l.length + n) (grownCap w (l.length + n) old 5)) (l ++ List.replicate n 0) ∧
      w.grownBy (w.drew.alloc (.cells ((bvs l ++ bvs (List.replicate n 0)).toArray ++ Builtin.zeroCells (Value.int .u8 0).cells (grownCap w (l.length + n) old 5 - (l.length + n))) 5)) row := by
    intro old ho row
    have hge := grownCap_ge w (l.length + n) old 5
    have hcm : grownCap w (l.length + n) old 5 ≤ maxLen := grownCap_le_maxLen w (l.length + n) old 5 (by simp only [maxLen]; omega)
    refine ⟨?_, ⟨rfl, rfl, rfl, by simp, fun k hk _ => heap_alloc_old w.drew _ hk⟩⟩
    unfold OwB
    rw [hlen]
    refine ⟨by rw [bvs_length, hlen]; omega, .inr ⟨w.heap.size, _, _, rfl, hbase, OBlk.new w.drew 5 _, hge, hcm, ?_, ?_⟩⟩
    · simp only [Array.toList_append, List.length_append, Array.length_toList, size_zeroCells]
      simp only [List.size_toArray, List.length_append, bvs_length, List.length_replicate, Value.cells]
      simp
      omega
    · simp only [Array.toList_append]
      rw [← hcells, Nat.mul_one, ← hlen, ← bvs_length (l ++ List.replicate n 0)]
      exact List.take_left
  rcases hown.2 with ⟨rfl, h00⟩ | ⟨g, cap, cs, rfl, hbg, hg, hnc, hcm, hcs, htake⟩
  · have hl : l = [] := List.eq_nil_of_length_eq_zero h00
    subst hl
    have hr := run_append_grow_Z w o.type none 0 0 n [] (by simp [Builtin.firstCells]) h0 (by omega) (by simpa using hsm)
    have hgr := grown 0 (by simp; omega) (Value.ownBlock (.slice none 0 0))
    exact Lib.wpList_append_run w hgd s x _ _ ho _ _ hs hx _ _ hr (h _ _ (by simpa [bvs] using hgr.1) (by simpa [bvs] using hgr.2) (.inr rfl))
  · rw [Nat.mul_one] at hcs htake
    by_cases hroom : l.length + n ≤ cap
    · have hle : l.length + (bvs (List.replicate n 0)).length ≤ cs.length := by rw [bvs_length, List.length_replicate]; omega
      have hr := run_append_room_Z w o.type g l.length cap n h0 hroom (by omega) (fun j hj => by rw [hg.cell]; simp; omega) (fun j hj => hg.frozen (by omega))
      refine Lib.wpList_append_run w hgd s x _ _ ho _ _ hs hx _ _ hr (h _ _ ?_ (grownBy_setCells _ _ _ _) (.inl rfl))
      unfold OwB
      rw [hlen]
      refine ⟨by rw [bvs_length, hlen]; omega, .inr ⟨g, cap, _, rfl, hbg, OBlk.setCells _ _ w cs hg hle, hroom, hcm, ?_, ?_⟩⟩
      · rw [length_splice _ _ _ hle]; omega
      · have hb : (bvs (List.replicate n (0 : UInt8))).length = n := by rw [bvs_length, List.length_replicate]
        have e := splice_take cs l.length (bvs (List.replicate n 0)) (by omega)
        rw [hb] at e
        rw [Nat.mul_one, e, hcells, htake]
    · have holds : (Builtin.firstCells 1 l.length (.slice (some ⟨g, 0, none⟩) l.length cap)).run Try.prog w.drew = .ok (bvs l).toArray w.drew :=
        run_firstCells_some w.drew 1 l.length ⟨g, 0, none⟩ l.length cap (bvs l) (by rw [bvs_length]; omega) (fun j u hj => by rw [add_row]; simpa using Own.cells hown j u hj)
      have hr := run_append_grow_Z w o.type (some ⟨g, 0, none⟩) l.length cap n (bvs l) holds h0 (by omega) hsm
      have hgr := grown cap (by omega) (Value.ownBlock (.slice (some ⟨g, 0, none⟩) l.length cap))
      exact Lib.wpList_append_run w hgd s x _ _ ho _ _ hs hx _ _ hr (h _ _ hgr.1 hgr.2 (.inr rfl))
end laws
end Go.Proofs.Ytipjngoenklioaa

-- espalierlaw03.page, awake: walks.
namespace Go.Proofs.Ytipjngoenklioaa
open Go.RowKit
theorem repl_set (n k : Nat) (c : UInt8) (h : k < n) : (List.replicate k c ++ List.replicate (n - k) (0 : UInt8)).set k c = List.replicate (k + 1) c ++ List.replicate (n - (k + 1)) 0 := by
  apply List.ext_getElem?
  intro i
  rw [List.getElem?_set]
  simp only [List.length_append, List.length_replicate, List.getElem?_append, List.getElem?_replicate]
  by_cases h1 : k = i
  · subst h1
    simp; omega
  · by_cases h2 : i < k
    · simp [h1, h2, show i < k + 1 by omega]
    · simp only [h1, h2, if_false, show ¬ i < k + 1 by omega]
      congr 1
      simp; omega
set_option maxRecDepth 20000 in
set_option maxHeartbeats 1000000 in
theorem page_any (n : Nat) (c : UInt8) (hn : n ≤ 65536) (w : World) : Calls Try.prog 10 #[.int .i64 (n : Int), .int .u8 (c.toNat : Int)] w fun e w' => ∃ g, e = .returned (.slice (some ⟨g, 0, none⟩) n n) ∧ OwB w' w.heap.size (.slice (some ⟨g, 0, none⟩) n n) (List.replicate n c) ∧ Below w.heap.size w w' := by
  go_enter Try.func10, Try.ntmps10
  go_wp2_with (first
    | (at_make; refine wp_make_B rfl (.tmp 7) (.tmp 7) rfl _ n rfl rfl (by go_num) (by omega) ?_; intro w1 hb1 hw1 hs1)
    | fail)
  go_loopw [6] (fun i wr => ∃ k : Nat, k ≤ n ∧ i = .int .i64 (k : Int) ∧ OBlk wr w.heap.size 5 (bvs (List.replicate k c ++ List.replicate (n - k) 0)) ∧ Below w.heap.size w wr) (fun i _ => n - (intOf i).toNat)
  case atStart => exact ⟨0, Nat.zero_le _, rfl, by simpa using hb1, hw1⟩
  case round =>
    clear hb1 hw1
    obtain ⟨k, hk, rfl, hb, hw⟩ := hrel
    by_cases hlt : k < n
    · have ik : (k : Int) < (n : Int) := by omega
      have hlen : (List.replicate k c ++ List.replicate (n - k) (0 : UInt8)).length = n := by simp; omega
      have hc := hb.cell' (bvs_get' _ k (by omega))
      have hf := hb.frozen (j := k) (by rw [bvs_length]; omega)
      have hset := (hb.set k (.int .u8 (c.toNat : Int)))
      rw [← bvs_set, repl_set n k c hlt] at hset
      go_wp2_with fail
      go_roundw
      case rel => exact ⟨k + 1, by omega, by go_num, hset, hw.setCell (Nat.le_refl _) _⟩
      case measure => simp [intOf]; omega
    · obtain rfl : k = n := by omega
      go_wp2_with fail
      go_ret
      rw [Nat.sub_self, List.replicate_zero, List.append_nil] at hb
      have := hb.owB' (base := w.heap.size) (Nat.le_refl _) (by simp only [List.length_replicate, maxLen]; omega)
      rw [List.length_replicate] at this
      exact ⟨_, rfl, this, hw⟩
end Go.Proofs.Ytipjngoenklioaa

-- espalierlaw03.awake: the walk.
namespace Go.Proofs.Ytipjngoenklioaa
open Go.RowKit
def b7 : List UInt8 := List.replicate 512 7
def b2 : List UInt8 := List.replicate 512 2
def A0 : PS := S0 512 4
def A1 : PS := A0.write 2 b7
def A2 : PS := A1.red.sync
def A3 : PS := A2.write 3 b2
def A4 : PS := A3.crash [] 0 2
def A5 : PS := { A4 with down := false }
theorem dev4 : devB (512 : Nat) (4 : Nat) = true := by decide
theorem dev3 : devB 512 3 = false := by decide
theorem A1_eq : A1 = A0.wrote 2 b7 := rfl
theorem A2_eq : A2 = A1.red.synced := rfl
theorem A3_eq : A3 = A2.wrote 3 b2 := rfl
theorem A4_eq : A4 = A3.fell [] 0 2 := rfl
theorem A1_read : readPg A1.wild A1.pg 2 = some b7 := rfl
theorem A5_read : readPg A5.wild A5.pg 3 = some ([2, 2] ++ List.replicate 510 0) := by
  show some _ = some _
  rfl
theorem OffA_new {w : World} {F : Nat → Prop} {r : Raw} {S : PS} {v : Value} {l : List UInt8} (h : PlRaw w F r S) {w' : World} (ho : OwB w' w.heap.size v l) : OffA F v := by
  intro A n c e hf
  have h1 := h.lt _ hf
  rcases ho.form with ⟨rfl, _⟩ | ⟨g, cap, rfl, hg, _⟩
  · cases e
  · injection e with hA
    injection hA with hA
    subst hA
    simp only at h1
    omega
theorem Off.new {w w' : World} {F : Nat → Prop} {r : Raw} {S : PS} {v : Value} {l : List UInt8} {b : Nat} (h : PlRaw w F r S) (ho : OwB w' b v l) (hb : w.heap.size ≤ b) : Off F v := fun g hg hf => by
  have h1 := h.lt g hf
  have h2 := (Own.lt ho g hg).1
  omega
theorem OwB.below2 {w w' : World} {b : Nat} {v : Value} {l : List UInt8} (h : OwB w b v l) (hb : Below w.heap.size w w') : OwB w' b v l := Own.below' h hb (Nat.le_refl _)
set_option maxRecDepth 100000 in
set_option maxHeartbeats 8000000 in
theorem awake_any (w : World) : Calls Try.prog 7 #[] w fun e w' => e = .returned (.bool true) ∧ Below w.heap.size w w' := by
  have n512 := page_any 512
  go_enter Try.func7, Try.ntmps7
  go_wp2_with fail
  refine (New_ok 512 4 dev4 _).mono ?_
  rintro e w1 ⟨r1, F1, rfl, hP1, hF1, hB1⟩
  unfold plPtr
  go_wp2_with (first
    | (go_at_call 8; refine (New_bad 512 3 (by omega) dev3 _).mono ?_; rintro e w2 ⟨rfl, rfl⟩)
    | fail)
  refine (page_any 512 7 (by omega) _).mono ?_
  rintro e w2 ⟨g2, rfl, ho2, hb2⟩
  go_wp2_with fail
  refine (Write_ok w2 F1 r1 A0 2 _ b7 (hP1.below hb2) rfl (by decide) ho2.rd (OffA_new hP1 ho2) rfl (by decide)).mono ?_
  rintro e w3 ⟨rfl, r3, F3, e3, _, hP3, hS3⟩
  have hB2 := hB1.trans (hb2.mono hB1.size)
  have hB3 := hB2.trans (hS3.turn.below hB2.size hF1)
  have hG3 : ∀ k, F3 k → w.heap.size ≤ k := fun k hk => (hS3.grow k hk).elim (hF1 k) (fun h => Nat.le_trans hB2.size h)
  rw [show WriteE A0 = 0 from rfl]
  clear hb2 ho2 hS3 hB1 hB2 hP1 hF1
  go_wp2_with fail
  have hrd := Read_ok w3 F3 r3 A1 2 b7 hP3 rfl (by decide) A1_read
  unfold plPtr at hrd
  rw [e3] at hrd
  refine hrd.mono ?_
  rintro e w4 ⟨g4, rfl, ho4, hP4, hT4, hO4⟩
  have q1 : A1.page = 512 := rfl
  rw [q1] at ho4 hO4 ⊢
  have hB4 := hB3.trans (hT4.below hB3.size hG3)
  clear hrd hP3 hT4 q1
  have hlo := Loose_any w4 F3 r3 A1.red hP4
  have hsy := Sync_any w4 F3 r3 A1.red hP4
  unfold plPtr at hlo hsy
  rw [e3] at hlo hsy
  rw [show A1.red.wild.length = 1 from rfl] at hlo
  rw [show SyncE A1.red = 0 from rfl] at hsy
  go_wp2_with (first
    | (go_at_call 17; refine hlo.mono ?_; rintro e w5 ⟨rfl, rfl⟩)
    | fail)
  refine hsy.mono ?_
  rintro e w5 ⟨rfl, r5, F5, e5, _, hP5, hS5⟩
  have ho5 := ho4.turn hS5.turn hO4
  have hO5 := ho4.off hS5 hO4
  have hB5 := hB4.trans (hS5.turn.below hB4.size hG3)
  have hG5 : ∀ k, F5 k → w.heap.size ≤ k := fun k hk => (hS5.grow k hk).elim (hG3 k) (fun h => Nat.le_trans hB4.size h)
  rw [e3] at e5
  clear hlo hsy hP4 ho4 hO4 hS5 hB4 hG3 e3
  go_wp2_with fail
  refine (page_any 512 2 (by omega) _).mono ?_
  rintro e w6 ⟨g6, rfl, ho6, hb6⟩
  have hwr := Write_ok w6 F5 r5 A2 3 _ b2 (hP5.below hb6) rfl (by decide) ho6.rd (OffA_new hP5 ho6) rfl (by decide)
  unfold plPtr at hwr
  rw [e5] at hwr
  go_wp2_with fail
  refine hwr.mono ?_
  rintro e w7 ⟨rfl, r7, F7, e7, _, hP7, hS7⟩
  have hB6 := hB5.trans (hb6.mono hB5.size)
  have hB7 := hB6.trans (hS7.turn.below hB6.size hG5)
  have hG7 : ∀ k, F7 k → w.heap.size ≤ k := fun k hk => (hS7.grow k hk).elim (hG5 k) (fun h => Nat.le_trans hB6.size h)
  have ho7 := (ho5.below2 hb6).turn hS7.turn hO5
  have hO7 := (ho5.below2 hb6).off hS7 hO5
  rw [show WriteE A2 = 0 from rfl]
  rw [e5] at e7
  clear hwr hP5 ho5 hO5 hS7 hB5 hB6 hG5 e5 ho6 hb6
  go_wp2_with fail
  refine (page_any 512 2 (by omega) _).mono ?_
  rintro e w8 ⟨g8, rfl, ho8, hb8⟩
  have hwr := Write_ref w8 F7 r7 A3 4 (.slice (some ⟨g8, 0, none⟩) 512 512) (hP7.below hb8) (by decide)
  unfold plPtr at hwr
  rw [e7, show A3.ref 4 = 30 from rfl] at hwr
  go_wp2_with fail
  refine hwr.mono ?_
  rintro e w9 ⟨rfl, hb9⟩
  have hP9 := (hP7.below hb8).below hb9
  have ho9 := (ho7.below2 hb8).below2 hb9
  have hB8 := hB7.trans (hb8.mono hB7.size)
  have hB9 := hB8.trans (hb9.mono hB8.size)
  have hcr := Crash_any w9 F7 r7 A3 (.slice none 0 0) [] 0 2 hP9 (RdI.nil _) (fun A n c e => by cases e) (by omega)
  unfold plPtr fallV at hcr
  rw [e7] at hcr
  clear hwr hP7 ho7 hB7 hB8 ho8 hb8 hb9
  go_wp2_with fail
  refine hcr.mono ?_
  rintro e w10 ⟨⟨v10, rfl⟩, ⟨r10, e10, hP10⟩, hT10⟩
  have ho10 := ho9.turn hT10 hO7
  have hB10 := hB9.trans (hT10.below hB9.size hG7)
  rw [e7] at e10
  have hup := Up_any w10 F7 r10 A4 hP10
  have hr2 := Read_bad w10 F7 r10 A4 2 hP10 (by decide)
  unfold plPtr at hup hr2
  rw [e10] at hup hr2
  clear hcr hP9 ho9 hB9 hT10 e7
  go_wp2_with (first
    | (go_at_call 14; refine hup.mono ?_; rintro e w11 ⟨rfl, rfl⟩)
    | fail)
  refine hr2.mono ?_
  rintro e w11 ⟨rfl, hP11, hb11⟩
  rw [show A4.ref 2 = 3 from rfl]
  have hst := Start_any w11 F7 r10 A4 hP11
  unfold plPtr at hst
  rw [e10] at hst
  go_wp2_with fail
  refine hst.mono ?_
  rintro e w12 ⟨⟨v12, rfl⟩, hP12, hg12⟩
  have hB11 := hB10.trans (hb11.mono hB10.size)
  have hT12 : Turn F7 w11 w12 := Turn.of_grown hg12 (fun k e => by cases e; rw [← e10]; exact hP11.fp)
  have hB12 := hB11.trans (hT12.below hB11.size hG7)
  have ho12 := (ho10.below2 hb11).turn hT12 hO7
  have hr3 := Read_ok w12 F7 r10 A5 3 ([2, 2] ++ List.replicate 510 0) hP12 rfl (by decide) A5_read
  unfold plPtr at hr3
  rw [e10] at hr3
  clear hup hr2 hP10 hP11 hst hg12 hB10 hb11 hB11 ho10
  go_wp2_with fail
  refine hr3.mono ?_
  rintro e w13 ⟨g13, rfl, ho13, hP13, hT13, hO13⟩
  have q1 : A5.page = 512 := rfl
  rw [q1] at ho13 hO13 ⊢
  have hB13 := hB12.trans (hT13.below hB12.size hG7)
  have hb7 := ho12.turn hT13 hO7
  clear hr3 hP12 hT13 hT12 q1 ho12 hB12
  go_wp2_with fail
  obtain ⟨X, hX⟩ : ∃ X, X = b7 := ⟨_, rfl⟩
  obtain ⟨Z, hZ⟩ : ∃ Z, Z = List.replicate 510 (0 : UInt8) := ⟨_, rfl⟩
  obtain ⟨Y, hY⟩ : ∃ Y, Y = [2, 2] ++ Z := ⟨_, rfl⟩
  rw [← hZ, ← hY] at ho13
  rw [← hX] at hb7
  have HX := Lib.hid hX
  have HZ := Lib.hid hZ
  have HY := Lib.hid hY
  have h13s := ho13.rd
  have h7s := hb7.rd
  have HR7 := Lib.hid h7s.drew
  have HR13 := Lib.hid h13s.drew
  have q7 := run_B_string (w := w13.drew) h7s
  have q13 := run_B_string (w := w13.drew) h13s
  have HP13 := Lib.hid hP13.drew
  clear ho13 hO13 hb7 hO7 n512 h13s h7s hX hZ hY hP13
  refine wp_region_held_drew (S := fun w' => (convert 28 9 (.slice (some ⟨g4, 0, none⟩) 512 512)).run Try.prog w' = .ok (.string ⟨X.toArray⟩) w' ∧ (convert 28 9 (.slice (some ⟨g13, 0, none⟩) 512 512)).run Try.prog w' = .ok (.string ⟨Y.toArray⟩) w') (by kernel_rfl) ⟨q7, q13⟩ (fun hHeld => ?_)
  refine wpAnyH_take (i := 0) (oi := ⟨some 87, _, _, _, _, _⟩) (v := ?v0) rfl (by kernel_rfl) (by kernel_rfl) (by kernel_rfl) (fun _ _ _ h => h) (Or.inl ⟨by rfl, ?y0⟩) (by assumption) ?r0
  case y0 => (intro w hSw; (try dsimp only at hSw); go_simp; first | done | with_reducible rfl)
  (try simp only [Act.put, List.setIfInBounds_toArray, List.set_cons_zero, List.set_cons_succ])
  refine wpAnyH_take (i := 1) (oi := ⟨some 88, _, _, _, _, _⟩) (v := ?v1) rfl (by kernel_rfl) (by kernel_rfl) (by kernel_rfl) (fun _ _ _ h => h) (Or.inl ⟨by rfl, ?y1⟩) (by assumption) ?r1
  case y1 => (intro w hSw; (try dsimp only at hSw); go_simp; first | done | with_reducible rfl)
  (try simp only [Act.put, List.setIfInBounds_toArray, List.set_cons_zero, List.set_cons_succ])
  refine wpAnyH_ready (rs := [2]) (by kernel_rfl) (by simp) ?_
  refine AllReadyH.cons (i := 2) (o := ⟨some 89, _, _, _, _, _⟩) rfl (fun K hK => ?_) ?m2
  go_simp
  (go_at_call 10; refine (page_any 512 7 (by omega) _).mono ?_; rintro e w14 ⟨g14, rfl, ho14, hb14⟩)
  have HR7b := Lib.hid (HR7.out.below hb14 (Nat.le_refl _))
  have HR13b := Lib.hid (HR13.out.below hb14 (Nat.le_refl _))
  have HP14 := Lib.hid (HP13.out.below hb14)
  have HB14 := Lib.hid (hB13.drew.trans (hb14.mono hB13.size))
  have q14 := run_B_string (l := X) (by rw [HX.out]; exact ho14.rd)
  refine hK.out _ _ ⟨run_B_string HR7b.out, run_B_string HR13b.out⟩ (fun hHeld => ?_)
  clear hK K
  (try simp only [Act.put, List.setIfInBounds_toArray, List.set_cons_zero, List.set_cons_succ])
  refine wpAnyH_ready (rs := [3]) (by kernel_rfl) (by simp) ?_
  refine AllReadyH.cons (i := 3) (o := ⟨some 90, _, _, _, _, _⟩) rfl (fun K hK => ?_) ?m3
  go_simp
  refine hK.out _ _ ⟨run_B_string HR7b.out, run_B_string HR13b.out⟩ (fun hHeld => ?_)
  clear hK K
  (try simp only [Act.put, List.setIfInBounds_toArray, List.set_cons_zero, List.set_cons_succ])
  refine wpAnyH_take (i := 4) (oi := ⟨some 91, _, _, _, _, _⟩) (v := ?v4) rfl (by kernel_rfl) (by kernel_rfl) (by kernel_rfl) (fun _ _ _ h => h) (Or.inl ⟨by rfl, ?y4⟩) (by assumption) ?r4
  case y4 => (intro w hSw; (try dsimp only at hSw); go_simp; first | done | with_reducible rfl)
  (try simp only [Act.put, List.setIfInBounds_toArray, List.set_cons_zero, List.set_cons_succ])
  refine wpAnyH_take (i := 5) (oi := ⟨some 92, _, _, _, _, _⟩) (v := ?v5) rfl (by kernel_rfl) (by kernel_rfl) (by kernel_rfl) (fun _ _ _ h => h) (Or.inl ⟨by rfl, ?y5⟩) (by assumption) ?r5
  case y5 => (intro w hSw; (try dsimp only at hSw); go_simp; first | done | with_reducible rfl)
  (try simp only [Act.put, List.setIfInBounds_toArray, List.set_cons_zero, List.set_cons_succ])
  refine wpAnyH_take (i := 6) (oi := ⟨some 93, _, _, _, _, _⟩) (v := ?v6) rfl (by kernel_rfl) (by kernel_rfl) (by kernel_rfl) (fun _ _ _ h => h) (Or.inl ⟨by rfl, ?y6⟩) (by assumption) ?r6
  case y6 => (intro w hSw; (try dsimp only at hSw); go_simp; first | done | with_reducible rfl)
  (try simp only [Act.put, List.setIfInBounds_toArray, List.set_cons_zero, List.set_cons_succ])
  refine wpAnyH_take (i := 7) (oi := ⟨some 94, _, _, _, _, _⟩) (v := ?v7) rfl (by kernel_rfl) (by kernel_rfl) (by kernel_rfl) (fun _ _ _ h => h) (Or.inl ⟨by rfl, ?y7⟩) (by assumption) ?r7
  case y7 => (intro w hSw; (try dsimp only at hSw); go_simp; first | done | with_reducible rfl)
  (try simp only [Act.put, List.setIfInBounds_toArray, List.set_cons_zero, List.set_cons_succ])
  refine wpAnyH_take (i := 8) (oi := ⟨some 95, _, _, _, _, _⟩) (v := ?v8) rfl (by kernel_rfl) (by kernel_rfl) (by kernel_rfl) (fun _ _ _ h => h) (Or.inl ⟨by rfl, ?y8⟩) (by assumption) ?r8
  case y8 => (intro w hSw; (try dsimp only at hSw); go_simp; first | done | with_reducible rfl)
  (try simp only [Act.put, List.setIfInBounds_toArray, List.set_cons_zero, List.set_cons_succ])
  refine wpAnyH_take (i := 9) (oi := ⟨some 96, _, _, _, _, _⟩) (v := ?v9) rfl (by kernel_rfl) (by kernel_rfl) (by kernel_rfl) (fun _ _ _ h => h) (Or.inl ⟨by rfl, ?y9⟩) (by assumption) ?r9
  case y9 => (intro w hSw; (try dsimp only at hSw); go_simp; first | done | with_reducible rfl)
  (try simp only [Act.put, List.setIfInBounds_toArray, List.set_cons_zero, List.set_cons_succ])
  refine wpAnyH_take (i := 10) (oi := ⟨some 97, _, _, _, _, _⟩) (v := ?v10) rfl (by kernel_rfl) (by kernel_rfl) (by kernel_rfl) (fun _ _ _ h => h) (Or.inl ⟨by rfl, ?y10⟩) (by assumption) ?r10
  case y10 => (intro w hSw; (try dsimp only at hSw); go_simp; first | done | with_reducible rfl)
  (try simp only [Act.put, List.setIfInBounds_toArray, List.set_cons_zero, List.set_cons_succ])
  refine wpAnyH_take (i := 11) (oi := ⟨some 98, _, _, _, _, _⟩) (v := ?v11) rfl (by kernel_rfl) (by kernel_rfl) (by kernel_rfl) (fun _ _ _ h => h) (Or.inl ⟨by rfl, ?y11⟩) (by assumption) ?r11
  case y11 => (intro w hSw; (try dsimp only at hSw); go_simp; first | done | with_reducible rfl)
  (try simp only [Act.put, List.setIfInBounds_toArray, List.set_cons_zero, List.set_cons_succ])
  refine wpAnyH_ready (rs := [12, 13]) (by kernel_rfl) (by simp) ?_
  refine AllReadyH.cons (i := 12) (o := ⟨some 99, _, _, _, _, _⟩) rfl (fun K hK => ?_) ?mA
  go_simp
  refine hK.out _ _ ⟨run_B_string (HR7b.out.alloc _), run_B_string (HR13b.out.alloc _)⟩ (fun hHeld => ?_)
  clear hK K
  (try simp only [Act.put, List.setIfInBounds_toArray, List.set_cons_zero, List.set_cons_succ])
  refine wpAnyH_ready (rs := [13]) (by kernel_rfl) (by simp) ?_
  refine AllReadyH.cons (i := 13) (o := ⟨some 100, _, _, _, _, _⟩) rfl (fun K hK => ?_) ?mB
  go_simp
  (go_at_call 10; refine (page_any 510 0 (by omega) _).mono ?_; rintro e w15 ⟨g15, rfl, ho15, hb15⟩)
  have hb15b : Below w14.heap.size w14 w15 := ((Below.refl w14.heap.size w14).alloc (Nat.le_refl _) _).trans (hb15.mono (by simp))
  have hn15 : OwB w15 w14.heap.size (.slice (some ⟨w14.heap.size, 0, none⟩) 2 2) [2, 2] := ((OBlk.new' w14 5 (bvs [2, 2])).owB' (Nat.le_refl _) (by decide)).below2 hb15
  refine hK.out _ _ ⟨run_B_string (HR7b.out.below hb15b (Nat.le_refl _)), run_B_string (HR13b.out.below hb15b (Nat.le_refl _))⟩ (fun hHeld => ?_)
  clear hK K
  (try simp only [Act.put, List.setIfInBounds_toArray, List.set_cons_zero, List.set_cons_succ])
  refine wpAnyH_ready (rs := [14]) (by kernel_rfl) (by simp) ?_
  refine AllReadyH.cons (i := 14) (o := ⟨some 101, _, _, _, _, _⟩) rfl (fun K hK => ?_) ?mE12
  refine step_append_B_w (.tmp 99) (.tmp 100) rfl rfl w14.heap.size _ [2, 2] rfl hn15 _ Z rfl (by rw [HZ.out]; exact ho15.rd) (by rw [HZ.out]; decide) hb15b.size ?_
  intro v16 w16 ho16 hg16 hk16
  have hb16 : Below w14.heap.size w14 w16 := hb15b.grown hg16 hb15b.size (fun k hk => (Own.lt hn15 k hk).1)
  have HP16 := HP14.out.below hb16
  have HB16 := HB14.out.trans (hb16.mono HB14.out.size)
  have q16 := run_B_string (l := Y) (by rw [HY.out]; exact ho16.rd)
  have hpg := Page_any w16 F7 r10 A5.red HP16
  have hpn := Pages_any w16 F7 r10 A5.red HP16
  unfold plPtr at hpg hpn
  rw [e10] at hpg hpn
  rw [show ((A5.red.page : Nat) : Int) = 512 from rfl] at hpg
  rw [show ((A5.red.np : Nat) : Int) = 4 from rfl] at hpn
  clear ho16 hg16 hk16
  refine hK.out _ _ ⟨run_B_string (HR7b.out.below hb16 (Nat.le_refl _)), run_B_string (HR13b.out.below hb16 (Nat.le_refl _))⟩ (fun hHeld => ?_)
  clear hK K
  (try simp only [Act.put, List.setIfInBounds_toArray, List.set_cons_zero, List.set_cons_succ])
  refine wpAnyH_ready (rs := [15]) (by kernel_rfl) (by simp) ?_
  refine AllReadyH.cons (i := 15) (o := ⟨some 102, _, _, _, _, _⟩) rfl (fun K hK => ?_) ?mF12
  go_simp
  refine hK.out _ _ ⟨run_B_string (HR7b.out.below hb16 (Nat.le_refl _)), run_B_string (HR13b.out.below hb16 (Nat.le_refl _))⟩ (fun hHeld => ?_)
  clear hK K
  (try simp only [Act.put, List.setIfInBounds_toArray, List.set_cons_zero, List.set_cons_succ])
  refine wpAnyH_take (i := 16) (oi := ⟨some 103, _, _, _, _, _⟩) (v := ?v16_12) rfl (by kernel_rfl) (by kernel_rfl) (by kernel_rfl) (fun _ _ _ h => h) (Or.inl ⟨by rfl, ?y16_12⟩) (by assumption) ?r16_12
  case y16_12 => (intro w hSw; (try dsimp only at hSw); go_simp; first | done | with_reducible rfl)
  (try simp only [Act.put, List.setIfInBounds_toArray, List.set_cons_zero, List.set_cons_succ])
  refine wpAnyH_take (i := 17) (oi := ⟨some 104, _, _, _, _, _⟩) (v := ?v17_12) rfl (by kernel_rfl) (by kernel_rfl) (by kernel_rfl) (fun _ _ _ h => h) (Or.inl ⟨by rfl, ?y17_12⟩) (by assumption) ?r17_12
  case y17_12 => (intro w hSw; (try dsimp only at hSw); go_simp; first | done | with_reducible rfl)
  (try simp only [Act.put, List.setIfInBounds_toArray, List.set_cons_zero, List.set_cons_succ])
  refine wpAnyH_take (i := 18) (oi := ⟨some 105, _, _, _, _, _⟩) (v := ?v18_12) rfl (by kernel_rfl) (by kernel_rfl) (by kernel_rfl) (fun _ _ _ h => h) (Or.inl ⟨by rfl, ?y18_12⟩) (by assumption) ?r18_12
  case y18_12 => (intro w hSw; (try dsimp only at hSw); go_simp; first | done | with_reducible rfl)
  (try simp only [Act.put, List.setIfInBounds_toArray, List.set_cons_zero, List.set_cons_succ])
  refine wpAnyH_take (i := 19) (oi := ⟨some 106, _, _, _, _, _⟩) (v := ?v19_12) rfl (by kernel_rfl) (by kernel_rfl) (by kernel_rfl) (fun _ _ _ h => h) (Or.inl ⟨by rfl, ?y19_12⟩) (by assumption) ?r19_12
  case y19_12 => (intro w hSw; (try dsimp only at hSw); go_simp; first | done | with_reducible rfl)
  (try simp only [Act.put, List.setIfInBounds_toArray, List.set_cons_zero, List.set_cons_succ])
  refine wpAnyH_ready (rs := [20]) (by kernel_rfl) (by simp) ?_
  refine AllReadyH.cons (i := 20) (o := ⟨some 107, _, _, _, _, _⟩) rfl (fun K hK => ?_) ?mG12
  go_simp
  (go_at_call 19; refine hpg.mono ?_; rintro e w17 ⟨rfl, rfl⟩)
  refine hK.out _ _ ⟨run_B_string (HR7b.out.below hb16 (Nat.le_refl _)), run_B_string (HR13b.out.below hb16 (Nat.le_refl _))⟩ (fun hHeld => ?_)
  clear hK K
  (try simp only [Act.put, List.setIfInBounds_toArray, List.set_cons_zero, List.set_cons_succ])
  refine wpAnyH_take (i := 21) (oi := ⟨some 108, _, _, _, _, _⟩) (v := ?v21_12) rfl (by kernel_rfl) (by kernel_rfl) (by kernel_rfl) (fun _ _ _ h => h) (Or.inl ⟨by rfl, ?y21_12⟩) (by assumption) ?r21_12
  case y21_12 => (intro w hSw; (try dsimp only at hSw); go_simp; first | done | with_reducible rfl)
  (try simp only [Act.put, List.setIfInBounds_toArray, List.set_cons_zero, List.set_cons_succ])
  refine wpAnyH_take (i := 22) (oi := ⟨some 109, _, _, _, _, _⟩) (v := ?v22_12) rfl (by kernel_rfl) (by kernel_rfl) (by kernel_rfl) (fun _ _ _ h => h) (Or.inl ⟨by rfl, ?y22_12⟩) (by assumption) ?r22_12
  case y22_12 => (intro w hSw; (try dsimp only at hSw); go_simp; first | done | with_reducible rfl)
  (try simp only [Act.put, List.setIfInBounds_toArray, List.set_cons_zero, List.set_cons_succ])
  refine wpAnyH_take (i := 23) (oi := ⟨some 110, _, _, _, _, _⟩) (v := ?v23_12) rfl (by kernel_rfl) (by kernel_rfl) (by kernel_rfl) (fun _ _ _ h => h) (Or.inl ⟨by rfl, ?y23_12⟩) (by assumption) ?r23_12
  case y23_12 => (intro w hSw; (try dsimp only at hSw); go_simp; first | done | with_reducible rfl)
  (try simp only [Act.put, List.setIfInBounds_toArray, List.set_cons_zero, List.set_cons_succ])
  refine wpAnyH_take (i := 24) (oi := ⟨some 111, _, _, _, _, _⟩) (v := ?v24_12) rfl (by kernel_rfl) (by kernel_rfl) (by kernel_rfl) (fun _ _ _ h => h) (Or.inl ⟨by rfl, ?y24_12⟩) (by assumption) ?r24_12
  case y24_12 => (intro w hSw; (try dsimp only at hSw); go_simp; first | done | with_reducible rfl)
  (try simp only [Act.put, List.setIfInBounds_toArray, List.set_cons_zero, List.set_cons_succ])
  refine wpAnyH_ready (rs := [25]) (by kernel_rfl) (by simp) ?_
  refine AllReadyH.cons (i := 25) (o := ⟨some 112, _, _, _, _, _⟩) rfl (fun K hK => ?_) ?mH12
  go_simp
  (go_at_call 20; refine hpn.mono ?_; rintro e w17 ⟨rfl, hb17⟩)
  refine hK.out _ _ ⟨run_B_string ((HR7b.out.below hb16 (Nat.le_refl _)).below hb17 (Nat.le_refl _)), run_B_string ((HR13b.out.below hb16 (Nat.le_refl _)).below hb17 (Nat.le_refl _))⟩ (fun hHeld => ?_)
  clear hK K
  (try simp only [Act.put, List.setIfInBounds_toArray, List.set_cons_zero, List.set_cons_succ])
  refine wpAnyH_take (i := 26) (oi := ⟨some 113, _, _, _, _, _⟩) (v := ?v26_12) rfl (by kernel_rfl) (by kernel_rfl) (by kernel_rfl) (fun _ _ _ h => h) (Or.inl ⟨by rfl, ?y26_12⟩) (by assumption) ?r26_12
  case y26_12 => (intro w hSw; (try dsimp only at hSw); go_simp; first | done | with_reducible rfl)
  (try simp only [Act.put, List.setIfInBounds_toArray, List.set_cons_zero, List.set_cons_succ])
  refine wpAnyH_take (i := 27) (oi := ⟨some 114, _, _, _, _, _⟩) (v := ?v27_12) rfl (by kernel_rfl) (by kernel_rfl) (by kernel_rfl) (fun _ _ _ h => h) (Or.inl ⟨by rfl, ?y27_12⟩) (by assumption) ?r27_12
  case y27_12 => (intro w hSw; (try dsimp only at hSw); go_simp; first | done | with_reducible rfl)
  (try simp only [Act.put, List.setIfInBounds_toArray, List.set_cons_zero, List.set_cons_succ])
  refine wpAnyH_take (i := 28) (oi := ⟨some 0, _, _, _, _, _⟩) (v := ?v28_12) rfl (by kernel_rfl) (by kernel_rfl) (by kernel_rfl) (fun _ _ _ h => h) (Or.inl ⟨by rfl, ?y28_12⟩) (by assumption) ?r28_12
  case y28_12 => (intro w hSw; (try dsimp only at hSw); go_simp; first | done | with_reducible rfl)
  (try simp only [Act.put, List.setIfInBounds_toArray, List.set_cons_zero, List.set_cons_succ])
  refine wpAnyH_done (by kernel_rfl) ?_ _
  go_wp2_with fail
  go_ret
  exact ⟨rfl, HB16.trans (hb17.mono HB16.size)⟩
  case mH12 => exact AllReadyH.nil
  case mG12 => exact AllReadyH.nil
  case mF12 => exact AllReadyH.nil
  case mE12 => exact AllReadyH.nil
  case mB => exact AllReadyH.nil
  case mA =>
    refine AllReadyH.cons (i := 13) (o := ⟨some 100, _, _, _, _, _⟩) rfl (fun K hK => ?_) ?mC
    go_simp
    (go_at_call 10; refine (page_any 510 0 (by omega) _).mono ?_; rintro e w15 ⟨g15, rfl, ho15, hb15⟩)
    refine hK.out _ _ ⟨run_B_string (HR7b.out.below hb15 (Nat.le_refl _)), run_B_string (HR13b.out.below hb15 (Nat.le_refl _))⟩ (fun hHeld => ?_)
    clear hK K
    (try simp only [Act.put, List.setIfInBounds_toArray, List.set_cons_zero, List.set_cons_succ])
    refine wpAnyH_ready (rs := [12]) (by kernel_rfl) (by simp) ?_
    refine AllReadyH.cons (i := 12) (o := ⟨some 99, _, _, _, _, _⟩) rfl (fun K hK => ?_) ?mD
    go_simp
    refine hK.out _ _ ⟨run_B_string ((HR7b.out.below hb15 (Nat.le_refl _)).alloc _), run_B_string ((HR13b.out.below hb15 (Nat.le_refl _)).alloc _)⟩ (fun hHeld => ?_)
    clear hK K
    (try simp only [Act.put, List.setIfInBounds_toArray, List.set_cons_zero, List.set_cons_succ])
    have hb15b : Below w14.heap.size w14 (w15.alloc (.cells (bvs [2, 2]).toArray 5)) := hb15.alloc hb15.size _
    have hn15 : OwB (w15.alloc (.cells (bvs [2, 2]).toArray 5)) w14.heap.size (.slice (some ⟨w15.heap.size, 0, none⟩) 2 2) [2, 2] := (OBlk.new' w15 5 (bvs [2, 2])).owB' hb15.size (by decide)
    have hz15 := ho15.rd.alloc (.cells (bvs [2, 2]).toArray 5)
    refine wpAnyH_ready (rs := [14]) (by kernel_rfl) (by simp) ?_
    refine AllReadyH.cons (i := 14) (o := ⟨some 101, _, _, _, _, _⟩) rfl (fun K hK => ?_) ?mE13
    refine step_append_B_w (.tmp 99) (.tmp 100) rfl rfl w14.heap.size _ [2, 2] rfl hn15 _ Z rfl (by rw [HZ.out]; exact hz15) (by rw [HZ.out]; decide) hb15b.size ?_
    intro v16 w16 ho16 hg16 hk16
    have hb16 : Below w14.heap.size w14 w16 := hb15b.grown hg16 hb15b.size (fun k hk => (Own.lt hn15 k hk).1)
    have HP16 := HP14.out.below hb16
    have HB16 := HB14.out.trans (hb16.mono HB14.out.size)
    have q16 := run_B_string (l := Y) (by rw [HY.out]; exact ho16.rd)
    have hpg := Page_any w16 F7 r10 A5.red HP16
    have hpn := Pages_any w16 F7 r10 A5.red HP16
    unfold plPtr at hpg hpn
    rw [e10] at hpg hpn
    rw [show ((A5.red.page : Nat) : Int) = 512 from rfl] at hpg
    rw [show ((A5.red.np : Nat) : Int) = 4 from rfl] at hpn
    clear ho16 hg16 hk16
    refine hK.out _ _ ⟨run_B_string (HR7b.out.below hb16 (Nat.le_refl _)), run_B_string (HR13b.out.below hb16 (Nat.le_refl _))⟩ (fun hHeld => ?_)
    clear hK K
    (try simp only [Act.put, List.setIfInBounds_toArray, List.set_cons_zero, List.set_cons_succ])
    refine wpAnyH_ready (rs := [15]) (by kernel_rfl) (by simp) ?_
    refine AllReadyH.cons (i := 15) (o := ⟨some 102, _, _, _, _, _⟩) rfl (fun K hK => ?_) ?mF13
    go_simp
    refine hK.out _ _ ⟨run_B_string (HR7b.out.below hb16 (Nat.le_refl _)), run_B_string (HR13b.out.below hb16 (Nat.le_refl _))⟩ (fun hHeld => ?_)
    clear hK K
    (try simp only [Act.put, List.setIfInBounds_toArray, List.set_cons_zero, List.set_cons_succ])
    refine wpAnyH_take (i := 16) (oi := ⟨some 103, _, _, _, _, _⟩) (v := ?v16_13) rfl (by kernel_rfl) (by kernel_rfl) (by kernel_rfl) (fun _ _ _ h => h) (Or.inl ⟨by rfl, ?y16_13⟩) (by assumption) ?r16_13
    case y16_13 => (intro w hSw; (try dsimp only at hSw); go_simp; first | done | with_reducible rfl)
    (try simp only [Act.put, List.setIfInBounds_toArray, List.set_cons_zero, List.set_cons_succ])
    refine wpAnyH_take (i := 17) (oi := ⟨some 104, _, _, _, _, _⟩) (v := ?v17_13) rfl (by kernel_rfl) (by kernel_rfl) (by kernel_rfl) (fun _ _ _ h => h) (Or.inl ⟨by rfl, ?y17_13⟩) (by assumption) ?r17_13
    case y17_13 => (intro w hSw; (try dsimp only at hSw); go_simp; first | done | with_reducible rfl)
    (try simp only [Act.put, List.setIfInBounds_toArray, List.set_cons_zero, List.set_cons_succ])
    refine wpAnyH_take (i := 18) (oi := ⟨some 105, _, _, _, _, _⟩) (v := ?v18_13) rfl (by kernel_rfl) (by kernel_rfl) (by kernel_rfl) (fun _ _ _ h => h) (Or.inl ⟨by rfl, ?y18_13⟩) (by assumption) ?r18_13
    case y18_13 => (intro w hSw; (try dsimp only at hSw); go_simp; first | done | with_reducible rfl)
    (try simp only [Act.put, List.setIfInBounds_toArray, List.set_cons_zero, List.set_cons_succ])
    refine wpAnyH_take (i := 19) (oi := ⟨some 106, _, _, _, _, _⟩) (v := ?v19_13) rfl (by kernel_rfl) (by kernel_rfl) (by kernel_rfl) (fun _ _ _ h => h) (Or.inl ⟨by rfl, ?y19_13⟩) (by assumption) ?r19_13
    case y19_13 => (intro w hSw; (try dsimp only at hSw); go_simp; first | done | with_reducible rfl)
    (try simp only [Act.put, List.setIfInBounds_toArray, List.set_cons_zero, List.set_cons_succ])
    refine wpAnyH_ready (rs := [20]) (by kernel_rfl) (by simp) ?_
    refine AllReadyH.cons (i := 20) (o := ⟨some 107, _, _, _, _, _⟩) rfl (fun K hK => ?_) ?mG13
    go_simp
    (go_at_call 19; refine hpg.mono ?_; rintro e w17 ⟨rfl, rfl⟩)
    refine hK.out _ _ ⟨run_B_string (HR7b.out.below hb16 (Nat.le_refl _)), run_B_string (HR13b.out.below hb16 (Nat.le_refl _))⟩ (fun hHeld => ?_)
    clear hK K
    (try simp only [Act.put, List.setIfInBounds_toArray, List.set_cons_zero, List.set_cons_succ])
    refine wpAnyH_take (i := 21) (oi := ⟨some 108, _, _, _, _, _⟩) (v := ?v21_13) rfl (by kernel_rfl) (by kernel_rfl) (by kernel_rfl) (fun _ _ _ h => h) (Or.inl ⟨by rfl, ?y21_13⟩) (by assumption) ?r21_13
    case y21_13 => (intro w hSw; (try dsimp only at hSw); go_simp; first | done | with_reducible rfl)
    (try simp only [Act.put, List.setIfInBounds_toArray, List.set_cons_zero, List.set_cons_succ])
    refine wpAnyH_take (i := 22) (oi := ⟨some 109, _, _, _, _, _⟩) (v := ?v22_13) rfl (by kernel_rfl) (by kernel_rfl) (by kernel_rfl) (fun _ _ _ h => h) (Or.inl ⟨by rfl, ?y22_13⟩) (by assumption) ?r22_13
    case y22_13 => (intro w hSw; (try dsimp only at hSw); go_simp; first | done | with_reducible rfl)
    (try simp only [Act.put, List.setIfInBounds_toArray, List.set_cons_zero, List.set_cons_succ])
    refine wpAnyH_take (i := 23) (oi := ⟨some 110, _, _, _, _, _⟩) (v := ?v23_13) rfl (by kernel_rfl) (by kernel_rfl) (by kernel_rfl) (fun _ _ _ h => h) (Or.inl ⟨by rfl, ?y23_13⟩) (by assumption) ?r23_13
    case y23_13 => (intro w hSw; (try dsimp only at hSw); go_simp; first | done | with_reducible rfl)
    (try simp only [Act.put, List.setIfInBounds_toArray, List.set_cons_zero, List.set_cons_succ])
    refine wpAnyH_take (i := 24) (oi := ⟨some 111, _, _, _, _, _⟩) (v := ?v24_13) rfl (by kernel_rfl) (by kernel_rfl) (by kernel_rfl) (fun _ _ _ h => h) (Or.inl ⟨by rfl, ?y24_13⟩) (by assumption) ?r24_13
    case y24_13 => (intro w hSw; (try dsimp only at hSw); go_simp; first | done | with_reducible rfl)
    (try simp only [Act.put, List.setIfInBounds_toArray, List.set_cons_zero, List.set_cons_succ])
    refine wpAnyH_ready (rs := [25]) (by kernel_rfl) (by simp) ?_
    refine AllReadyH.cons (i := 25) (o := ⟨some 112, _, _, _, _, _⟩) rfl (fun K hK => ?_) ?mH13
    go_simp
    (go_at_call 20; refine hpn.mono ?_; rintro e w17 ⟨rfl, hb17⟩)
    refine hK.out _ _ ⟨run_B_string ((HR7b.out.below hb16 (Nat.le_refl _)).below hb17 (Nat.le_refl _)), run_B_string ((HR13b.out.below hb16 (Nat.le_refl _)).below hb17 (Nat.le_refl _))⟩ (fun hHeld => ?_)
    clear hK K
    (try simp only [Act.put, List.setIfInBounds_toArray, List.set_cons_zero, List.set_cons_succ])
    refine wpAnyH_take (i := 26) (oi := ⟨some 113, _, _, _, _, _⟩) (v := ?v26_13) rfl (by kernel_rfl) (by kernel_rfl) (by kernel_rfl) (fun _ _ _ h => h) (Or.inl ⟨by rfl, ?y26_13⟩) (by assumption) ?r26_13
    case y26_13 => (intro w hSw; (try dsimp only at hSw); go_simp; first | done | with_reducible rfl)
    (try simp only [Act.put, List.setIfInBounds_toArray, List.set_cons_zero, List.set_cons_succ])
    refine wpAnyH_take (i := 27) (oi := ⟨some 114, _, _, _, _, _⟩) (v := ?v27_13) rfl (by kernel_rfl) (by kernel_rfl) (by kernel_rfl) (fun _ _ _ h => h) (Or.inl ⟨by rfl, ?y27_13⟩) (by assumption) ?r27_13
    case y27_13 => (intro w hSw; (try dsimp only at hSw); go_simp; first | done | with_reducible rfl)
    (try simp only [Act.put, List.setIfInBounds_toArray, List.set_cons_zero, List.set_cons_succ])
    refine wpAnyH_take (i := 28) (oi := ⟨some 0, _, _, _, _, _⟩) (v := ?v28_13) rfl (by kernel_rfl) (by kernel_rfl) (by kernel_rfl) (fun _ _ _ h => h) (Or.inl ⟨by rfl, ?y28_13⟩) (by assumption) ?r28_13
    case y28_13 => (intro w hSw; (try dsimp only at hSw); go_simp; first | done | with_reducible rfl)
    (try simp only [Act.put, List.setIfInBounds_toArray, List.set_cons_zero, List.set_cons_succ])
    refine wpAnyH_done (by kernel_rfl) ?_ _
    go_wp2_with fail
    go_ret
    exact ⟨rfl, HB16.trans (hb17.mono HB16.size)⟩
    case mH13 => exact AllReadyH.nil
    case mG13 => exact AllReadyH.nil
    case mF13 => exact AllReadyH.nil
    case mE13 => exact AllReadyH.nil
    case mD => exact AllReadyH.nil
    case mC => exact AllReadyH.nil
  case m3 => exact AllReadyH.nil
  case m2 => exact AllReadyH.nil
end Go.Proofs.Ytipjngoenklioaa
