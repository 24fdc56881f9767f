/- plate.Load, Arm, Read: walks. -/
import Derived.Test.YtipjngoenklioaaPlaNew2
namespace Go.Proofs.Ytipjngoenklioaa
open Go.RowKit
def chunk (p : Nat) (l : List UInt8) (n : Nat) : List (List UInt8) := (List.range n).map fun i => (l.drop (i * p)).take p
theorem chunk_succ (p : Nat) (l : List UInt8) (n : Nat) : chunk p l (n + 1) = chunk p l n ++ [(l.drop (n * p)).take p] := by
  unfold chunk; rw [List.range_succ, List.map_append]; rfl
theorem chunk_flat (p : Nat) (l : List UInt8) : ∀ n, n * p ≤ l.length → (chunk p l n).flatten = l.take (n * p)
  | 0, _ => by simp [chunk]
  | n + 1, h => by
    have h1 : (n + 1) * p = n * p + p := Nat.succ_mul n p
    rw [chunk_succ, List.flatten_append, chunk_flat p l n (by omega), h1, List.take_add]
    simp
theorem chunk_each {p : Nat} {l : List UInt8} {n : Nat} (h : n * p ≤ l.length) : ∀ x ∈ chunk p l n, x.length = p := by
  intro x hx
  obtain ⟨i, hi, rfl⟩ := List.mem_map.1 hx
  have hi := List.mem_range.1 hi
  have h1 : (i + 1) * p ≤ n * p := Nat.mul_le_mul_right _ hi
  have h2 : (i + 1) * p = i * p + p := Nat.succ_mul i p
  simp; omega
def SL (p n : Nat) (l : List UInt8) : PS := { S0 p n with pg := chunk p l n }
def LoadAt (w : World) (page n : Nat) (l : List UInt8) (e : Ending) (w' : World) : Prop := ∃ r F, e = .returned (.tuple #[plPtr r, .int .i64 0]) ∧ PlRaw w' F r (SL page n l) ∧ (∀ k, F k → w.heap.size ≤ k) ∧ Below w.heap.size w w'
set_option maxRecDepth 20000 in
set_option maxHeartbeats 2000000 in
theorem Load_ok (page n : Nat) (h : devB page n = true) (v : Value) (l : List UInt8) (hl : l.length = n * page) (w : World) (hv : RdB w v l) : Calls Try.prog 22 #[v, .int .i64 (page : Int)] w (LoadAt w page n l) := by
  have H := Lib.hid h
  obtain ⟨h1, h2, h3, h4⟩ := devB_spec h
  have h5 := isPowB_range h1
  have HP := Lib.hid h1
  have h0 : ¬ page = 0 := by omega
  have e1 : (l.length : Int) % (page : Int) = 0 := by rw [hl, Int.natCast_mul]; exact Int.mul_emod_left _ _
  have e2 : (l.length : Int) / (page : Int) = (n : Int) := by rw [hl, Int.natCast_mul]; exact Int.mul_ediv_cancel _ (by omega)
  have hlb : (l.length : Int) ≤ 67108864 := by rw [hl, Int.natCast_mul]; exact h4
  have HL := Lib.hid hl
  obtain ⟨A, c, rfl, hm⟩ := hv.form
  clear h h1 h4 hl
  go_enter Try.func22, Try.ntmps22
  go_wp2_with (first
    | (go_at_call 33; refine (isPage_any _ (by omega) _).mono ?_; rintro e w0 ⟨rfl, rfl⟩; rw [HP.out])
    | (go_at_call 8; refine (New_ok page n H.out _).mono ?_; rintro e w1 ⟨r, F, rfl, hP, hF, hB⟩; unfold plPtr; have c1 := hP.c1)
    | ((with_reducible refine at_copy ?_); refine wp_copy_B rfl (.tmp 28) (.tmp 29) rfl _ (S0 page n).sz (S0 page n).sz r.sb 0 rfl _ hP.safe (fun _ => rfl) (by rw [hP.flen]; omega) _ l rfl (hv.below hB (Nat.le_refl _)) ?_; intro w2 hb2 hg2)
    | fail)
  go_ret2
  have hsz : (S0 page n).sz = l.length := by rw [HL.out]; exact Nat.mul_comm _ _
  have hfl := hP.flen
  have hch : (chunk page l n).flatten = l := by rw [chunk_flat page l n (by rw [HL.out]; omega), List.take_of_length_le (by rw [HL.out]; omega)]
  have e3 : splice (S0 page n).pg.flatten 0 (l.take (min l.length (S0 page n).sz)) = (chunk page l n).flatten := by
    rw [hch, hsz, Nat.min_self, List.take_length]
    unfold splice
    rw [List.take_zero, List.drop_of_length_le (by omega)]
    simp
  rw [e3] at hb2
  exact ⟨r, F, rfl, hP.sb_write hg2 hb2 (by simp [chunk, S0]) (chunk_each (by rw [HL.out]; omega)), hF, hB.grown hg2 (Nat.le_trans (Nat.le_refl _) hB.size) (fun k hk => by cases hk; exact hF _ hP.fs)⟩
set_option maxRecDepth 20000 in
set_option maxHeartbeats 2000000 in
theorem Load_bad (page : Int) (hp : -9223372036854775808 ≤ page ∧ page ≤ 9223372036854775807) (v : Value) (l : List UInt8) (h : isPowB page = false ∨ (l.length : Int) % page ≠ 0 ∨ devB page ((l.length : Int) / page) = false) (w : World) (hv : RdB w v l) :
    Calls Try.prog 22 #[v, .int .i64 page] w fun e w' => e = .returned (.tuple #[.pointer none, .int .i64 32]) ∧ w = w' := by
  obtain ⟨A, c, rfl, hm⟩ := hv.form
  cases hq : isPowB page
  · have HP := Lib.hid hq
    clear hq h
    go_enter Try.func22, Try.ntmps22
    go_wp2_with (first
      | (go_at_call 33; refine (isPage_any _ (by omega) _).mono ?_; rintro e w0 ⟨rfl, rfl⟩; rw [HP.out]))
    go_ret2
    exact ⟨rfl, rfl⟩
  have h5 := isPowB_range hq
  have h0 : ¬ page = 0 := by omega
  by_cases hr : (l.length : Int) % page = 0
  · obtain ⟨q, hq2⟩ : ∃ q, (l.length : Int) / page = q := ⟨_, rfl⟩
    have hd : devB page q = false := by
      rw [← hq2]
      rcases h with h | h | h
      · rw [hq] at h; cases h
      · exact absurd hr h
      · exact h
    have hq3 : 0 ≤ q := by rw [← hq2]; exact Int.ediv_nonneg (by omega) (by omega)
    have hq4 : q ≤ 9223372036854775807 := by
      rw [← hq2]
      refine Int.le_trans (Int.ediv_le_self _ (by omega)) ?_
      omega
    have HD := Lib.hid hd
    have HP := Lib.hid hq
    have hb : ((l.length : Int) % page == 0) = true := by simpa using hr
    have hb' : ((l.length : Int) % page != 0) = false := by simpa using hr
    clear hq h hd hr
    go_enter Try.func22, Try.ntmps22
    go_wp2_with (first
      | (go_at_call 33; refine (isPage_any _ (by omega) _).mono ?_; rintro e w0 ⟨rfl, rfl⟩; rw [HP.out])
      | (go_at_call 8; refine (New_bad page _ hp HD.out _).mono ?_; rintro e w1 ⟨rfl, rfl⟩))
    go_ret2
    exact ⟨rfl, rfl⟩
  · have HP := Lib.hid hq
    have hb : ((l.length : Int) % page == 0) = false := by simpa using hr
    have hb' : ((l.length : Int) % page != 0) = true := by simpa using hr
    clear hq h hr
    go_enter Try.func22, Try.ntmps22
    go_wp2_with (first
      | (go_at_call 33; refine (isPage_any _ (by omega) _).mono ?_; rintro e w0 ⟨rfl, rfl⟩; rw [HP.out]))
    go_ret2
    exact ⟨rfl, rfl⟩
/-- Armed anew. -/
def PS.arm (S : PS) (acts : Int) (ks : List Int) (torn at_ : Int) : PS := if S.down then S else { S with acts := if acts < -1 then -1 else acts, keep := ks, torn := torn, at_ := at_ }
theorem PlRaw.armed {w w1 w' : World} {F : Nat → Prop} {r : Raw} {S : PS} {vk : Value} {ks : List Int} {acts torn at_ : Int} (h : PlRaw w F r S) (hb : Below w.heap.size w w1) (hk : Own w1 w.heap.size 3 1 vk ks.length (ivs ks))
    (ha : -1 ≤ acts ∧ acts ≤ 9223372036854775807) (ht : -9223372036854775808 ≤ torn ∧ torn ≤ 9223372036854775807) (hat : -9223372036854775808 ≤ at_ ∧ at_ ≤ 9223372036854775807)
    (hg : w1.grownBy w' (some r.pb)) (hbl : OBlk w' r.pb 66 (plCells { r with vk := vk } { S with acts := acts, keep := ks, torn := torn, at_ := at_ })) :
    PlRaw w' (fun k => F k ∨ vk.ownBlock = some k) { r with vk := vk } { S with acts := acts, keep := ks, torn := torn, at_ := at_ } :=
  have h1 := h.below hb
  { ok := { h.ok with a1 := ha.1, a2 := ha.2, t1 := ht, t2 := hat }
    blk := hbl
    safe := h1.safe.grown hg (fun e => h1.safe.ne h1.blk (by decide) (Option.some.inj e))
    loose := h1.loose.grown hg (fun g hg' e => h1.loose.ne_T h1.blk (by decide) (by rw [hg', e]))
    dlen := h.dlen
    data := fun i hi v hv => ⟨Own.grown (h1.data i hi v hv).1 hg (fun g hg' e => OwB.ne_T (h1.data i hi v hv).1 h1.blk (by decide) (by rw [hg', e])), fun g hg' => ⟨.inl ((h1.data i hi v hv).2 g hg').1, ((h1.data i hi v hv).2 g hg').2⟩⟩
    map := h1.map.heap (hg.block _ h1.map.lt (fun e => h1.map.ne h1.blk (Option.some.inj e)))
    keep := Own.low (Own.grown hk hg (fun g hg' e => Own.ne_T hk h1.blk (by decide) (by rw [hg', e]))) (Nat.zero_le _)
    fp := .inl h.fp, fs := .inl h.fs, fm := .inl h.fm, fl := fun g hg' => .inl (h.fl g hg'), fk := fun g hg' => .inr hg'
    lt := fun k hk' => hk'.elim (fun hf => Nat.lt_of_lt_of_le (h1.lt k hf) hg.size) (fun hf => Nat.lt_of_lt_of_le (Own.lt hk k hf).2 hg.size) }
def ArmAt (w : World) (F : Nat → Prop) (r : Raw) (S' : PS) (e : Ending) (w' : World) : Prop := (∃ v, e = .returned v) ∧ ∃ r' F', r'.pb = r.pb ∧ r'.sb = r.sb ∧ PlRaw w' F' r' S' ∧ Step F w F' w'
set_option maxRecDepth 20000 in
set_option maxHeartbeats 2000000 in
theorem Arm_any (w : World) (F : Nat → Prop) (r : Raw) (S : PS) (acts : Int) (vk : Value) (ks : List Int) (torn at_ : Int) (h : PlRaw w F r S) (hk : RdI w vk ks) (hkl : ks.length * 8 ≤ 140737488355328) (ha : -9223372036854775808 ≤ acts ∧ acts ≤ 9223372036854775807)
    (ht : -9223372036854775808 ≤ torn ∧ torn ≤ 9223372036854775807) (hat : -9223372036854775808 ≤ at_ ∧ at_ ≤ 9223372036854775807) :
    Calls Try.prog 13 #[plPtr r, .int .i64 acts, fallV vk torn at_] w (ArmAt w F r (S.arm acts ks torn at_)) := by
  have hA : Below w.heap.size w (w.alloc (.cells #[vk, .int .i64 torn, .int .i64 at_] 31)) := (Below.refl _ _).alloc (Nat.le_refl _) _
  have lb := h.blk.lt
  have c4 := h.c4
  cases hd : S.down
  · rw [hd] at c4
    have HS : Hid (S.arm acts ks torn at_ = { S with acts := if acts < -1 then -1 else acts, keep := ks, torn := torn, at_ := at_ }) := by show _ = _; unfold PS.arm; rw [hd]; rfl
    clear hd
    have hc := CloneI_any _ ks _ (hk.below hA) hkl
    unfold plPtr fallV
    go_enter Try.func13, Try.ntmps13
    go_wp2_with fail
    refine hc.mono ?_
    rintro e w1 ⟨v1, rfl, ho1, hb1⟩
    have hB1 : Below w.heap.size w w1 := hA.trans (hb1.mono hA.size)
    have hfb := (OBlk.new' w 31 [vk, .int .i64 torn, .int .i64 at_]).below hb1 (by simp)
    have hP1 := h.below hB1
    have k0 := hfb.cell' (j := 0) (u := vk) rfl
    have k1 := hfb.cell' (j := 1) (u := .int .i64 torn) rfl
    have k2 := hfb.cell' (j := 2) (u := .int .i64 at_) rfl
    have g0 := hfb.frozen (j := 0) (by simp)
    have p5 := hP1.c5
    have p6 := hP1.c6
    have p7 := hP1.c7
    have p8 := hP1.c8
    have q5 := hP1.fz (j := 5) (by decide)
    have q6 := hP1.fz (j := 6) (by decide)
    have q7 := hP1.fz (j := 7) (by decide)
    have q8 := hP1.fz (j := 8) (by decide)
    have n1 : ¬ r.pb = w.heap.size := by omega
    have n2 : ¬ w.heap.size = r.pb := by omega
    obtain ⟨A1, cc1, rfl⟩ := Own.slice ho1
    clear c4
    go_wp2_with fail
    go_region
    refine bodyPost_end (results_none rfl _ _ _) rfl ?_
    rw [HS.out]
    have hB2 : Below w.heap.size w (w1.setCell ⟨w.heap.size, 0, none⟩ (.slice A1 ks.length cc1)) := hB1.setCell (Nat.le_refl _) _
    have hko : Own (w1.setCell ⟨w.heap.size, 0, none⟩ (.slice A1 ks.length cc1)) w.heap.size 3 1 (.slice A1 ks.length cc1) ks.length (ivs ks) :=
      (Own.far ho1 (fun e => by have := (Own.lt ho1 _ e).1; simp at this; omega) _).low (by simp)
    have hg := grownBy_trans (grownBy_trans (grownBy_trans (grownBy_setCell (w1.setCell ⟨w.heap.size, 0, none⟩ (.slice A1 ks.length cc1)) ⟨r.pb, 5, none⟩ (.int .i64 (if acts < -1 then -1 else acts))) (grownBy_setCell _ ⟨r.pb, 6, none⟩ (.slice A1 ks.length cc1))) (grownBy_setCell _ ⟨r.pb, 7, none⟩ (.int .i64 torn))) (grownBy_setCell _ ⟨r.pb, 8, none⟩ (.int .i64 at_))
    have hbl := ((((h.below hB2).blk.set 5 (.int .i64 (if acts < -1 then -1 else acts))).set 6 (.slice A1 ks.length cc1)).set 7 (.int .i64 torn)).set 8 (.int .i64 at_)
    have hR := PlRaw.armed (acts := if acts < -1 then -1 else acts) h hB2 hko (by split <;> omega) ht hat hg hbl
    refine ⟨⟨_, rfl⟩, _, _, ?_, ?_, hR.drew, ⟨(((Turn.of_below hB2).grown hg (fun b hb => by cases hb; exact .inl h.fp)).drew), fun k hk => ?_⟩⟩
    · rfl
    · rfl
    · rcases hk with hf | e
      · exact .inl hf
      · exact .inr (Own.lt hko k e).1
  · rw [hd] at c4
    have HS : Hid (S.arm acts ks torn at_ = S) := by show _ = _; unfold PS.arm; rw [hd]; rfl
    clear hd
    unfold plPtr fallV
    go_enter Try.func13, Try.ntmps13
    go_wp2_with fail
    refine bodyPost_end (results_none rfl _ _ _) rfl ?_
    rw [HS.out]
    exact ⟨⟨_, rfl⟩, r, F, rfl, rfl, h.below hA, Turn.of_below hA, fun k hk => .inl hk⟩
end Go.Proofs.Ytipjngoenklioaa
