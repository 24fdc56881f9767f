/- plate.falls: the walk. -/
import Derived.Test.YtipjngoenklioaaPlaClone
import Derived.Test.YtipjngoenklioaaQt
namespace Go.Proofs.Ytipjngoenklioaa
open Go.RowKit
section
variable {w w' : World} {F : Nat → Prop} {r : Raw} {S : PS}
/-- The safe bytes are written. -/
theorem PlRaw.sb_write {pg' : List (List UInt8)} (h : PlRaw w F r S) (hg : w.grownBy w' (some r.sb)) (hb : OBlk w' r.sb 5 (bvs pg'.flatten)) (hl : pg'.length = S.np) (he : ∀ l ∈ pg', l.length = S.page) : PlRaw w' F r { S with pg := pg' } :=
  { ok := { h.ok with pl := hl, pe := he }
    blk := h.blk.grown hg (fun e => h.safe.ne h.blk (by decide) (Option.some.inj e).symm)
    safe := hb
    loose := h.loose.grown hg (fun g hg' e => h.loose.ne_T h.safe (by decide) (by rw [hg', e]))
    dlen := h.dlen
    data := fun i hi v hv => ⟨Own.grown (h.data i hi v hv).1 hg (fun g hg' e => ((h.data i hi v hv).2 g hg').2 (Option.some.inj e)), (h.data i hi v hv).2⟩
    map := h.map.heap (hg.block _ h.map.lt (fun e => h.map.ne h.safe (Option.some.inj e)))
    keep := h.keep.grown hg (fun g hg' e => h.keep.ne_T h.safe (by decide) (by rw [hg', e]))
    fp := h.fp, fs := h.fs, fm := h.fm, fl := h.fl, fk := h.fk, lt := fun k hk => Nat.lt_of_lt_of_le (h.lt k hk) hg.size }
theorem RdI.grown {v : Value} {ks : List Int} {row : Option Nat} (h : RdI w v ks) (hg : w.grownBy w' row) (hne : ∀ A n c, v = .slice (some A) n c → 0 < n → row ≠ some A.block) : RdI w' v ks := by
  obtain ⟨h0, A, c, rfl, h1, h2, h3⟩ := h
  refine ⟨h0, A, c, rfl, h1, h2, fun j u hj => ?_⟩
  obtain ⟨ad, rfl, hc⟩ := h3 j u hj
  refine ⟨ad, rfl, hg.cell hc ?_⟩
  rw [block_of_add]
  have h0 : 0 < ks.length := by
    have := (List.getElem?_eq_some_iff.1 hj).1
    simp [ivs] at this; omega
  exact fun e => hne ad _ _ rfl h0 e.symm
end
theorem RdI.below {w w' : World} {v : Value} {ks : List Int} (h : RdI w v ks) (hb : Below w.heap.size w w') : RdI w' v ks := Rd.below h hb (Nat.le_refl _)
theorem RdI.drew {w : World} {v : Value} {ks : List Int} (h : RdI w v ks) : RdI w.drew v ks := h
def KeepOff (vk : Value) (sb : Nat) : Prop := ∀ A n c, vk = .slice (some A) n c → 0 < n → A.block ≠ sb
def PS.fellPg (S : PS) (ks : List Int) (torn at_ : Int) (n : Nat) : PS := { S with pg := fallN S.page ks torn at_ S.wild S.pg n }
def PS.fell (S : PS) (ks : List Int) (torn at_ : Int) : PS := { S with pg := fallN S.page ks torn at_ S.wild S.pg S.wild.length, wild := [], down := true, acts := -1 }
def fallV (vk : Value) (torn at_ : Int) : Value := .agg #[vk, .int .i64 torn, .int .i64 at_]
/-- What the i-th loose write is, in memory. -/
theorem PlRaw.entry {w : World} {F : Nat → Prop} {r : Raw} {S : PS} (h : PlRaw w F r S) {i : Nat} (hi : i < S.wild.length) : ∃ lb c db cd p l, S.page ≤ cd ∧ cd ≤ 9223372036854775807 ∧ S.wild[i]? = some (p, l) ∧ r.vl = .slice (some ⟨lb, 0, none⟩) S.wild.length c ∧ r.dv[i]? = some (.slice (some ⟨db, 0, none⟩) S.page cd) ∧
    w.cell? ⟨lb, i * 2, none⟩ = some (.int .i64 (p : Int)) ∧ w.cell? ⟨lb, i * 2 + 1, none⟩ = some (.slice (some ⟨db, 0, none⟩) S.page cd) ∧ OwB w 0 (.slice (some ⟨db, 0, none⟩) S.page cd) l ∧ p < S.np ∧ l.length = S.page := by
  have hw := h.ok.we _ (List.getElem_mem hi)
  obtain ⟨lb, c, hv⟩ : ∃ lb c, r.vl = .slice (some ⟨lb, 0, none⟩) S.wild.length c := by
    rcases h.loose.form with ⟨_, h0⟩ | ⟨g, c, hv, _⟩
    · omega
    · exact ⟨g, c, hv⟩
  have hd : i < r.dv.length := by rw [h.dlen]; exact hi
  have hdv : r.dv[i]? = some r.dv[i] := List.getElem?_eq_getElem hd
  have hdat := (h.data i hi _ hdv).1
  obtain ⟨db, cd, hs, hcd1, hcd2⟩ : ∃ db cd, r.dv[i] = .slice (some ⟨db, 0, none⟩) S.page cd ∧ S.page ≤ cd ∧ cd ≤ 9223372036854775807 := by
    have hp1 := h.ok.p1
    rcases Own.form hdat with ⟨_, h0⟩ | ⟨g, cap, hv, _, _, h3, h4⟩
    · rw [hw.2] at h0; omega
    · rw [hw.2] at hv h3
      simp only [maxLen] at h4
      exact ⟨g, cap, hv, h3, h4⟩
  have hl := h.loose
  rw [hv] at hl
  rw [hs] at hdv hdat
  exact ⟨lb, c, db, cd, S.wild[i].1, S.wild[i].2, hcd1, hcd2, List.getElem?_eq_getElem hi, hv, hdv, hl.cells _ _ (wcells_page _ _ _ h.dlen hi), hl.cells _ _ ((wcells_data _ _ _ h.dlen hi).trans hdv), hdat, hw.1, hw.2⟩
theorem PlRaw.wlen {w : World} {F : Nat → Prop} {r : Raw} {S : PS} (h : PlRaw w F r S) : S.wild.length ≤ 9223372036854775807 := by
  rcases h.loose.form with ⟨_, h0⟩ | ⟨g, cap, _, _, _, h3, h4⟩
  · omega
  · simp only [maxLen] at h4; omega
theorem PlRaw.entryF {w : World} {F : Nat → Prop} {r : Raw} {S : PS} {ks : List Int} {torn at_ : Int} {j : Nat} (h : PlRaw w F r (S.fellPg ks torn at_ j)) {i : Nat} (hi : i < S.wild.length) : ∃ lb c db cd p l, S.page ≤ cd ∧ cd ≤ 9223372036854775807 ∧ S.wild[i]? = some (p, l) ∧ r.vl = .slice (some ⟨lb, 0, none⟩) S.wild.length c ∧ r.dv[i]? = some (.slice (some ⟨db, 0, none⟩) S.page cd) ∧
    w.cell? ⟨lb, i * 2, none⟩ = some (.int .i64 (p : Int)) ∧ w.cell? ⟨lb, i * 2 + 1, none⟩ = some (.slice (some ⟨db, 0, none⟩) S.page cd) ∧ OwB w 0 (.slice (some ⟨db, 0, none⟩) S.page cd) l ∧ p < S.np ∧ l.length = S.page := h.entry hi
/-- The first m bytes of page p are copied over. -/
theorem PlRaw.copied {w w' : World} {F : Nat → Prop} {r : Raw} {S : PS} (h : PlRaw w F r S) {p : Nat} {m : List UInt8} (hp : p < S.np) (hm : m.length ≤ S.page) (hg : w.grownBy w' (some r.sb)) (hb : OBlk w' r.sb 5 (bvs (splice S.pg.flatten (p * S.page) (m.take (min m.length S.page))))) : PlRaw w' F r { S with pg := putPg S.pg p m } := by
  have hpl : p < S.pg.length := by rw [h.ok.pl]; exact hp
  rw [Nat.min_eq_left hm, List.take_length, flat_splice S.pg p m h.ok.pe hpl hm] at hb
  exact h.sb_write hg hb (by rw [putPg_length]; exact h.ok.pl) (putPg_each h.ok.pe hpl hm)
theorem run_head (w : World) (db n c hi : Nat) (X : Int) (hX : X = (hi : Int)) (h1 : hi ≤ n) (h2 : n ≤ c) (h3 : 0 < c) (h4 : c ≤ 9223372036854775807) :
    (Instr.slice 28 (.slice (some ⟨db, 0, none⟩) n c) none (some (.int .i64 X)) none).run Try.prog w = .ok (.slice (some ⟨db, 0, none⟩) hi c) w := by
  subst hX
  have := run_slice_h (P := Try.prog) w 28 (some ⟨db, 0, none⟩) n c u8_elem .i64 hi (by omega) (by omega)
  rw [this, u8_sizeOf]
  simp [Result.andThen, sliced, show ¬ c = 0 by omega, add_row]
set_option maxRecDepth 100000 in
set_option maxHeartbeats 8000000 in
theorem falls_any (w : World) (F : Nat → Prop) (r : Raw) (S : PS) (vk : Value) (ks : List Int) (torn at_ : Int) (h : PlRaw w F r S) (hk : RdI w vk ks) (hko : KeepOff vk r.sb) (ht : -9223372036854775808 ≤ at_ ∧ at_ ≤ 9223372036854775807) :
    Calls Try.prog 37 #[plPtr r, fallV vk torn at_] w fun e w' => (∃ v, e = .returned v) ∧ PlRaw w' F r.settled (S.fell ks torn at_) ∧ Turn F w w' := by
  have h1 : PlRaw (w.alloc (.cells #[vk, .int .i64 torn, .int .i64 at_] 31)) F r S := h.below ((Below.refl _ _).alloc (Nat.le_refl _) _)
  have hfb : OBlk (w.alloc (.cells #[vk, .int .i64 torn, .int .i64 at_] 31)) w.heap.size 31 [vk, .int .i64 torn, .int .i64 at_] := OBlk.new' w 31 [vk, .int .i64 torn, .int .i64 at_]
  have c2 := h1.c2
  obtain ⟨A, c, hvl⟩ := h.loose.slice
  rw [hvl] at c2
  have HVL := Lib.hid hvl
  have hwl : S.wild.length ≤ 9223372036854775807 := h.wlen
  clear hvl
  unfold plPtr fallV
  go_enter Try.func37, Try.ntmps37
  go_wp2_with fail
  go_loopw [11] (fun i wr => ∃ j : Nat, i = .int .i64 (j : Int) ∧ j ≤ S.wild.length ∧ PlRaw wr F r (S.fellPg ks torn at_ j) ∧ OBlk wr w.heap.size 31 [vk, .int .i64 torn, .int .i64 at_] ∧ RdI wr vk ks ∧ Turn F w wr)
    (fun i _ => S.wild.length - (intOf i).toNat)
  case atStart => exact ⟨0, rfl, Nat.zero_le _, h1, hfb, hk.below ((Below.refl _ _).alloc (Nat.le_refl _) _), (Turn.refl _ _).alloc _⟩
  case round =>
    clear h1 hfb c2
    obtain ⟨j, rfl, hj, hP, hfb, hK, hT⟩ := hrel
    by_cases hlt : j < S.wild.length
    · obtain ⟨lb, c', db, cd, p, l, hcd1, hcd2, hwj, hvl, hdv, cp, cd1, hrd, hx1, hx2⟩ := hP.entryF hlt
      rw [HVL.out] at hvl
      injection hvl with hA _ hcc
      subst hA
      subst hcc
      have ij : (j : Int) < (S.wild.length : Int) := by omega
      have HW := Lib.hid hwj
      have HX := Lib.hid hx2
      have hP3 : PlRaw (wr.alloc (.cells #[.int .i64 (p : Int), .slice (some ⟨db, 0, none⟩) S.page cd] 69)) F r (S.fellPg ks torn at_ j) := hP.below ((Below.refl _ _).alloc (Nat.le_refl _) _)
      have hT3 := hT.alloc (.cells #[.int .i64 (p : Int), .slice (some ⟨db, 0, none⟩) S.page cd] 69)
      have hf3 := hfb.alloc (.cells #[.int .i64 (p : Int), .slice (some ⟨db, 0, none⟩) S.page cd] 69)
      have hK3 := hK.below ((Below.refl _ _).alloc (Nat.le_refl _) (.cells #[.int .i64 (p : Int), .slice (some ⟨db, 0, none⟩) S.page cd] 69))
      have hr3 := hrd.alloc (.cells #[.int .i64 (p : Int), .slice (some ⟨db, 0, none⟩) S.page cd] 69)
      have hn3 := OBlk.new' wr 69 [.int .i64 (p : Int), .slice (some ⟨db, 0, none⟩) S.page cd]
      have k0 := hf3.cell' (j := 0) (u := vk) rfl
      have k1 := hf3.cell' (j := 1) (u := .int .i64 torn) rfl
      have k2 := hf3.cell' (j := 2) (u := .int .i64 at_) rfl
      have n0 := hn3.cell' (j := 0) (u := .int .i64 (p : Int)) rfl
      have n1 := hn3.cell' (j := 1) (u := .slice (some ⟨db, 0, none⟩) S.page cd) rfl
      have i1 : (S.page : Int) ≤ (cd : Int) := by omega
      have i2 : (0 : Int) ≤ (cd : Int) := by omega
      have i3 : ¬ cd = 0 := by have := hP.ok.p1; have : 512 ≤ S.page := this; omega
      have hsb := hP3.safe.lt
      have hne0 : ¬ wr.heap.size = r.sb := by have := hP.safe.lt; omega
      have hne1 : ¬ wr.heap.size = r.sb := hne0
      have hne2 : ¬ w.heap.size = r.sb := fun e => by have := h.safe.lt; omega
      have hne3 : ¬ r.pb = r.sb := fun e => hP.safe.ne hP.blk (by decide) e.symm
      have b0 : (wr.alloc (.cells #[.int .i64 (p : Int), .slice (some ⟨db, 0, none⟩) S.page cd] 69)).cell? ⟨r.pb, 0, none⟩ = some (.int .i64 (S.page : Int)) := hP3.c0
      have hpl : ∀ m, Calls Try.prog 38 #[.pointer (some ⟨r.pb, 0, none⟩), .int .i64 (p : Int)] ((wr.alloc (.cells #[.int .i64 (p : Int), .slice (some ⟨db, 0, none⟩) S.page cd] 69)).drewN m) fun e w' => e = .returned (.slice (some ⟨r.sb, p * S.page, none⟩) S.page (S.sz - p * S.page)) ∧ ∃ m', w' = (wr.alloc (.cells #[.int .i64 (p : Int), .slice (some ⟨db, 0, none⟩) S.page cd] 69)).drewN m' := fun m => Calls.quiet_of (place_any _ F r (S.fellPg ks torn at_ j) p hx1 (hP3.heap (Nat.le_refl _) fun _ _ => rfl))
      have hfit : p * S.page + S.page ≤ (S.fellPg ks torn at_ j).pg.flatten.length := by
        rw [flat_len hP3.ok.pe, hP3.ok.pl]
        show _ ≤ S.page * S.np
        rw [Nat.mul_comm S.page, ← Nat.succ_mul]
        exact Nat.mul_le_mul_right _ hx1
      have hrb : RdB (wr.alloc (.cells #[.int .i64 (p : Int), .slice (some ⟨db, 0, none⟩) S.page cd] 69)) (.slice (some ⟨db, 0, none⟩) S.page cd) l := hr3.rd
      have hp2 : S.page ≤ 65536 := hP.ok.p2
      have hp1 : 512 ≤ S.page := hP.ok.p1
      by_cases htj : (j : Int) = torn
      · have hb := show ((j : Int) == torn) = true by simp [htj]
        have HJ := Lib.hid htj
        clear htj
        rcases (by omega : at_ < 0 ∨ (0 ≤ at_ ∧ at_ ≤ (S.page : Int)) ∨ (S.page : Int) < at_) with ha | ⟨ha1, ha2⟩ | ha
        · have r4 := (hr3.take (m := 0) (by omega)).rd
          have q4 := fun w => run_head w db S.page cd 0 0 rfl (by omega) (by omega) (by omega) (by omega)
          have HTL := Lib.hid (show tornLen at_ S.page = 0 by unfold tornLen; omega)
          have i6 : ¬ (S.page : Int) < 0 := by omega
          go_upto_region 5 with (fail)
          refine wp_region_dtail 15 (by kernel_rfl) (by kernel_rfl) ?_
          simp only [List.take_succ_cons, List.take_zero, List.drop_succ_cons, List.drop_zero]
          repeat (quiet_step ((go_at_call 38; exact hpl _)))
          refine wpQuiet_nil ?_
          rintro _ ⟨nq, rfl⟩
          go_wp2_with (first
            | ((with_reducible refine at_copy ?_); refine wp_copy_B rfl (.tmp 24) (.tmp 35) rfl _ S.page (S.sz - p * S.page) r.sb (p * S.page) rfl (S.fellPg ks torn at_ j).pg.flatten (hP3.safe.drewN nq) (fun _ => rfl) hfit (.slice (some ⟨db, 0, none⟩) 0 cd) (l.take 0) rfl r4 ?_; intro w8 hb8 hg8)
            | fail)
          go_roundw
          case rel =>
            have hP7 : PlRaw ((wr.alloc (.cells #[.int .i64 (p : Int), .slice (some ⟨db, 0, none⟩) S.page cd] 69)).drewN nq) F r (S.fellPg ks torn at_ j) := hP3.heap (Nat.le_refl _) fun _ _ => rfl
            have hP8 := hP7.copied (m := l.take 0) hx1 (by simp) hg8 hb8
            have e : S.fellPg ks torn at_ (j + 1) = { S.fellPg ks torn at_ j with pg := putPg (S.fellPg ks torn at_ j).pg p (l.take 0) } := by
              unfold PS.fellPg
              simp only [fallN, HW.out, fallOne]
              rw [if_pos HJ.out, HTL.out]
            rw [← e] at hP8
            exact ⟨j + 1, by go_num, by omega, hP8, (hf3.drewN nq).grown hg8 (fun e => hne2 (Option.some.inj e)), RdI.grown (w := (wr.alloc (.cells #[.int .i64 (p : Int), .slice (some ⟨db, 0, none⟩) S.page cd] 69)).drewN nq) hK3 hg8 (fun A n c hv h0 he => hko A n c hv h0 (Option.some.inj he).symm), (hT3.drewN nq).grown hg8 (fun b hb => by cases hb; exact .inl hP3.fs)⟩
          case measure => simp [intOf]; omega
        · obtain ⟨k, rfl⟩ := Int.eq_ofNat_of_zero_le ha1
          have hk2 : k ≤ S.page := by omega
          have hk3 : k ≤ l.length := by omega
          have i4 : (k : Int) ≤ (cd : Int) := by omega
          have r4 := (hr3.take (m := k) (by omega)).rd
          have q4 := fun w => run_head w db S.page cd k (k : Int) rfl (by omega) (by omega) (by omega) (by omega)
          have HTL := Lib.hid (show tornLen (k : Int) S.page = k by unfold tornLen; omega)
          have i6 : ¬ (S.page : Int) < (k : Int) := by omega
          have i7 : ¬ (k : Int) < 0 := by omega
          go_upto_region 5 with (fail)
          refine wp_region_dtail 15 (by kernel_rfl) (by kernel_rfl) ?_
          simp only [List.take_succ_cons, List.take_zero, List.drop_succ_cons, List.drop_zero]
          repeat (quiet_step ((go_at_call 38; exact hpl _)))
          refine wpQuiet_nil ?_
          rintro _ ⟨nq, rfl⟩
          go_wp2_with (first
            | ((with_reducible refine at_copy ?_); refine wp_copy_B rfl (.tmp 24) (.tmp 35) rfl _ S.page (S.sz - p * S.page) r.sb (p * S.page) rfl (S.fellPg ks torn (k : Int) j).pg.flatten (hP3.safe.drewN nq) (fun _ => rfl) hfit (.slice (some ⟨db, 0, none⟩) k cd) (l.take k) rfl r4 ?_; intro w8 hb8 hg8)
            | fail)
          go_roundw
          case rel =>
            have hP7 : PlRaw ((wr.alloc (.cells #[.int .i64 (p : Int), .slice (some ⟨db, 0, none⟩) S.page cd] 69)).drewN nq) F r (S.fellPg ks torn (k : Int) j) := hP3.heap (Nat.le_refl _) fun _ _ => rfl
            have hP8 := hP7.copied (m := l.take k) hx1 (by show _ ≤ S.page; rw [List.length_take]; omega) hg8 hb8
            have e : S.fellPg ks torn (k : Int) (j + 1) = { S.fellPg ks torn (k : Int) j with pg := putPg (S.fellPg ks torn (k : Int) j).pg p (l.take k) } := by
              unfold PS.fellPg
              simp only [fallN, HW.out, fallOne]
              rw [if_pos HJ.out, HTL.out]
            rw [← e] at hP8
            exact ⟨j + 1, by go_num, by omega, hP8, (hf3.drewN nq).grown hg8 (fun e => hne2 (Option.some.inj e)), RdI.grown (w := (wr.alloc (.cells #[.int .i64 (p : Int), .slice (some ⟨db, 0, none⟩) S.page cd] 69)).drewN nq) hK3 hg8 (fun A n c hv h0 he => hko A n c hv h0 (Option.some.inj he).symm), (hT3.drewN nq).grown hg8 (fun b hb => by cases hb; exact .inl hP3.fs)⟩
          case measure => simp [intOf]; omega
        · have r4 := (hr3.take (m := S.page) (by omega)).rd
          have q4 := fun w => run_head w db S.page cd S.page (S.page : Int) rfl (by omega) (by omega) (by omega) (by omega)
          have HTL := Lib.hid (show tornLen at_ S.page = S.page by unfold tornLen; omega)
          have i7 : ¬ at_ < 0 := by omega
          go_upto_region 5 with (fail)
          refine wp_region_dtail 15 (by kernel_rfl) (by kernel_rfl) ?_
          simp only [List.take_succ_cons, List.take_zero, List.drop_succ_cons, List.drop_zero]
          repeat (quiet_step ((go_at_call 38; exact hpl _)))
          refine wpQuiet_nil ?_
          rintro _ ⟨nq, rfl⟩
          go_wp2_with (first
            | ((with_reducible refine at_copy ?_); refine wp_copy_B rfl (.tmp 24) (.tmp 35) rfl _ S.page (S.sz - p * S.page) r.sb (p * S.page) rfl (S.fellPg ks torn at_ j).pg.flatten (hP3.safe.drewN nq) (fun _ => rfl) hfit (.slice (some ⟨db, 0, none⟩) S.page cd) (l.take S.page) rfl r4 ?_; intro w8 hb8 hg8)
            | fail)
          go_roundw
          case rel =>
            have hP7 : PlRaw ((wr.alloc (.cells #[.int .i64 (p : Int), .slice (some ⟨db, 0, none⟩) S.page cd] 69)).drewN nq) F r (S.fellPg ks torn at_ j) := hP3.heap (Nat.le_refl _) fun _ _ => rfl
            have hP8 := hP7.copied (m := l.take S.page) hx1 (by show _ ≤ S.page; rw [List.length_take]; omega) hg8 hb8
            have e : S.fellPg ks torn at_ (j + 1) = { S.fellPg ks torn at_ j with pg := putPg (S.fellPg ks torn at_ j).pg p (l.take S.page) } := by
              unfold PS.fellPg
              simp only [fallN, HW.out, fallOne]
              rw [if_pos HJ.out, HTL.out]
            rw [← e] at hP8
            exact ⟨j + 1, by go_num, by omega, hP8, (hf3.drewN nq).grown hg8 (fun e => hne2 (Option.some.inj e)), RdI.grown (w := (wr.alloc (.cells #[.int .i64 (p : Int), .slice (some ⟨db, 0, none⟩) S.page cd] 69)).drewN nq) hK3 hg8 (fun A n c hv h0 he => hko A n c hv h0 (Option.some.inj he).symm), (hT3.drewN nq).grown hg8 (fun b hb => by cases hb; exact .inl hP3.fs)⟩
          case measure => simp [intOf]; omega
      · have hb := show ((j : Int) == torn) = false by simp [htj]
        have HJ := Lib.hid htj
        clear htj
        have hlp : l.length = S.page := HX.out
        by_cases hin : (j : Int) ∈ ks
        · have HIN := Lib.hid hin
          go_wp2_with (first
            | (go_at_call 57; refine (Contains_any vk ks _ _ hK3).mono ?_; rintro e w6 ⟨rfl, rfl⟩; rw [decide_eq_true HIN.out])
            | fail)
          go_upto_region 7 with (fail)
          refine wp_region_dtail 6 (by kernel_rfl) (by kernel_rfl) ?_
          simp only [List.take_succ_cons, List.take_zero, List.drop_succ_cons, List.drop_zero]
          repeat (quiet_step ((go_at_call 38; exact hpl _)))
          refine wpQuiet_nil ?_
          rintro _ ⟨nq, rfl⟩
          go_wp2_with (first
            | ((with_reducible refine at_copy ?_); refine wp_copy_B rfl (.tmp 45) (.tmp 47) rfl _ S.page (S.sz - p * S.page) r.sb (p * S.page) rfl (S.fellPg ks torn at_ j).pg.flatten (hP3.safe.drewN nq) (fun _ => rfl) hfit (.slice (some ⟨db, 0, none⟩) S.page cd) l rfl hrb ?_; intro w8 hb8 hg8)
            | fail)
          go_roundw
          case rel =>
            have hP7 : PlRaw ((wr.alloc (.cells #[.int .i64 (p : Int), .slice (some ⟨db, 0, none⟩) S.page cd] 69)).drewN nq) F r (S.fellPg ks torn at_ j) := hP3.heap (Nat.le_refl _) fun _ _ => rfl
            have hP8 := hP7.copied (m := l) hx1 (by show _ ≤ S.page; omega) hg8 hb8
            have e : S.fellPg ks torn at_ (j + 1) = { S.fellPg ks torn at_ j with pg := putPg (S.fellPg ks torn at_ j).pg p (l) } := by
              unfold PS.fellPg
              simp only [fallN, HW.out, fallOne]
              rw [if_neg HJ.out, if_pos HIN.out]
            rw [← e] at hP8
            exact ⟨j + 1, by go_num, by omega, hP8, (hf3.drewN nq).grown hg8 (fun e => hne2 (Option.some.inj e)), RdI.grown (w := (wr.alloc (.cells #[.int .i64 (p : Int), .slice (some ⟨db, 0, none⟩) S.page cd] 69)).drewN nq) hK3 hg8 (fun A n c hv h0 he => hko A n c hv h0 (Option.some.inj he).symm), (hT3.drewN nq).grown hg8 (fun b hb => by cases hb; exact .inl hP3.fs)⟩
          case measure => simp [intOf]; omega
        · have HIN := Lib.hid hin
          go_wp2_with (first
            | (go_at_call 57; refine (Contains_any vk ks _ _ hK3).mono ?_; rintro e w6 ⟨rfl, rfl⟩; rw [decide_eq_false HIN.out])
            | fail)
          go_roundw
          case rel =>
            have e : S.fellPg ks torn at_ (j + 1) = S.fellPg ks torn at_ j := by
              unfold PS.fellPg
              simp only [fallN, HW.out, fallOne]
              rw [if_neg HJ.out, if_neg HIN.out]
            exact ⟨j + 1, by go_num, by omega, by rw [e]; exact hP3, hf3, hK3, hT3⟩
          case measure => simp [intOf]; omega
    · obtain rfl : S.wild.length = j := by omega
      have ht2 := hT
      go_wp2_with fail
      refine (settle_any _ F r _ hP).mono ?_
      rintro e w5 ⟨⟨v5, rfl⟩, hP5, hT5⟩
      have f4 : w5.frozen? ⟨r.pb, 4, none⟩ = false := hP5.fz (j := 4) (by decide)
      have f5 : w5.frozen? ⟨r.pb, 5, none⟩ = false := hP5.fz (j := 5) (by decide)
      have c4 : w5.cell? ⟨r.pb, 4, none⟩ = some (.bool S.down) := hP5.c4
      have c5 : w5.cell? ⟨r.pb, 5, none⟩ = some (.int .i64 S.acts) := hP5.c5
      go_wp2_with fail
      refine bodyPost_end (results_none rfl _ _ _) rfl ?_
      have hg5 := grownBy_trans (grownBy_setCell w5 ⟨r.pb, 4, none⟩ (.bool true)) (grownBy_setCell _ ⟨r.pb, 5, none⟩ (.int .i64 (-1)))
      have hb5 := (hP5.blk.set 4 (.bool true)).set 5 (.int .i64 (-1))
      refine ⟨⟨_, rfl⟩, hP5.pb_write (S' := S.fell ks torn at_) hg5 hb5 { hP5.ok with a1 := by show (-1 : Int) ≤ -1; omega, a2 := by show (-1 : Int) ≤ _; omega } rfl rfl rfl, (hT.trans hT5 (fun b hb => .inl hb)).grown hg5 (fun b hb => by cases hb; exact .inl h.fp)⟩
end Go.Proofs.Ytipjngoenklioaa
