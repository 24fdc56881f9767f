/- espalierref03.Load: walks. -/
import Derived.Test.YtipjngoenklioaaRfNew2
namespace Go.Proofs.Ytipjngoenklioaa
open Go.RowKit
set_option maxRecDepth 20000 in
set_option maxHeartbeats 2000000 in
theorem RLoad_bad (page : Int) (hp : -9223372036854775808 ≤ page ∧ page ≤ 9223372036854775807) (v : Value) (l : List UInt8) (h : isPowB page = false ∨ (l.length : Int) % page ≠ 0 ∨ devB page ((l.length : Int) / page) = false) (w : World) (hv : RdB w v l) :
    Calls Try.prog 24 #[v, .int .i64 page] w fun e w' => e = .returned (.tuple #[.pointer none, .int .i64 32]) ∧ w = w' := by
  obtain ⟨A, c, rfl, hm⟩ := hv.form
  cases hq : isPowB page
  · have HP := Lib.hid hq
    clear hq h
    go_enter Try.func24, Try.ntmps24
    go_wp2_with (first
      | (go_at_call 42; refine (IsPage_any _ _).mono ?_; rintro e w0 ⟨rfl, rfl⟩; rw [HP.out]))
    go_ret2
    exact ⟨rfl, rfl⟩
  have h5 := isPowB_range hq
  have h0 : ¬ page = 0 := by omega
  by_cases hr : (l.length : Int) % page = 0
  · obtain ⟨q, hq2⟩ : ∃ q, (l.length : Int) / page = q := ⟨_, rfl⟩
    have hd : devB page q = false := by
      rw [← hq2]
      rcases h with h | h | h
      · rw [hq] at h; cases h
      · exact absurd hr h
      · exact h
    have hq3 : 0 ≤ q := by rw [← hq2]; exact Int.ediv_nonneg (by omega) (by omega)
    have hq4 : q ≤ 9223372036854775807 := by
      rw [← hq2]
      refine Int.le_trans (Int.ediv_le_self _ (by omega)) ?_
      omega
    have HD := Lib.hid hd
    have HP := Lib.hid hq
    have hb : ((l.length : Int) % page == 0) = true := by simpa using hr
    have hb' : ((l.length : Int) % page != 0) = false := by simpa using hr
    clear hq h hd hr
    go_enter Try.func24, Try.ntmps24
    go_wp2_with (first
      | (go_at_call 42; refine (IsPage_any _ _).mono ?_; rintro e w0 ⟨rfl, rfl⟩; rw [HP.out])
      | (go_at_call 18; refine (RNew_bad page _ hp HD.out _).mono ?_; rintro e w1 ⟨rfl, rfl⟩))
    go_ret2
    exact ⟨rfl, rfl⟩
  · have HP := Lib.hid hq
    have hb : ((l.length : Int) % page == 0) = false := by simpa using hr
    have hb' : ((l.length : Int) % page != 0) = true := by simpa using hr
    clear hq h hr
    go_enter Try.func24, Try.ntmps24
    go_wp2_with (first
      | (go_at_call 42; refine (IsPage_any _ _).mono ?_; rintro e w0 ⟨rfl, rfl⟩; rw [HP.out]))
    go_ret2
    exact ⟨rfl, rfl⟩
/-- A page is written over. -/
theorem RfAt.page_set {w w' : World} {F : Nat → Prop} {r : RRaw} {S : PS} (h : RfAt w F r S) {i : Nat} (hi : i < S.pg.length) {v : Value} (hv : r.pv[i]? = some v) {m : List UInt8} (hm : m.length = S.page) {g : Nat} (hgv : v.ownBlock = some g) (hg : w.grownBy w' (some g)) (hb : OwB w' 0 v m) : RfAt w' F r { S with pg := S.pg.set i m } := by
  obtain ⟨h1, h2⟩ := h.page i hi v hv
  have hblk : r.pb ≠ g := fun e => OwB.ne_T h1 h.blk (by decide) (by rw [hgv, e])
  refine { ok := { h.ok with pl := by show (S.pg.set i m).length = _; rw [List.length_set]; exact h.ok.pl, pe := ?_ }, blk := h.blk.grown hg (fun e => hblk (Option.some.inj e)), own := ?_, pl := ?_, page := ?_, apart := h.apart, loose := ?_, dlen := h.dlen, data := ?_, keep := ?_,
           armed := h.armed, acts := h.acts, ra := h.ra, fp := h.fp, fl := h.fl, fw := h.fw, fk := h.fk, lt := fun k hk => Nat.lt_of_lt_of_le (h.lt k hk) hg.size }
  · intro l hl
    rcases List.mem_or_eq_of_mem_set hl with hl | rfl
    · exact h.ok.pe l hl
    · exact hm
  · show Own w' 0 _ 1 r.lv (S.pg.set i m).length r.pv
    rw [List.length_set]
    exact h.own.grown hg (fun g' hg' e => by
      have e' := Option.some.inj e
      subst e'
      exact OwB.ne_ownT h1 h.own (by decide) _ hgv hg'.symm)
  · show _ = (S.pg.set i m).length
    rw [List.length_set]; exact h.pl
  · intro j hj u hu
    have hj0 : j < (S.pg.set i m).length := hj
    have hj' : j < S.pg.length := by rw [List.length_set] at hj0; exact hj0
    by_cases e : j = i
    · subst e
      rw [hv] at hu
      have hu' := Option.some.inj hu
      subst hu'
      have e2 : (S.pg.set j m)[j]'(by rw [List.length_set]; exact hj') = m := List.getElem_set_self _
      show OwB w' 0 v ((S.pg.set j m)[j]'(by rw [List.length_set]; exact hj')) ∧ _
      rw [e2]
      exact ⟨hb, h2⟩
    · obtain ⟨k1, k2⟩ := h.page j hj' u hu
      have e2 : (S.pg.set i m)[j]'(by rw [List.length_set]; exact hj') = S.pg[j] := List.getElem_set_ne (fun h => e h.symm) _
      show OwB w' 0 u ((S.pg.set i m)[j]'(by rw [List.length_set]; exact hj')) ∧ _
      rw [e2]
      exact ⟨Own.grown k1 hg (fun g' hg' e3 => by
        have e' := Option.some.inj e3
        subst e'
        exact h.apart i j v u (fun h => e h.symm) hv hu g' hgv hg'.symm), k2⟩
  · exact h.loose.grown hg (fun g' hg' e => by
      have e' := Option.some.inj e
      subst e'
      exact OwB.ne_ownT h1 h.loose (by decide) _ hgv hg'.symm)
  · intro j hj u hu
    obtain ⟨k1, k2⟩ := h.data j hj u hu
    exact ⟨Own.grown k1 hg (fun g' hg' e => by
      have e' := Option.some.inj e
      subst e'
      exact (k2 g' hg').2 i v hv hgv.symm), k2⟩
  · exact h.keep.grown hg (fun g' hg' e => by
      have e' := Option.some.inj e
      subst e'
      exact OwB.ne_ownT h1 h.keep (by decide) _ hgv hg'.symm)
def ldPg (p n : Nat) (l : List UInt8) (k : Nat) : List (List UInt8) := (List.range n).map fun (i : Nat) => if i < k then (l.drop (i * p)).take p else List.replicate p 0
theorem ldPg_zero (p n : Nat) (l : List UInt8) : ldPg p n l 0 = List.replicate n (List.replicate p 0) := by
  apply List.ext_getElem?
  intro i
  unfold ldPg
  rw [List.getElem?_map, List.getElem?_replicate]
  rcases Nat.lt_or_ge i n with h | h
  · rw [List.getElem?_range h, if_pos h]; simp
  · rw [List.getElem?_eq_none (by simpa using h), if_neg (by omega)]; rfl
theorem ldPg_end (p n : Nat) (l : List UInt8) : ldPg p n l n = chunk p l n := by
  unfold ldPg chunk
  apply List.map_congr_left
  intro i hi
  rw [if_pos (List.mem_range.1 hi)]
theorem ldPg_length (p n : Nat) (l : List UInt8) (k : Nat) : (ldPg p n l k).length = n := by simp [ldPg]
theorem ldPg_get (p n : Nat) (l : List UInt8) (k i : Nat) (h : i < n) : (ldPg p n l k)[i]? = some (if i < k then (l.drop (i * p)).take p else List.replicate p 0) := by
  unfold ldPg
  rw [List.getElem?_map, List.getElem?_range h]; rfl
theorem ldPg_set (p n : Nat) (l : List UInt8) (k : Nat) (hk : k < n) : (ldPg p n l k).set k ((l.drop (k * p)).take p) = ldPg p n l (k + 1) := by
  apply List.ext_getElem?
  intro i
  rcases Nat.lt_or_ge i n with h | h
  · rw [ldPg_get p n l (k + 1) i h]
    by_cases e : i = k
    · subst e
      rw [List.getElem?_set_self (by rw [ldPg_length]; exact hk), if_pos (by omega)]
    · rw [List.getElem?_set_ne (by omega), ldPg_get p n l k i h]
      by_cases h2 : i < k
      · rw [if_pos h2, if_pos (by omega)]
      · rw [if_neg h2, if_neg (by omega)]
  · rw [List.getElem?_eq_none (by simp [ldPg_length]; exact h), List.getElem?_eq_none (by rw [ldPg_length]; exact h)]
def SLk (p n : Nat) (l : List UInt8) (k : Nat) : PS := { S0 p n with pg := ldPg p n l k }
theorem RfAt.pageAt {w : World} {F : Nat → Prop} {r : RRaw} {S : PS} (h : RfAt w F r S) {i : Nat} (hi : i < S.pg.length) : ∃ lb c g cg l, r.lv = .slice (some ⟨lb, 0, none⟩) S.pg.length c ∧ w.cell? ⟨lb, i, none⟩ = some (.slice (some ⟨g, 0, none⟩) S.page cg) ∧ r.pv[i]? = some (.slice (some ⟨g, 0, none⟩) S.page cg) ∧
    OwB w 0 (.slice (some ⟨g, 0, none⟩) S.page cg) l ∧ S.pg[i]? = some l ∧ l.length = S.page ∧ S.page ≤ cg ∧ cg ≤ 9223372036854775807 ∧ F g := by
  have hiv : i < r.pv.length := by rw [h.pl]; exact hi
  have hv : r.pv[i]? = some r.pv[i] := List.getElem?_eq_getElem hiv
  obtain ⟨h1, h2⟩ := h.page i hi _ hv
  have hl := h.ok.pe _ (List.getElem_mem hi)
  obtain ⟨lb, c, hlv⟩ : ∃ lb c, r.lv = .slice (some ⟨lb, 0, none⟩) S.pg.length c := by
    rcases h.own.form with ⟨_, h0⟩ | ⟨g, c, hv, _⟩
    · omega
    · exact ⟨g, c, hv⟩
  obtain ⟨g, cg, hs, hc1, hc2⟩ : ∃ g cg, r.pv[i] = .slice (some ⟨g, 0, none⟩) S.page cg ∧ S.page ≤ cg ∧ cg ≤ 9223372036854775807 := by
    have hp1 := h.ok.p1
    rcases Own.form h1 with ⟨_, h0⟩ | ⟨g, cap, hv, _, _, h3, h4⟩
    · omega
    · rw [hl] at hv h3
      simp only [maxLen] at h4
      exact ⟨g, cap, hv, h3, h4⟩
  have ho := h.own
  rw [hlv] at ho
  rw [hs] at hv h1 h2
  exact ⟨lb, c, g, cg, S.pg[i], hlv, ho.cells _ _ hv, hv, h1, List.getElem?_eq_getElem hi, hl, hc1, hc2, h2 g rfl⟩
def RLoadAt (w : World) (page n : Nat) (l : List UInt8) (e : Ending) (w' : World) : Prop := ∃ r F, e = .returned (.tuple #[rfPtr r, .int .i64 0]) ∧ RfAt w' F r (SL page n l) ∧ (∀ k, F k → w.heap.size ≤ k) ∧ Below w.heap.size w w'
set_option maxRecDepth 20000 in
set_option maxHeartbeats 4000000 in
theorem RLoad_ok (page n : Nat) (h : devB page n = true) (v : Value) (l : List UInt8) (hl : l.length = n * page) (w : World) (hv : RdB w v l) : Calls Try.prog 24 #[v, .int .i64 (page : Int)] w (RLoadAt w page n l) := by
  have H := Lib.hid h
  obtain ⟨h1, h2, h3, h4⟩ := devB_spec h
  have h5 := isPowB_range h1
  have HP := Lib.hid h1
  have h0 : ¬ page = 0 := by omega
  have e1 : (l.length : Int) % (page : Int) = 0 := by rw [hl, Int.natCast_mul]; exact Int.mul_emod_left _ _
  have e2 : (l.length : Int) / (page : Int) = (n : Int) := by rw [hl, Int.natCast_mul]; exact Int.mul_ediv_cancel _ (by omega)
  have hlb : (l.length : Int) ≤ 67108864 := by rw [hl, Int.natCast_mul]; exact h4
  have HL := Lib.hid hl
  obtain ⟨A, c, rfl, hm⟩ := hv.form
  obtain ⟨_, hc1, hc2⟩ := hv.cap
  clear h h1 h4 hl
  go_enter Try.func24, Try.ntmps24
  go_wp2_with (first
    | (go_at_call 42; refine (IsPage_any _ _).mono ?_; rintro e w0 ⟨rfl, rfl⟩; rw [HP.out])
    | (go_at_call 18; refine (RNew_ok page n H.out _).mono ?_; rintro e w1 ⟨r, F, rfl, hP, hF, hB⟩; unfold rfPtr)
    | fail)
  have HHP := Lib.hid hP
  clear e1 e2
  go_loopw [8] (fun i wr => ∃ k : Nat, k ≤ n ∧ i = .int .i64 (k : Int) ∧ RfAt wr F r (SLk page n l k) ∧ Below w.heap.size w wr) (fun i _ => n - (intOf i).toNat)
  case atStart =>
    refine ⟨0, Nat.zero_le _, rfl, ?_, hB⟩
    have e : SLk page n l 0 = S0 page n := by unfold SLk; rw [ldPg_zero]; rfl
    rw [e]; exact hP
  case round =>
    clear hP hB
    obtain ⟨k, hk, rfl, hP, hB⟩ := hrel
    have hpl : (SLk page n l k).pg.length = n := ldPg_length page n l k
    have b1 := hP.c1
    by_cases hlt : k < n
    · obtain ⟨lb, lc, g, cg, m, hlv, hcell, hpv, how, hpg, hml, hcg1, hcg2, hFg⟩ := hP.pageAt (i := k) (by omega)
      rw [hlv, hpl] at b1
      have ik : (k : Int) < (n : Int) := by omega
      obtain ⟨lo, hlo⟩ : ∃ lo, lo = k * page := ⟨_, rfl⟩
      have em : (k : Int) * (page : Int) = (lo : Int) := by rw [hlo]; push_cast; rfl
      have hle : lo + page ≤ l.length := by
        rw [HL.out, hlo, ← Nat.succ_mul]
        exact Nat.mul_le_mul_right _ hlt
      have b2 : (lo : Int) ≤ 67108864 := by omega
      obtain ⟨A4, c4, q4, r4⟩ := (hv.below hB (Nat.le_refl _)).run_l lo (by omega)
      have wlo : IntKind.i64.wrap (lo : Int) = (lo : Int) := IntWalk.i64_in _ (by omega)
      have hcell' : wr.cell? ⟨lb, k, none⟩ = some (.slice (some ⟨g, 0, none⟩) page cg) := hcell
      have how' : OwB wr 0 (.slice (some ⟨g, 0, none⟩) page cg) m := how
      have HML := Lib.hid (show m.length = page from hml)
      have HPV := Lib.hid hpv
      have HPL := Lib.hid hpl
      have HLO := Lib.hid hlo
      clear hlv hpg hml hpv hpl hlo hcell how
      go_upto_region 10 with (fail)
      refine wp_region_dtail 12 (by kernel_rfl) (by kernel_rfl) ?_
      simp only [List.take_succ_cons, List.take_zero, List.drop_succ_cons, List.drop_zero]
      repeat (quiet_step (fail))
      refine wpQuiet_nil ?_
      rintro _ ⟨nq, rfl⟩
      clear wlo
      have how2 : OwB (wr.drewN nq) 0 (.slice (some ⟨g, 0, none⟩) page cg) m := how'
      have r5 : RdB (wr.drewN nq) (.slice A4 (l.length - lo) c4) (l.drop lo) := r4
      go_wp2_with (first
        | ((with_reducible refine at_copy ?_); refine wp_copy_At rfl (.tmp 43) (.tmp 48) rfl 0 g page cg 0 (some ⟨g, 0, none⟩) page cg rfl (fun _ => rfl) m how2 HML.out (by omega) _ (l.drop lo) rfl r5 ?_; intro w5 hb5 hg5)
        | fail)
      have hmin : min (l.drop lo).length page = page := by rw [List.length_drop]; omega
      have e5 : splice m 0 ((l.drop lo).take (min (l.drop lo).length page)) = (l.drop lo).take page := by
        rw [hmin]
        unfold splice
        have hd : m.length ≤ 0 + ((l.drop lo).take page).length := by
          rw [List.length_take, List.length_drop, HML.out]; omega
        rw [List.take_zero, List.drop_of_length_le hd, List.append_nil, List.nil_append]
      rw [e5, HLO.out] at hb5
      have hP4 : RfAt (wr.drewN nq) F r (SLk page n l k) := hP.heap (Nat.le_refl _) fun _ _ => rfl
      have hP5 := hP4.page_set (i := k) (by rw [HPL.out]; exact hlt) HPV.out (m := (l.drop (k * page)).take page) (by show _ = page; rw [List.length_take, List.length_drop, ← HLO.out]; omega) rfl hg5 hb5
      have e6 : ({ SLk page n l k with pg := (SLk page n l k).pg.set k ((l.drop (k * page)).take page) } : PS) = SLk page n l (k + 1) := by
        unfold SLk
        rw [← ldPg_set page n l k hlt]
      rw [e6] at hP5
      have hB5 := (below_drewN hB nq).grown hg5 hB.size (fun k' hk' => by cases hk'; exact hF _ hFg)
      clear hb5 hg5 how2 r5 e5 e6 hP4
      go_wp2_with fail
      go_roundw
      case rel => exact ⟨k + 1, by omega, by go_num, hP5, hB5⟩
      case measure => simp [intOf]; omega
    · obtain rfl : k = n := by omega
      obtain ⟨lb, lc, hlv⟩ := hP.own.slice
      rw [hlv, hpl] at b1
      have e : SLk page k l k = SL page k l := by unfold SLk SL; rw [ldPg_end]
      rw [e] at hP
      have HPP := Lib.hid hP
      clear hlv hpl hP e
      go_wp2_with fail
      go_ret2
      exact ⟨r, F, rfl, HPP.out, hF, hB⟩
end Go.Proofs.Ytipjngoenklioaa
