/- plate.Read: the walk. -/
import Derived.Test.YtipjngoenklioaaPlaRW
namespace Go.Proofs.Ytipjngoenklioaa
open Go.RowKit
theorem splice_all {α : Type} (z l : List α) (n : Nat) (hz : z.length = n) (hl : l.length = n) : splice z 0 (l.take (min l.length n)) = l := by
  unfold splice
  rw [hl, Nat.min_self, List.take_of_length_le (Nat.le_of_eq hl), List.take_zero, List.drop_of_length_le (by omega)]
  simp
def ReadBad (w : World) (F : Nat → Prop) (r : Raw) (S : PS) (n : Int) (e : Ending) (w' : World) : Prop := e = .returned (.tuple #[.slice none 0 0, .int .i64 (S.ref n)]) ∧ PlRaw w' F r S ∧ Below w.heap.size w w'
def PS.red (S : PS) : PS := { S with cr := inc64 S.cr }
def ReadOk (w : World) (F : Nat → Prop) (r : Raw) (S : PS) (l : List UInt8) (e : Ending) (w' : World) : Prop := ∃ g, e = .returned (.tuple #[.slice (some ⟨g, 0, none⟩) S.page S.page, .int .i64 0]) ∧ OwB w' w.heap.size (.slice (some ⟨g, 0, none⟩) S.page S.page) l ∧ PlRaw w' F r S.red ∧ Turn F w w' ∧ Off F (.slice (some ⟨g, 0, none⟩) S.page S.page)
set_option maxRecDepth 20000 in
set_option maxHeartbeats 2000000 in
theorem Read_bad (w : World) (F : Nat → Prop) (r : Raw) (S : PS) (n : Int) (h : PlRaw w F r S) (hr : S.ref n ≠ 0) : Calls Try.prog 31 #[plPtr r, .int .i64 n] w (ReadBad w F r S n) := by
  have hrf := refused_any w F r S n h
  have hb1 : (S.ref n == 0) = false := by simpa using hr
  have hb2 : (S.ref n != 0) = true := by simpa using hr
  unfold plPtr at hrf ⊢
  obtain ⟨rr, hrr⟩ : ∃ rr, S.ref n = rr := ⟨_, rfl⟩
  rw [hrr] at hrf hb1 hb2
  have HRR := Lib.hid hrr
  clear hr hrr
  go_enter Try.func31, Try.ntmps31
  go_wp2_with fail
  refine hrf.mono ?_
  rintro e w1 ⟨rfl, hb⟩
  go_wp2_with fail
  go_ret2
  exact ⟨by rw [HRR.out]; rfl, h.below hb, hb⟩
theorem PlRaw.page_len {w : World} {F : Nat → Prop} {r : Raw} {S : PS} (h : PlRaw w F r S) {n : Nat} {l : List UInt8} (hl : readPg S.wild S.pg n = some l) : l.length = S.page := by
  unfold readPg at hl
  split at hl
  · rename_i i hi
    obtain ⟨hlt, _⟩ := lastI_some hi
    rw [List.getElem?_eq_getElem hlt] at hl
    injection hl with hl
    rw [← hl]
    exact (h.ok.we _ (List.getElem_mem hlt)).2
  · exact h.ok.pe _ (List.mem_of_getElem? hl)
theorem PlRaw.read_end {w w1 w2 w3 w4 : World} {F : Nat → Prop} {r : Raw} {S : PS} {l : List UInt8} {e : Ending} (h : PlRaw w F r S) (hw1 : Below w.heap.size w w1) (hP2 : PlRaw w2 F r S.red) (hT2 : w1.grownBy w2 (some r.pb)) (hw3 : Below w2.heap.size w2 w3)
    (hb4 : OBlk w4 w2.heap.size 5 (bvs l)) (hg4 : w3.grownBy w4 (some w2.heap.size)) (hl : l.length = S.page)
    (he : e = .returned (.tuple #[.slice (some ⟨w2.heap.size, 0, none⟩) S.page S.page, .int .i64 0])) : ReadOk w F r S l e w4 := by
  have hs : w.heap.size ≤ w2.heap.size := Nat.le_trans hw1.size hT2.size
  have hP4 : PlRaw w4 F r S.red := (hP2.below hw3).turn (Turn.of_grown (F := fun k => k = w2.heap.size) hg4 (fun k e => (Option.some.inj e).symm)) (fun k hf e => by have := hP2.lt k hf; omega)
  refine ⟨_, he, ?_, hP4, ?_, ?_⟩
  · have := hb4.owB' (base := w.heap.size) hs (by have := h.ok.p2; simp only [maxLen]; omega)
    rwa [hl] at this
  · exact (((Turn.of_below hw1).grown hT2 (fun b e => by cases e; exact .inl h.fp)).new (hw3.mono hs)).grown hg4 (fun b e => by cases e; exact .inr hs)
  · intro g hg hf
    simp [Value.ownBlock] at hg
    have := h.lt g hf
    omega
section
variable {w : World} {F : Nat → Prop} {r : Raw} {S : PS}
theorem PlRaw.entryR (h : PlRaw w F r S.red) {i : Nat} (hi : i < S.wild.length) : ∃ lb c db cd p l, w.cell? ⟨r.pb, 2, none⟩ = some (.slice (some ⟨lb, 0, none⟩) S.wild.length c) ∧ w.cell? ⟨r.pb, 3, none⟩ = some (.map (some r.mb)) ∧
    w.cell? ⟨lb, i * 2 + 1, none⟩ = some (.slice (some ⟨db, 0, none⟩) S.page cd) ∧ OwB w 0 (.slice (some ⟨db, 0, none⟩) S.page cd) l ∧ S.wild[i] = (p, l) ∧ l.length = S.page := by
  obtain ⟨lb, c, db, cd, p, l, _, _, hw, hv, _, _, h1, h2, _, h3⟩ := h.entry hi
  have hw' : S.wild[i]? = some (p, l) := hw
  rw [List.getElem?_eq_getElem hi] at hw'
  exact ⟨lb, c, db, cd, p, l, by rw [h.c2, hv]; rfl, h.c3, h1, h2, Option.some.inj hw', h3⟩
theorem PlRaw.mapR (h : PlRaw w F r S.red) {n : Int} {i : Nat} (hi : lastI S.wild n = some i) : ∃ D : DataW Unit, w.ownsMap Try.prog 3 (plainElem Try.prog 3) r.mb S.wild.length D ∧ Maps.has D (.int .i64 n) = true ∧ ∀ z, D.atKey (.int .i64 n) z = .lit (.int .i64 (i : Int)) := by
  obtain ⟨D, hown, hL⟩ := h.map
  have h1 := (hL.2 n).1
  have h2 := (hL.2 n).2 i
  have e : S.red.wild = S.wild := rfl
  rw [e] at h1 h2
  rw [hi] at h1
  exact ⟨D, hown, h1, h2 hi⟩
theorem PlRaw.mapN (h : PlRaw w F r S.red) {n : Int} (hi : lastI S.wild n = none) : ∃ D : DataW Unit, w.ownsMap Try.prog 3 (plainElem Try.prog 3) r.mb S.wild.length D ∧ Maps.has D (.int .i64 n) = false := by
  obtain ⟨D, hown, hL⟩ := h.map
  have h1 := (hL.2 n).1
  have e : S.red.wild = S.wild := rfl
  rw [e, hi] at h1
  exact ⟨D, hown, h1⟩
theorem PlRaw.placeRd (h : PlRaw w F r S.red) {n : Nat} {l : List UInt8} (hl : S.pg[n]? = some l) (m : Nat) : RdB (w.drewN m) (.slice (some ⟨r.sb, n * S.page, none⟩) S.page (S.sz - n * S.page)) l := by
  obtain ⟨hn, rfl⟩ := List.getElem?_eq_some_iff.1 hl
  have h1 : (n + 1) * S.page = n * S.page + S.page := Nat.succ_mul n S.page
  have hp1 : 512 ≤ S.page := h.ok.p1
  have hnp : n < S.np := by have e : S.pg.length = S.np := h.ok.pl; omega
  have h2 : (n + 1) * S.page ≤ S.sz := by
    rw [show S.sz = S.np * S.page by rw [Nat.mul_comm]; exact h.ok.sn]
    exact Nat.mul_le_mul_right _ hnp
  have hf : S.pg.flatten.length = S.sz := h.flen
  have hc := h.safeRd.cut (lo := n * S.page) (hi := (n + 1) * S.page) (by omega) (by show _ ≤ S.pg.flatten.length; omega)
  rw [if_neg (by show ¬ S.sz = _; omega)] at hc
  have e1 : (n + 1) * S.page - n * S.page = S.page := by omega
  rw [e1] at hc
  have e2 : (S.red.pg.flatten.take ((n + 1) * S.page)).drop (n * S.page) = S.pg[n] := flat_page S.pg n h.ok.pe hn
  rw [e2] at hc
  simp only [Option.map_some, add_row, Nat.zero_add] at hc
  exact hc
end
set_option maxRecDepth 20000 in
set_option maxHeartbeats 4000000 in
theorem Read_ok (w : World) (F : Nat → Prop) (r : Raw) (S : PS) (n : Nat) (l : List UInt8) (h : PlRaw w F r S) (hr : S.ref n = 0) (hn : n < S.np) (hl : readPg S.wild S.pg n = some l) : Calls Try.prog 31 #[plPtr r, .int .i64 (n : Int)] w (ReadOk w F r S l) := by
  have hrf := refused_any w F r S n h
  rw [hr] at hrf
  have hlen := h.page_len hl
  have HLEN := Lib.hid hlen
  have HL := Lib.hid hl
  clear hr hlen hl
  have k1 := h.ok.p1
  have k2 := h.ok.p2
  have k3 := h.ok.n2
  unfold plPtr at hrf ⊢
  have zero : ∀ w : World, (zeroValue 3).run Try.prog w = .ok (.int .i64 0) w := fun w => by kernel_rfl
  go_enter Try.func31, Try.ntmps31
  go_wp2_with fail
  refine hrf.mono ?_
  rintro e w1 ⟨rfl, hb1⟩
  have hP1 := h.below hb1
  have c9 := hP1.c9
  have f9 := hP1.fz (j := 9) (by decide)
  go_upto_region 4 with (fail)
  go_region
  have hg2 := grownBy_trans (grownBy_setCell w1 ⟨r.pb, 9, none⟩ (.int .i64 (inc64 S.cr))) (grownBy_drew _ _)
  have hP2 : PlRaw (w1.setCell ⟨r.pb, 9, none⟩ (.int .i64 (inc64 S.cr))).drew F r S.red := (hP1.pb_write (S' := S.red) (grownBy_setCell w1 ⟨r.pb, 9, none⟩ (.int .i64 (inc64 S.cr))) (hP1.blk.set 9 (.int .i64 (inc64 S.cr))) { hP1.ok with c1 := inc64_range S.cr } rfl rfl rfl).drew
  have e2 : wrap64 (S.cr + 1) = inc64 S.cr := rfl
  rw [e2]
  clear c9 f9 e2
  generalize (w1.setCell ⟨r.pb, 9, none⟩ (.int .i64 (inc64 S.cr))).drew = w2 at *
  have d0 : w2.cell? ⟨r.pb, 0, none⟩ = some (.int .i64 (S.page : Int)) := hP2.c0
  have lt2 := hP2.blk.lt
  have hpb3 : r.pb < w2.heap.size + 1 := by omega
  cases hi : lastI S.wild (n : Int) with
  | some i =>
    obtain ⟨hlt, hpg⟩ := lastI_some hi
    have HI := Lib.hid hi
    have HE := Lib.hid (show S.wild[i].2 = l by have := HL.out; unfold readPg at this; simp only [hi, List.getElem?_eq_getElem hlt] at this; exact Option.some.inj this)
    clear hi hpg
    go_wp2_with (first
      | (at_make; refine wp_make_B rfl (.tmp 28) (.tmp 28) rfl _ S.page rfl rfl (by go_num) (by omega) ?_; intro w3 hb3 hw3 hs3; have hP3 := hP2.below hw3; obtain ⟨lb, lc, db, cd, p, l', d2, d3, cdat, hrd, hx, hx2⟩ := hP3.entryR hlt; obtain ⟨D, hown, hLD⟩ := hP3.mapR HI.out; have HLD := Lib.hid hLD; clear hLD; have ij : (i : Int) < (S.wild.length : Int) := by omega)
      | (at_lookup; refine wpList_lookup_own_ok_int _ rfl (.tmp 34) (.tmp 35) 62 rfl 3 3 .i64 intKeyed Try.underlying62 Try.underlying3 (zero _) _ _ D rfl hown _ _ rfl (key_nat (by omega)) ?_; intro c hc hwc; rw [HLD.out.1]; obtain rfl : c = (i : Int) := (by rw [HLD.out.2] at hc; injection hc with hc; injection hc with _ hc; exact hc.symm); clear hc)
      | ((with_reducible refine at_copy ?_); refine wp_copy_B rfl (.tmp 40) (.tmp 48) rfl _ S.page S.page w2.heap.size 0 rfl _ hb3 (fun _ => rfl) (by simp) _ l' rfl hrd.rd ?_; intro w4 hb4 hg4)
      | fail)
    go_ret2
    have hw := HE.out
    rw [hx] at hw
    simp only at hw
    subst hw
    rw [splice_all _ _ _ (by simp) hx2] at hb4
    exact h.read_end hb1 hP2 hg2 hw3 hb4 hg4 hx2 rfl
  | none =>
    have HI := Lib.hid hi
    have HE := Lib.hid (show S.pg[n]? = some l by have := HL.out; unfold readPg at this; simp only [hi] at this; exact this)
    clear hi
    go_wp2_with (first
      | (at_make; refine wp_make_B rfl (.tmp 28) (.tmp 28) rfl _ S.page rfl rfl (by go_num) (by omega) ?_; intro w3 hb3 hw3 hs3; have hP3 := hP2.below hw3; have d3 := hP3.c3; obtain ⟨D, hown, hLD⟩ := hP3.mapN HI.out; have HLD := Lib.hid hLD; clear hLD)
      | (at_lookup; refine wpList_lookup_own_ok_int _ rfl (.tmp 34) (.tmp 35) 62 rfl 3 3 .i64 intKeyed Try.underlying62 Try.underlying3 (zero _) _ _ D rfl hown _ _ rfl (key_nat (by omega)) ?_; intro c hc hwc; rw [HLD.out]; clear hc)
      | (go_at_call 38; refine (place_any _ F r S.red n hn hP3).mono ?_; rintro e w4 ⟨rfl, m4, rfl⟩)
      | ((with_reducible refine at_copy ?_); refine wp_copy_B rfl (.tmp 50) (.tmp 53) rfl _ S.page S.page w2.heap.size 0 rfl _ (hb3.drewN m4) (fun _ => rfl) (by simp) _ l rfl (hP3.placeRd HE.out m4) ?_; intro w5 hb5 hg5)
      | fail)
    go_ret2
    rw [splice_all _ _ _ (by simp) HLEN.out] at hb5
    exact h.read_end hb1 hP2 hg2 (below_drewN hw3 m4) hb5 hg5 HLEN.out rfl
end Go.Proofs.Ytipjngoenklioaa
