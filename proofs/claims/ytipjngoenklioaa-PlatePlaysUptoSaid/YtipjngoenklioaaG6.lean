/- Texts joined: espalierref03.Plate; espalierref03.Plate; espalierref03.Book; espalierref03.Book; Step laws for regions that draw -/
import Derived.Test.YtipjngoenklioaaG1
import Derived.Test.YtipjngoenklioaaG2
import Derived.Test.YtipjngoenklioaaG4
import Derived.Test.YtipjngoenklioaaG5
import Derived.Deep.DeepCutAuto
-- espalierref03.Plate: Write: walks.
namespace Go.Proofs.Ytipjngoenklioaa
open Go.RowKit
set_option maxRecDepth 20000 in
set_option maxHeartbeats 2000000 in
theorem RWrite_bad (w : World) (F : Nat → Prop) (r : RRaw) (S : PS) (n : Int) (v : Value) (h : RfAt w F r S) (hr : S.ref n ≠ 0) : Calls Try.prog 45 #[rfPtr r, .int .i64 n, v] w fun e w' => e = .returned (.int .i64 (S.ref n)) ∧ w = w' := by
  obtain ⟨A, c, hv⟩ := h.own.slice
  have c1 := h.c1
  have c3 := h.c3
  have hpl := h.ok.pl
  rw [hv, hpl] at c1
  cases hd : S.down
  · have hb : n < 0 ∨ (S.np : Int) ≤ n := by
      unfold PS.ref at hr
      rw [hd, if_neg (by simp)] at hr
      by_cases h : n < 0 ∨ (S.np : Int) ≤ n
      · exact h
      · rw [if_neg h] at hr; exact absurd rfl hr
    have HR : Hid (S.ref n = 30) := by show _ = _; unfold PS.ref; rw [hd, if_neg (by simp), if_pos hb]
    rw [hd] at c3
    clear hv hpl hr hd
    unfold rfPtr
    by_cases h0 : n < 0
    · clear hb
      go_enter Try.func45, Try.ntmps45
      go_wp2_with fail
      go_ret
      rw [HR.out]
      exact ⟨rfl, rfl⟩
    · have hb' : (S.np : Int) ≤ n := by omega
      clear hb
      go_enter Try.func45, Try.ntmps45
      go_wp2_with fail
      go_ret
      rw [HR.out]
      exact ⟨rfl, rfl⟩
  · have HR : Hid (S.ref n = 3) := by show _ = _; unfold PS.ref; rw [hd]; rfl
    rw [hd] at c3
    clear hv hpl hr hd
    unfold rfPtr
    go_enter Try.func45, Try.ntmps45
    go_wp2_with fail
    go_ret
    rw [HR.out]
    exact ⟨rfl, rfl⟩
theorem ref_zero {S : PS} {n : Nat} (hr : S.ref n = 0) : S.down = false ∧ n < S.np := by
  unfold PS.ref at hr
  split at hr
  · cases hr
  · rename_i h1
    split at hr
    · cases hr
    · exact ⟨by simpa using h1, by omega⟩
set_option maxRecDepth 20000 in
set_option maxHeartbeats 2000000 in
theorem RWrite_size (w : World) (F : Nat → Prop) (r : RRaw) (S : PS) (n : Nat) (v : Value) (l : List UInt8) (h : RfAt w F r S) (hr : S.ref n = 0) (hv : RdB w v l) (hl : l.length ≠ S.page) : Calls Try.prog 45 #[rfPtr r, .int .i64 (n : Int), v] w fun e w' => e = .returned (.int .i64 31) ∧ w = w' := by
  obtain ⟨A, c, hv'⟩ := h.own.slice
  have c0 := h.c0
  have c1 := h.c1
  have c3 := h.c3
  have hpl := h.ok.pl
  rw [hv', hpl] at c1
  obtain ⟨hd, hn⟩ := ref_zero hr
  rw [hd] at c3
  obtain ⟨B, d, rfl, hm⟩ := hv.form
  have hb1 : ((l.length : Int) == (S.page : Int)) = false := by simp; omega
  have hb2 : ((l.length : Int) != (S.page : Int)) = true := by simp; omega
  have i1 : ¬ ((S.np : Int) ≤ (n : Int)) := by omega
  clear hv' hpl hr hd hl
  unfold rfPtr
  go_enter Try.func45, Try.ntmps45
  go_wp2_with fail
  go_ret
  exact ⟨rfl, rfl⟩
def RPutAt (w : World) (F : Nat → Prop) (r : RRaw) (S' : PS) (v : Value) (e : Ending) (w' : World) : Prop := e = .returned v ∧ ∃ r' F', r'.pb = r.pb ∧ RfAt w' F' r' S' ∧ Step F w F' w'
set_option maxRecDepth 20000 in
set_option maxHeartbeats 4000000 in
theorem RWrite_ok (w : World) (F : Nat → Prop) (r : RRaw) (S : PS) (n : Nat) (v : Value) (l : List UInt8) (h : RfAt w F r S) (hr : S.ref n = 0) (hv : RdB w v l) (hvo : OffA F v) (hl : l.length = S.page) (hsz : (S.wild.length + 1) * 32 ≤ 140737488355328) :
    Calls Try.prog 45 #[rfPtr r, .int .i64 (n : Int), v] w (RPutAt w F r (S.write n l) (.int .i64 (WriteE S))) := by
  obtain ⟨A, c, hv'⟩ := h.own.slice
  have c0 := h.c0
  have c1 := h.c1
  have c3 := h.c3
  have c10 := h.c10
  have f10 := h.fz (j := 10) (by omega)
  have hpl := h.ok.pl
  rw [hv', hpl] at c1
  obtain ⟨hd, hn⟩ := ref_zero hr
  rw [hd] at c3
  obtain ⟨B, d, rfl, hm⟩ := hv.form
  have hb1 : ((l.length : Int) == (S.page : Int)) = true := by simp; omega
  have hb2 : ((l.length : Int) != (S.page : Int)) = false := by simp; omega
  have i1 : ¬ ((S.np : Int) ≤ (n : Int)) := by omega
  have HL := Lib.hid hl
  have k2 := h.ok.p2
  have hl2 : l.length ≤ 65536 := by omega
  have hbk := h.blk.set 10 (.int .i64 (inc64 S.cw))
  have hP1 := h.pb_write (S' := S.cnt 1) (grownBy_setCell w ⟨r.pb, 10, none⟩ (.int .i64 (inc64 S.cw))) hbk (PS.cnt_ok h.ok 1) rfl rfl rfl rfl
  have hT1 : Turn F w (w.setCell ⟨r.pb, 10, none⟩ (.int .i64 (inc64 S.cw))) := (Turn.refl F w).setCell _ _ (.inl h.fp)
  have HP1 := Lib.hid hP1
  have HT1 := Lib.hid hT1
  have HN := Lib.hid hn
  have hfa := fails_any _ F r (S.cnt 1) hP1
  unfold rfPtr at hfa ⊢
  clear hv' hpl hr hd hl hbk hP1 hT1 hn
  go_enter Try.func45, Try.ntmps45
  go_wp2_with fail
  refine hfa.mono ?_
  rintro e w2 ⟨rfl, ⟨ra, hbk, h1, h2⟩, hg⟩
  have hP2 := HP1.out.acted hbk h1 (fun hp => h2 (Int.not_lt.1 hp)) hg
  have hT2 : Turn F w w2 := HT1.out.grown hg (fun b e => by cases e; exact .inl h.fp)
  have hv2 := hv.turn hT2 hvo
  clear hfa hbk h1 h2 hg c0 c1 c3 c10 f10
  obtain ⟨lv, lc, hvl⟩ := hP2.loose.slice
  have HVL := Lib.hid hvl
  have d2 := hP2.c2
  have hvl' : r.wl = .slice lv (S.acted 1).wild.length lc := hvl
  rw [show ({ r with ra := ra } : RRaw).wl = r.wl from rfl, hvl'] at d2
  have d2' : w2.cell? ⟨r.pb, 2, none⟩ = some (.slice lv S.wild.length lc) := d2
  have hlo : Own w2 0 85 2 (.slice lv S.wild.length lc) S.wild.length (wcells S.wild r.dv) := by
    have := hP2.loose
    rw [show ({ r with ra := ra } : RRaw).wl = r.wl from rfl, hvl'] at this
    exact this
  have hblk2 := hP2.blk
  have lb2 := hblk2.lt
  obtain ⟨i0, hi, hz0, hz1, hz2⟩ := info_parts rloose_info
  obtain ⟨j0, gi, gz0, gz1, gz2⟩ := info_parts u8_info
  clear d2 hvl hvl'
  go_upto_region 9 with (fail)
  go_region_law
    (first
      | (refine step_append (by rfl) (.const (.slice none 0 0)) (.tmp 50) _ _ (by rfl) w2.heap.size 5 j0 _ 1 1 Try.underlying28 gi gz0 gz1 gz2 rfl _ 0 [] (by rfl) (Own.nil _ _ _ _) _ l.length (bvs l) (by rfl) (Rd.src _ Try.underlying28 (by omega) hv2.drew.rd (bvs_one l)) (by omega) (by omega) (Nat.le_refl _) ?_; intro v4 w4 ho4 hg4 hk4; rw [Nat.zero_add, List.nil_append] at ho4; obtain ⟨V4, e4, rfl⟩ := Own.slice ho4; have hb4 : Below w2.heap.size w2 w4 := ((Below.refl w2.heap.size w2).drew).grown hg4 (Nat.le_refl _) (fun j hj => by cases hj); have hblk4 := hblk2.below hb4 lb2; have hblk4a := hblk4.alloc (.cells #[.int .i64 (n : Int), .slice V4 l.length e4] 85); have hl4 := Own.alloc (Own.below' hlo hb4 (Nat.le_refl _)) (.cells #[.int .i64 (n : Int), .slice V4 l.length e4] 85); have c4 : w4.cell? ⟨r.pb, 2, none⟩ = some (.slice lv S.wild.length lc) := (hb4.cell lb2).trans d2'; have c4a : (w4.alloc (.cells #[.int .i64 (n : Int), .slice V4 l.length e4] 85)).cell? ⟨r.pb, 2, none⟩ = some (.slice lv S.wild.length lc) := (World.cell?_alloc_lt w4 _ _ hblk4.lt).trans c4)
      | (refine step_append (by rfl) (.tmp 48) (.tmp 53) _ _ (by rfl) 0 85 i0 _ 2 32 Try.underlying72 hi hz0 hz1 hz2 rfl _ S.wild.length (wcells S.wild r.dv) (by rfl) hl4 (.slice (some ⟨w4.heap.size, 0, none⟩) 1 1) 1 [.int .i64 (n : Int), .slice V4 l.length e4] (by rfl) (Rd.src _ Try.underlying72 (by omega) (Rd.two w4 _ _ _) (by simp [Value.oneCell'])) (by omega) (by omega) (Nat.zero_le _) ?_; intro v5 w5 ho5 hg5 hk5; have hblk5 := hblk4a.grown hg5 (fun e => hl4.ne_T hblk4a (by decide) e); have c5 : w5.cell? ⟨r.pb, 2, none⟩ = some (.slice lv S.wild.length lc) := hblk5.cell' (congrArg some HVL.out); have f5 := hblk5.frozen (j := 2) (by simp [rfCells]); obtain ⟨lv5, lc5, rfl⟩ := Own.slice ho5)
      | fail)
  all_goals
    have EW : r.wl = .slice lv S.wild.length lc := HVL.out
    have hb4a : Below w2.heap.size w2 (w4.alloc (.cells #[.int .i64 (n : Int), .slice V4 l.length e4] 85)) := hb4.alloc hb4.size _
    have hd4 : OwB (w4.alloc (.cells #[.int .i64 (n : Int), .slice V4 l.length e4] 85)) w2.heap.size (.slice V4 l.length e4) l := Own.alloc ho4 _
    have hR := hP2.wrote (n := n) (l := l) HN.out HL.out hb4a hd4 ho5 (by show World.grownBy _ w5 r.wl.ownBlock; rw [EW]; exact hg5) (by show _ = r.wl.ownBlock ∨ _; rw [EW]; exact hk5) (grownBy_setCell w5 ⟨r.pb, 2, none⟩ (.slice lv5 (S.wild.length + 1) lc5)) (hblk5.set 2 (.slice lv5 (S.wild.length + 1) lc5))
    have hR1 : RfAt (w5.setCell ⟨r.pb, 2, none⟩ (.slice lv5 (S.wild.length + 1) lc5)) _ _ (S.wrote n l) := hR.1
    have hR2 := hR.2
    clear EW hb4a hd4 hR hblk5 hg5 ho5 hk5 hblk4 hblk4a hl4 c4 c4a c5 f5 ho4 hb4 hg4 hk4
    generalize (w5.setCell ⟨r.pb, 2, none⟩ (.slice lv5 (S.wild.length + 1) lc5)) = w6 at *
    have hS6 : Step F w _ w6 := (⟨hT2, fun k hk => .inl hk⟩ : Step F w F w2).trans hR2
    have e6 := hR1.c6
    have e7 := hR1.c7
    have e8 := hR1.c8
    cases hf : (S.acts == 0)
    · have HW := Lib.hid (show S.write n l = S.wrote n l by unfold PS.write; rw [hf]; rfl)
      have HE := Lib.hid (show WriteE S = 0 by unfold WriteE; rw [hf]; rfl)
      have hf' : ((S.cnt 1).acts == 0) = false := hf
      clear hf e6 e7 e8
      rw [hf']
      go_wp2_with fail
      go_ret
      rw [HW.out, HE.out]
      refine ⟨rfl, _, _, ?_, hR1, hS6⟩; rfl
    · have HW := Lib.hid (show S.write n l = (S.wrote n l).fell S.keep S.torn S.at_ by unfold PS.write; rw [hf]; rfl)
      have HE := Lib.hid (show WriteE S = 3 by unfold WriteE; rw [hf]; rfl)
      have hfa := rfall_any _ _ _ (S.wrote n l) _ S.keep S.torn S.at_ hR1 hR1.keepRd h.ok.t2
      unfold rfPtr fallV at hfa
      have t1 : w6.cell? ⟨r.pb, 7, none⟩ = some (.int .i64 S.torn) := e7
      have t2 : w6.cell? ⟨r.pb, 8, none⟩ = some (.int .i64 S.at_) := e8
      have hf' : ((S.cnt 1).acts == 0) = true := hf
      clear hf e7 e8
      rw [hf']
      go_wp2_with fail
      refine hfa.mono ?_
      rintro e w7 ⟨⟨v7, rfl⟩, hP7, hT7⟩
      go_wp2_with fail
      go_ret
      rw [HW.out, HE.out]
      refine ⟨rfl, _, _, ?_, hP7, hS6.trans ⟨hT7, fun k hk => .inl hk⟩⟩; rfl
end Go.Proofs.Ytipjngoenklioaa

-- espalierref03.Plate: Sync: the walk.
namespace Go.Proofs.Ytipjngoenklioaa
open Go.RowKit
theorem splice_whole {α : Type} (l m : List α) (h : m.length = l.length) : splice l 0 m = m := by
  unfold splice
  simp [h]
/-- A page is written whole. -/
theorem RfAt.page_put {w w' : World} {F : Nat → Prop} {r : RRaw} {S : PS} (h : RfAt w F r S) {p : Nat} {g cap : Nat} {m : List UInt8} (hv : r.pv[p]? = some (.slice (some ⟨g, 0, none⟩) S.page cap)) (hb : ∃ cs, OBlk w g 5 cs) (hg : w.grownBy w' (some g)) (ho : OwB w' 0 (.slice (some ⟨g, 0, none⟩) S.page cap) m) (hm : m.length = S.page) :
    RfAt w' F r { S with pg := S.pg.set p m } := by
  obtain ⟨cs, hb⟩ := hb
  have hpe : ∀ l ∈ S.pg.set p m, l.length = S.page := by
    intro l hl
    rcases List.mem_or_eq_of_mem_set hl with h1 | rfl
    · exact h.ok.pe l h1
    · exact hm
  exact
    { ok := { h.ok with pl := by simp only [List.length_set]; exact h.ok.pl, pe := hpe }
      blk := h.blk.grown hg (fun e => h.blk.ne hb (by decide) (Option.some.inj e))
      own := by simp only [List.length_set]; exact h.own.grown hg (fun g' hg' e => h.own.ne_T hb (by decide) (by rw [hg', e]))
      pl := by simp only [List.length_set]; exact h.pl
      page := fun i hi v hvi => by
        have hi' : i < S.pg.length := by simpa using hi
        obtain ⟨ho', hf'⟩ := h.page i hi' v hvi
        refine ⟨?_, hf'⟩
        by_cases e : p = i
        · subst e
          rw [hv] at hvi
          cases hvi
          simp only [List.getElem_set_self]
          exact ho
        · simp only [List.getElem_set_ne e]
          exact Own.grown ho' hg fun g' hg' e' => h.apart p i _ _ e hv hvi g rfl (by rw [hg', e'])
      apart := h.apart
      loose := h.loose.grown hg (fun g' hg' e => h.loose.ne_T hb (by decide) (by rw [hg', e]))
      dlen := h.dlen
      data := fun i hi v hvi => ⟨Own.grown (h.data i hi v hvi).1 hg fun g' hg' e => ((h.data i hi v hvi).2 g' hg').2 p _ hv e, (h.data i hi v hvi).2⟩
      keep := h.keep.grown hg (fun g' hg' e => h.keep.ne_T hb (by decide) (by rw [hg', e]))
      armed := h.armed
      acts := h.acts
      ra := h.ra
      fp := h.fp, fl := h.fl, fw := h.fw, fk := h.fk, lt := fun k hk => Nat.lt_of_lt_of_le (h.lt k hk) hg.size }
def PS.part (S : PS) (k : Nat) : PS := { S.acted 2 with pg := syncPg (S.wild.take k) S.pg }
theorem PS.part_next {S : PS} {k : Nat} (hk : k < S.wild.length) : ({ S.part k with pg := (S.part k).pg.set S.wild[k].1 S.wild[k].2 } : PS) = S.part (k + 1) := by
  unfold PS.part
  rw [List.take_succ_eq_append_getElem hk, syncPg_snoc]
/-- No write is loose any more. -/
theorem RfAt.settled {w w' : World} {F : Nat → Prop} {r : RRaw} {S : PS} (h : RfAt w F r S) (hg : w.grownBy w' (some r.pb)) (hb : OBlk w' r.pb 76 (rfCells { r with wl := .slice none 0 0, dv := [] } S)) : RfAt w' F { r with wl := .slice none 0 0, dv := [] } { S with wild := [] } :=
  { ok := { h.ok with we := (fun x hx => by cases hx) }, blk := hb
    own := h.own.grown hg (fun g hg' e => h.own.ne_T h.blk (by decide) (by rw [hg', e]))
    pl := h.pl
    page := fun i hi v hv => ⟨Own.grown (h.page i hi v hv).1 hg (fun g hg' e => OwB.ne_T (h.page i hi v hv).1 h.blk (by decide) (by rw [hg', e])), (h.page i hi v hv).2⟩
    apart := h.apart
    loose := Own.nil _ _ _ _
    dlen := rfl
    data := fun i hi => by simp at hi
    keep := h.keep.grown hg (fun g hg' e => h.keep.ne_T h.blk (by decide) (by rw [hg', e]))
    armed := h.armed, acts := h.acts, ra := h.ra
    fp := h.fp, fl := h.fl, fw := (fun g hg' => by cases hg'), fk := h.fk, lt := fun k hk => Nat.lt_of_lt_of_le (h.lt k hk) hg.size }
set_option maxRecDepth 20000 in
set_option maxHeartbeats 8000000 in
theorem RSync_any (w : World) (F : Nat → Prop) (r : RRaw) (S : PS) (h : RfAt w F r S) :
    Calls Try.prog 46 #[rfPtr r] w (RPutAt w F r S.sync (.int .i64 (SyncE S))) := by
  have c3 := h.c3
  have c11 := h.c11
  have f11 := h.fz (j := 11) (by omega)
  have hwlen : S.wild.length ≤ 9223372036854775807 := by
    obtain ⟨_, A', c', hv', q1, q2, _⟩ := h.loose.rd
    simp only [maxLen] at q2
    omega
  cases hd : S.down
  · rw [hd] at c3
    have hbk := h.blk.set 11 (.int .i64 (inc64 S.cs))
    have hP1 := h.pb_write (S' := S.cnt 2) (grownBy_setCell w ⟨r.pb, 11, none⟩ (.int .i64 (inc64 S.cs))) hbk (PS.cnt_ok h.ok 2) rfl rfl rfl rfl
    have hT1 : Turn F w (w.setCell ⟨r.pb, 11, none⟩ (.int .i64 (inc64 S.cs))) := (Turn.refl F w).setCell _ _ (.inl h.fp)
    have HP1 := Lib.hid hP1
    have HT1 := Lib.hid hT1
    have HD := Lib.hid hd
    have hfa := fails_any _ F r (S.cnt 2) hP1
    unfold rfPtr at hfa ⊢
    clear hd hbk hP1 hT1
    go_enter Try.func46, Try.ntmps46
    go_wp2_with fail
    refine hfa.mono ?_
    rintro e w2 ⟨rfl, ⟨ra, hbk, h1, h2⟩, hg⟩
    have hP2 := HP1.out.acted hbk h1 (fun hp => h2 (Int.not_lt.1 hp)) hg
    have hT2 : Turn F w w2 := HT1.out.grown hg (fun b e => by cases e; exact .inl h.fp)
    clear hfa hbk h1 h2 hg c3 c11 f11
    cases hf : (S.acts == 0)
    · have HW := Lib.hid (show S.sync = S.synced by unfold PS.sync; rw [HD.out, hf]; rfl)
      have HE := Lib.hid (show SyncE S = 0 by unfold SyncE; rw [HD.out, hf]; rfl)
      have hf' : ((S.cnt 2).acts == 0) = false := hf
      have hP0 : RfAt w2 F { r with ra := ra } (S.part 0) := hP2
      clear hf hP2
      rw [hf']
      clear hf'
      go_wp2_with fail
      go_loopw [4] (fun i wr => ∃ k : Nat, k ≤ S.wild.length ∧ i = .int .i64 (k : Int) ∧ RfAt wr F { r with ra := ra } (S.part k) ∧ Turn F w wr) (fun i _ => S.wild.length - (intOf i).toNat)
      case atStart => exact ⟨0, Nat.zero_le _, rfl, hP0, hT2⟩
      case round =>
        clear hP0 hT2
        obtain ⟨k, hk, rfl, hP, hT⟩ := hrel
        obtain ⟨LV, lc, hlv⟩ := hP.own.slice
        obtain ⟨WV, wc, hwv⟩ := hP.loose.slice
        have c1 := hP.c1
        have c2 := hP.c2
        rw [hlv] at c1
        rw [hwv] at c2
        have hpl : (S.part k).pg.length = S.np := hP.ok.pl
        rw [hpl] at c1
        have c2' : wr.cell? ⟨r.pb, 2, none⟩ = some (.slice WV S.wild.length wc) := c2
        have c1' : wr.cell? ⟨r.pb, 1, none⟩ = some (.slice LV S.np lc) := c1
        clear c1 c2
        by_cases hlt : k < S.wild.length
        · have ik : (k : Int) < (S.wild.length : Int) := by omega
          obtain ⟨A2, c2q, ad2, B2, d2, hv2, hA2, hp, hd2, hdv⟩ := hP.looseDv (i := k) hlt
          have hAA := hwv.symm.trans hv2
          injection hAA with hAA _ _
          subst hAA
          subst hA2
          have hwx := h.ok.we _ (List.getElem_mem hlt)
          obtain ⟨hpn, hdl⟩ := hwx
          have hnx := S.part_next hlt
          have hdata := (hP.data k hlt _ hdv).1.rd
          have hp' : wr.cell? (ad2.add (k * 2)) = some (.int .i64 (S.wild[k].1 : Int)) := hp
          have hd' : wr.cell? ⟨(ad2.add (k * 2)).block, (ad2.add (k * 2)).off + 1, none⟩ = some (.slice B2 S.wild[k].2.length d2) := hd2
          have hdata' : RdB wr (.slice B2 S.wild[k].2.length d2) S.wild[k].2 := hdata
          have hpg : S.wild[k].1 < (S.part k).pg.length := by rw [hpl]; exact hpn
          obtain ⟨g, cap, hpv, hpo, hFg, hgl⟩ := hP.pageOwn hpg
          obtain ⟨A3, c3, ad3, hl3, hA3, hpc⟩ := hP.pageCell hpv
          have hAA := hlv.symm.trans hl3
          injection hAA with hAA _ _
          subst hAA
          subst hA3
          have hpol : ((S.part k).pg[S.wild[k].1]).length = S.page := hP.ok.pe _ (List.getElem_mem hpg)
          have hpc' : wr.cell? (ad3.add S.wild[k].1) = some (.slice (some ⟨g, 0, none⟩) S.page cap) := hpc
          have hpo' : OwB wr 0 (.slice (some ⟨g, 0, none⟩) S.page cap) (S.part k).pg[S.wild[k].1] := hpo
          have HPU := fun w' (m : List UInt8) (h1 : wr.grownBy w' (some g)) (h2 : OwB w' 0 (.slice (some ⟨g, 0, none⟩) S.page cap) m) (h3 : m.length = S.page) => hP.page_put hpv (OwB.blkU hpo rfl) h1 h2 h3
          have HPU' := Lib.hid HPU
          have HNX := Lib.hid hnx
          have HDL := Lib.hid hdl
          have HPO := Lib.hid hpol
          clear hp hd2 hdv hdata hpv hpo hpc hnx hdl hpol HPU hlv hl3 hwv hv2
          generalize S.wild[k].2 = dat at *
          generalize (S.part k).pg[S.wild[k].1] = old at *
          generalize S.wild[k].1 = pn at *
          have ipn : (pn : Int) < (S.np : Int) := by omega
          have c2a : wr.cell? ⟨r.pb, 2, none⟩ = some (.slice (some ad2) S.wild.length wc) := c2'
          have c1a : wr.cell? ⟨r.pb, 1, none⟩ = some (.slice (some ad3) S.np lc) := c1'
          have hp1 := h.ok.p1
          clear c2' c1' hP hpl
          go_upto_region 11 with (fail)
          refine wp_region_dtail 22 (by kernel_rfl) (by kernel_rfl) ?_
          simp only [List.take_succ_cons, List.take_zero, List.drop_succ_cons, List.drop_zero]
          repeat (quiet_step (fail))
          refine wpQuiet_nil ?_
          rintro _ ⟨nq, rfl⟩
          have hpo3 : OwB (wr.drewN nq) 0 (.slice (some ⟨g, 0, none⟩) S.page cap) old := hpo'
          go_wp2_with (first
            | ((with_reducible refine at_copy ?_); refine wp_copy_At rfl (.tmp 49) (.tmp 57) rfl 0 g S.page cap 0 (some ⟨g, 0, none⟩) S.page cap rfl (fun _ => rfl) _ hpo3 HPO.out (by omega) _ dat rfl hdata' ?_; intro w5 hb5 hg5)
            | fail)
          go_goals
          have hdl2 := HDL.out
          rw [Nat.min_eq_left (by omega), List.take_length, splice_whole _ _ (by rw [hdl2, HPO.out])] at hb5
          have hg5' : wr.grownBy w5 (some g) := ⟨hg5.os, hg5.tape, hg5.output, hg5.size, hg5.block⟩
          exact ⟨⟨k + 1, by omega, by go_num, by rw [← HNX.out]; exact HPU'.out w5 dat hg5' hb5 hdl2, hT.grown hg5' (fun b e => by cases e; exact .inl hFg)⟩, by simp only [intOf, IntKind.wrap_i64]; omega⟩
        · obtain rfl : k = S.wild.length := by omega
          have hend := hP.settled (grownBy_setCell wr ⟨r.pb, 2, none⟩ (.slice none 0 0)) (hP.blk.set 2 (.slice none 0 0))
          have hT3 := hT.grown (grownBy_setCell wr ⟨r.pb, 2, none⟩ (.slice none 0 0)) (fun b e => by cases e; exact .inl h.fp)
          have f2 := hP.fz (j := 2) (by omega)
          have HEN := Lib.hid hend
          have heq : ({ S.part S.wild.length with wild := [] } : PS) = S.synced := by
            unfold PS.part PS.synced
            rw [List.take_length]
          have HEQ := Lib.hid heq
          clear heq hend hP hlv hwv
          go_wp2_with fail
          go_ret
          rw [HW.out, HE.out, ← HEQ.out]
          refine ⟨rfl, _, F, ?_, HEN.out, hT3, fun k hk => .inl hk⟩
          rfl
    · have HW := Lib.hid (show S.sync = (S.acted 2).fell S.keep S.torn S.at_ by unfold PS.sync; rw [HD.out, hf]; rfl)
      have HE := Lib.hid (show SyncE S = 3 by unfold SyncE; rw [HD.out, hf]; rfl)
      have e6 := hP2.c6
      have e7 := hP2.c7
      have e8 := hP2.c8
      have hfa := rfall_any _ _ _ (S.acted 2) _ S.keep S.torn S.at_ hP2 hP2.keepRd h.ok.t2
      unfold rfPtr fallV at hfa
      have t1 : w2.cell? ⟨r.pb, 7, none⟩ = some (.int .i64 S.torn) := e7
      have t2 : w2.cell? ⟨r.pb, 8, none⟩ = some (.int .i64 S.at_) := e8
      have hf' : ((S.cnt 2).acts == 0) = true := hf
      clear hf e7 e8
      rw [hf']
      go_wp2_with fail
      refine hfa.mono ?_
      rintro e w7 ⟨⟨v7, rfl⟩, hP7, hT7⟩
      go_wp2_with fail
      go_ret
      rw [HW.out, HE.out]
      refine ⟨rfl, _, F, ?_, hP7, hT2.trans hT7 (fun b hb => .inl hb), fun k hk => .inl hk⟩
      rfl
  · rw [hd] at c3
    have HW := Lib.hid (show S.sync = S by unfold PS.sync; rw [hd]; rfl)
    have HE := Lib.hid (show SyncE S = 3 by unfold SyncE; rw [hd]; rfl)
    clear hd
    unfold rfPtr
    go_enter Try.func46, Try.ntmps46
    go_wp2_with fail
    go_ret
    rw [HW.out, HE.out]
    exact ⟨rfl, r, F, rfl, h, Step.refl F w⟩
end Go.Proofs.Ytipjngoenklioaa

-- espalierref03.Book: lists of bytes that came out: words and laws.
namespace Go.Proofs.Ytipjngoenklioaa
open Go.RowKit
/-- The mark of a byte: of list k, at place q. -/
def mrk (k q : Nat) : UInt8 := UInt8.ofNat (k + q / 251)
theorem mrk_val (k q : Nat) : ((k : Int) + (q : Int) / 251) % 256 = ((mrk k q).toNat : Int) := by
  unfold mrk; rw [UInt8.toNat_ofNat']; omega
def mkL (k m : Nat) : List UInt8 := (List.range m).map (mrk k)
theorem mkL_length (k m : Nat) : (mkL k m).length = m := by simp [mkL]
theorem mkL_snoc (k m : Nat) : mkL k (m + 1) = mkL k m ++ [mrk k m] := by simp [mkL, List.range_succ]
theorem mkL_take (k : Nat) {m n : Nat} (h : m ≤ n) : (mkL k n).take m = mkL k m := by
  unfold mkL
  rw [← List.map_take, List.take_range, Nat.min_eq_left h]
theorem mkL_get (k m q : Nat) (h : q < (mkL k m).length) : (mkL k m)[q] = mrk k q := by simp [mkL]
def OwLs (w : World) (base : Nat) (vs : List Value) (f : Nat → List UInt8) : Prop := ∀ (j : Nat) (u : Value), vs[j]? = some u → OwB w base u (f j)
def ApartL (vs : List Value) : Prop := ∀ (i j : Nat) (u u' : Value), i ≠ j → vs[i]? = some u → vs[j]? = some u' → ∀ g, u.ownBlock = some g → some g ≠ u'.ownBlock
theorem OwLs.grown {w w' : World} {base : Nat} {vs : List Value} {f : Nat → List UInt8} {row : Option Nat} (h : OwLs w base vs f) (hg : w.grownBy w' row) (hne : ∀ (j : Nat) (u : Value), vs[j]? = some u → ∀ g, u.ownBlock = some g → some g ≠ row) : OwLs w' base vs f :=
  fun j u hj => (h j u hj).grown hg (hne j u hj)
theorem OwLs.below' {w w' : World} {base B : Nat} {vs : List Value} {f : Nat → List UInt8} (h : OwLs w base vs f) (hb : Below B w w') (hB : w.heap.size ≤ B) : OwLs w' base vs f := fun j u hj => (h j u hj).below' hb hB
theorem OwLs.alloc {w : World} {base : Nat} {vs : List Value} {f : Nat → List UInt8} (h : OwLs w base vs f) (o : Obj) : OwLs (w.alloc o) base vs f := fun j u hj => (h j u hj).alloc o
/-- One byte of one of them is written. -/
theorem OwLs.set {w : World} {base : Nat} {vs : List Value} {f : Nat → List UInt8} (h : OwLs w base vs f) (ha : ApartL vs) {i g n c : Nat} (hi : vs[i]? = some (.slice (some ⟨g, 0, none⟩) n c)) (j : Nat) (x : UInt8) {f' : Nat → List UInt8} (hf : f' i = (f i).set j x) (hf' : ∀ k, k ≠ i → f' k = f k) :
    OwLs (w.setCell ⟨g, j, none⟩ (.int .u8 (x.toNat : Int))) base vs f' := by
  intro k u hk
  by_cases e : k = i
  · subst e
    rw [hi] at hk
    injection hk with hk
    subst hk
    rw [hf]
    exact (h k _ hi).set j x
  · rw [hf' k e]
    exact (h k u hk).grown (grownBy_setCell w _ _) (fun g' hg' => by
      have := ha k i u _ e hk hi g' hg'
      simpa [Value.ownBlock] using this)
/-- The slice e holds the marks of list b; where it lies in x's block it is no longer than n, and b is x's list. -/
def EOk (w : World) (base : Nat) (x : Value) (n : Nat) (bx : Nat) (e : Value) (m b : Nat) : Prop := OwB w base e (mkL b m) ∧ (∀ g, e.ownBlock = some g → x.ownBlock = some g → m ≤ n ∧ b = bx)
/-- What an append to x leaves of e. -/
theorem EOk.step {w w' : World} {base n s : Nat} {x x' e : Value} {bx m b : Nat} (h : EOk w base x n bx e m b) (hx : OwB w base x (mkL bx n)) (hx' : OwB w' base x (mkL bx n)) (hg : w.grownBy w' x.ownBlock)
    (hb : x'.ownBlock = x.ownBlock ∨ x'.ownBlock = some s) (hs : w.heap.size ≤ s) : EOk w' base x' (n + 1) bx e m b := by
  obtain ⟨ho, hm⟩ := h
  have hnew : ∀ g, e.ownBlock = some g → x'.ownBlock = some g → m ≤ n + 1 ∧ b = bx := by
    intro g he hxe
    rcases hb with hb | hb
    · rw [hb] at hxe
      have := hm g he hxe
      exact ⟨by omega, this.2⟩
    · rw [hb] at hxe
      injection hxe with hxe
      have := (ho.lt g he).2; omega
  refine ⟨?_, hnew⟩
  by_cases hsame : ∃ g, e.ownBlock = some g ∧ x.ownBlock = some g
  · obtain ⟨g, he, hxg⟩ := hsame
    obtain ⟨hmn, rfl⟩ := hm g he hxg
    rcases ho.form with ⟨rfl, _⟩ | ⟨g1, c1, rfl, _⟩
    · cases he
    rcases hx.form with ⟨rfl, _⟩ | ⟨g2, c2, rfl, _⟩
    · cases hxg
    simp [Value.ownBlock] at he hxg
    subst he; subst hxg
    have hc := ho.cap_eq hx
    subst hc
    have := hx'.take (m := m) (by rw [mkL_length]; exact hmn)
    rw [mkL_take _ hmn] at this
    rw [mkL_length]
    exact this
  · exact ho.grown hg (fun g he hr => hsame ⟨g, he, hr.symm⟩)
theorem EOk.grown {w w' : World} {base n : Nat} {x e : Value} {bx m b : Nat} {row : Option Nat} (h : EOk w base x n bx e m b) (hg : w.grownBy w' row) (hne : ∀ g, e.ownBlock = some g → some g ≠ row) : EOk w' base x n bx e m b :=
  ⟨h.1.grown hg hne, h.2⟩
/-- Another slice comes into x's place: one in another block. -/
theorem EOk.fresh {w : World} {base n n' : Nat} {x y e : Value} {bx by' m b : Nat} (h : EOk w base x n bx e m b) (hne : ∀ g, e.ownBlock = some g → y.ownBlock ≠ some g) : EOk w base y n' by' e m b :=
  ⟨h.1, fun g he hy => absurd hy (hne g he)⟩
theorem OwB.ne_own' {w : World} {b b' : Nat} {u v : Value} {l : List UInt8} {n : Nat} {vs : List Value} (h : OwB w b u l) (h' : Own w b' 28 1 v n vs) : ∀ g, u.ownBlock = some g → some g ≠ v.ownBlock :=
  fun _ hg he => h.ne_own h' he.symm hg.symm
/-- How many of the first q are kept. -/
def cntQ (q : Nat) : Nat := min q 3 + (if 8 < q then 1 else 0) + (if 19 < q then 1 else 0)
def keptQ (q : Nat) : Bool := decide (q < 3 ∨ q = 8 ∨ q = 19)
theorem cntQ_keep {q : Nat} (h : keptQ q = true) : cntQ (q + 1) = cntQ q + 1 ∧ cntQ q < 5 := by
  have h := of_decide_eq_true h
  unfold cntQ
  rcases h with h | rfl | rfl
  · rw [if_neg (by omega), if_neg (by omega), if_neg (by omega), if_neg (by omega)]; omega
  · decide
  · decide
theorem cntQ_drop {q : Nat} (h : keptQ q = false) (hq : q < 20) : cntQ (q + 1) = cntQ q := by
  have h := of_decide_eq_false h
  unfold cntQ
  by_cases h1 : 8 < q
  · rw [if_pos (by omega), if_pos h1, if_neg (by omega), if_neg (by omega)]; omega
  · rw [if_neg (by omega), if_neg h1, if_neg (by omega), if_neg (by omega)]; omega
/-- Where the growing of slice k stands. -/
structure InvQ (F : Nat → Prop) (w : World) (s2 base : Nat) (vs : List Value) (f : Nat → List UInt8) (v : Value) (k q : Nat) (gr x : Value) (es : List Value) (wi : World) : Prop where
  len : es.length = 5 * k + cntQ q
  own : Own wi s2 28 1 gr es.length es
  ox : OwB wi base x (mkL k ((f k).length + q))
  hE : ∀ (j : Nat) (e : Value), es[j]? = some e → (∃ m, EOk wi base x ((f k).length + q) k e m (j / 5)) ∧ ∀ (i : Nat) (u : Value), k < i → vs[i]? = some u → ∀ g, e.ownBlock = some g → u.ownBlock ≠ some g
  hk : ∀ (u : Value), vs[k]? = some u → EOk wi base x ((f k).length + q) k u (f k).length k
  hx : ∀ (i : Nat) (u : Value), i ≠ k → vs[i]? = some u → ∀ g, x.ownBlock = some g → u.ownBlock ≠ some g
  hv : Own wi base 28 1 v vs.length vs
  hl : ∀ (j : Nat) (u : Value), j ≠ k → vs[j]? = some u → OwB wi base u (mkL j (f j).length)
  hs : ∀ (j : Nat) (u : Value), vs[j]? = some u → ∀ g, u.ownBlock = some g → g < s2
  ht : Turn F w wi
  hxF : ∀ g, x.ownBlock = some g → F g ∨ w.heap.size ≤ g
  s2w : w.heap.size ≤ s2
  size : s2 ≤ wi.heap.size
section
variable {F : Nat → Prop} {w wi w3 w4 : World} {s2 base : Nat} {vs : List Value} {f : Nat → List UInt8} {v : Value} {k q : Nat} {gr x x3 gr4 : Value} {es : List Value}
/-- A byte is put behind x. -/
theorem InvQ.grow (h : InvQ F w s2 base vs f v k q gr x es wi)
    (ho3 : OwB w3 base x3 (mkL k ((f k).length + q) ++ [mrk k ((f k).length + q)])) (hg3 : wi.grownBy w3 x.ownBlock) (hb3 : x3.ownBlock = x.ownBlock ∨ x3.ownBlock = some (wi.heap.size + 1)) (hk3 : OwB w3 base x (mkL k ((f k).length + q)))
    (hq : es.length = 5 * k + cntQ (q + 1) ∨ es.length = 5 * k + cntQ q) :
    Own w3 s2 28 1 gr es.length es ∧ OwB w3 base x3 (mkL k ((f k).length + (q + 1))) ∧
    (∀ (j : Nat) (e : Value), es[j]? = some e → (∃ m, EOk w3 base x3 ((f k).length + (q + 1)) k e m (j / 5)) ∧ ∀ (i : Nat) (u : Value), k < i → vs[i]? = some u → ∀ g, e.ownBlock = some g → u.ownBlock ≠ some g) ∧
    (∀ (u : Value), vs[k]? = some u → EOk w3 base x3 ((f k).length + (q + 1)) k u (f k).length k) ∧
    (∀ (i : Nat) (u : Value), i ≠ k → vs[i]? = some u → ∀ g, x3.ownBlock = some g → u.ownBlock ≠ some g) ∧
    Own w3 base 28 1 v vs.length vs ∧ (∀ (j : Nat) (u : Value), j ≠ k → vs[j]? = some u → OwB w3 base u (mkL j (f j).length)) ∧ Turn F w w3 ∧ (∀ g, x3.ownBlock = some g → F g ∨ w.heap.size ≤ g) ∧ s2 ≤ w3.heap.size := by
  have hgr3 : Own w3 s2 28 1 gr es.length es := h.own.grown hg3 (fun g hg => h.ox.ne_own h.own hg)
  rw [← mkL_snoc, Nat.add_assoc] at ho3
  have hsz := h.ht.size
  have s3 := hg3.size
  have hz := h.size
  refine ⟨hgr3, ho3, fun j e hj => ?_, fun u hu => ?_, ?_, h.hv.grown hg3 (fun g hg => h.ox.ne_own h.hv hg), fun j u hj hu => (h.hl j u hj hu).grown hg3 (fun g hg he => h.hx j u hj hu g he.symm hg), h.ht.grown hg3 (fun g hg => h.hxF g hg), fun g hg => ?_, by omega⟩
  · obtain ⟨⟨m, he⟩, hne⟩ := h.hE j e hj
    exact ⟨⟨m, he.step h.ox hk3 hg3 hb3 (by omega)⟩, hne⟩
  · exact (h.hk u hu).step h.ox hk3 hg3 hb3 (by omega)
  · intro i u hi hu g hg hu'
    rcases hb3 with e | e
    · exact h.hx i u hi hu g (e ▸ hg) hu'
    · rw [e] at hg
      injection hg with hg
      have := h.hs i u hu g hu'
      omega
  · rcases hb3 with e | e
    · exact h.hxF g (e ▸ hg)
    · rw [e] at hg
      injection hg with hg
      right; omega
/-- .. and it is not kept. -/
theorem InvQ.drop (h : InvQ F w s2 base vs f v k q gr x es wi) (hq : q < 20) (hk : keptQ q = false)
    (ho3 : OwB w3 base x3 (mkL k ((f k).length + q) ++ [mrk k ((f k).length + q)])) (hg3 : wi.grownBy w3 x.ownBlock) (hb3 : x3.ownBlock = x.ownBlock ∨ x3.ownBlock = some (wi.heap.size + 1)) (hk3 : OwB w3 base x (mkL k ((f k).length + q))) :
    InvQ F w s2 base vs f v k (q + 1) gr x3 es w3 := by
  have hlen := h.len
  have hc := cntQ_drop hk hq
  obtain ⟨h1, h2, h3, h4, h5, h6, h7, h8, h8', h9⟩ := h.grow ho3 hg3 hb3 hk3 (.inr hlen)
  exact ⟨by rw [hc]; exact hlen, h1, h2, h3, h4, h5, h6, h7, h.hs, h8, h8', h.s2w, h9⟩
/-- .. and it is kept. -/
theorem InvQ.step (h : InvQ F w s2 base vs f v k q gr x es wi) (hk : keptQ q = true)
    (hV : ∀ g, v.ownBlock = some g → g < s2)
    (ho3 : OwB w3 base x3 (mkL k ((f k).length + q) ++ [mrk k ((f k).length + q)])) (hg3 : wi.grownBy w3 x.ownBlock) (hb3 : x3.ownBlock = x.ownBlock ∨ x3.ownBlock = some (wi.heap.size + 1)) (hk3 : OwB w3 base x (mkL k ((f k).length + q)))
    (hgr4 : Own w4 s2 28 1 gr4 (es.length + 1) (es ++ [x3])) (hg4 : w3.grownBy w4 gr.ownBlock) : InvQ F w s2 base vs f v k (q + 1) gr4 x3 (es ++ [x3]) w4 := by
  have hlen := h.len
  obtain ⟨hc, hc5⟩ := cntQ_keep hk
  obtain ⟨hgr3, ho, h3, h4, h5, h6, h7, h8, h8', h9⟩ := h.grow ho3 hg3 hb3 hk3 (.inr hlen)
  have ho4 := ho.grown hg4 (ho.ne_own' hgr3)
  have s4 := hg4.size
  have hsz := h8.size
  have hne : ∀ {u : Value} {l : List UInt8}, OwB w3 base u l → ∀ g, u.ownBlock = some g → some g ≠ gr.ownBlock := fun hu => OwB.ne_own' hu hgr3
  refine ⟨by simp [hlen, hc]; omega, by simpa using hgr4, ho4, ?_, fun u hu => (h4 u hu).grown hg4 (hne (h4 u hu).1), h5, ?_, fun j u hj hu => (h7 j u hj hu).grown hg4 (hne (h7 j u hj hu)), h.hs, ?_, h8', h.s2w, by omega⟩
  · intro j e hj
    rcases Nat.lt_or_ge j es.length with hlt | hge
    · rw [List.getElem?_append_left hlt] at hj
      obtain ⟨⟨m, he⟩, hn⟩ := h3 j e hj
      exact ⟨⟨m, he.grown hg4 (hne he.1)⟩, hn⟩
    · rw [List.getElem?_append_right hge] at hj
      have hj0 : j = es.length := by
        have := (List.getElem?_eq_some_iff.mp hj).1
        simp at this; omega
      subst hj0
      simp at hj
      subst hj
      have hd : es.length / 5 = k := by rw [hlen]; omega
      rw [hd]
      exact ⟨⟨_, ho4, fun g _ _ => ⟨Nat.le_refl _, rfl⟩⟩, fun i u hi hu => h5 i u (by omega) hu⟩
  · refine h6.grown hg4 (fun g hg he => ?_)
    have h1 := hV g hg
    have h2 := (hgr3.lt g he.symm).1
    omega
  · refine h8.grown hg4 (fun g hg => ?_)
    have h1 := (hgr3.lt g hg).1
    have h2 := h.s2w
    right; omega
end
theorem InvQ.gr3 {F : Nat → Prop} {w wi : World} {s2 base : Nat} {vs : List Value} {f : Nat → List UInt8} {v : Value} {k q : Nat} {gr x : Value} {es : List Value} (h : InvQ F w s2 base vs f v k q gr x es wi) :
    ∀ w3, wi.grownBy w3 x.ownBlock → Own w3 s2 28 1 gr es.length es := fun _ hg => h.own.grown hg (fun _ hg => h.ox.ne_own h.own hg)
theorem OwB.one {w : World} {b : Nat} {u : Value} {l : List UInt8} (h : OwB w b u l) : u.oneCell' = true := by
  rcases h.form with ⟨rfl, _⟩ | ⟨g, c, rfl, _⟩ <;> rfl
theorem OwB.slice' {w : World} {b n : Nat} {u : Value} {l : List UInt8} (h : OwB w b u l) (hn : l.length = n) : ∃ A c, u = .slice A n c := by
  subst hn; exact Own.slice h
def markF (f : Nat → List UInt8) (k : Nat) (j : Nat) : List UInt8 := bif decide (j < k) then mkL j (f j).length else f j
def markQ (f : Nat → List UInt8) (k q : Nat) (j : Nat) : List UInt8 := bif decide (j = k) then mkL k q ++ (f k).drop q else markF f k j
theorem markQ_0 (f : Nat → List UInt8) (k j : Nat) : markQ f k 0 j = markF f k j := by
  unfold markQ markF
  by_cases h : j = k <;> simp [h, mkL]
theorem markQ_n (f : Nat → List UInt8) (k j : Nat) : markQ f k (f k).length j = markF f (k + 1) j := by
  unfold markQ markF
  by_cases h : j = k
  · simp [h]
  · by_cases h2 : j < k
    · have : j < k + 1 := by omega
      simp [h, h2, this]
    · have : ¬ j < k + 1 := by omega
      simp [h, h2, this]
theorem markQ_set (f : Nat → List UInt8) (k q : Nat) (hq : q < (f k).length) : markQ f k (q + 1) k = (markQ f k q k).set q (mrk k q) := by
  unfold markQ
  simp only [decide_true, cond_true]
  rw [List.set_append_right _ _ (by rw [mkL_length]; exact Nat.le_refl _)]
  rw [mkL_length, Nat.sub_self, List.drop_eq_getElem_cons hq, List.set_cons_zero, mkL_snoc, List.append_assoc]
  rfl
theorem markQ_ne (f : Nat → List UInt8) (k q j : Nat) (h : j ≠ k) : markQ f k (q + 1) j = markQ f k q j := by
  unfold markQ; simp [h]
section laws
variable {w : World} {ops : Array Oper} {rest : List Oper} {o : Oper} {a : Act} {Q : Exit → Act → World → Prop}
/-- append(vs, u) of one slice that has just been laid. -/
theorem wp_append_L (hgd : o.guard = none) (s x : Operand)
    (ho : o.op = .call { callee := .builtin .append, args := #[s, x], argTypes := #[52, 52] })
    (base : Nat) (v : Value) (vs : List Value) (hs : a.eval s = v) (hown : Own w base 28 1 v vs.length vs)
    (u : Value) (hu : u.oneCell' = true) (T : TypeId) (hx : a.eval x = .slice (some ⟨w.heap.size, 0, none⟩) 1 1) (hsm : (vs.length + 1) * 24 ≤ 140737488355328) (hbase : base ≤ w.heap.size)
    (h : ∀ v' w', Own w' base 28 1 v' (vs.length + 1) (vs ++ [u]) → w.grownBy w' v.ownBlock → (v'.ownBlock = v.ownBlock ∨ (v'.ownBlock = some (w.heap.size + 1))) → wpList Try.prog ops Q rest (a.put o.dst v') w') :
    wpList Try.prog ops Q (o :: rest) a (w.alloc (.cells #[u] T)) := by
  obtain ⟨i, hi, hz0, hz1, hz2⟩ := info_parts L_info
  refine wp_append hgd s x _ _ ho base 28 i _ 1 24 Try.underlying52 hi hz0 hz1 hz2 rfl v vs.length vs hs (hown.alloc _) (.slice (some ⟨w.heap.size, 0, none⟩) 1 1) 1 [u] hx
    (Rd.src _ Try.underlying52 (by omega) (Rd.one w u T) (by simpa using hu)) (by omega) (by omega) (by simp; omega) ?_
  intro v' w' h1 h2 h3
  refine h v' w' h1 ⟨h2.os, h2.tape, h2.output, ?_, fun k hk hne => (h2.block k (by simp; omega) hne).trans (Below.heap_alloc _ _ _ hk)⟩ (by simpa using h3)
  have := h2.size
  simp at this; omega
end laws
end Go.Proofs.Ytipjngoenklioaa

-- espalierref03.Book: marked, Take, Owned: walks.
namespace Go.Proofs.Ytipjngoenklioaa
open Go.RowKit
set_option maxRecDepth 20000 in
set_option maxHeartbeats 2000000 in
theorem marked_any (v : Value) (n m : Nat) (w : World) (hv : RdB w v (mkL n m)) (hn : n ≤ 1000000000000) : Calls Try.prog 63 #[v, .int .i64 (n : Int)] w fun e w' => e = .returned (.bool true) ∧ w = w' := by
  have hm := hv.le
  obtain ⟨A, c, rfl, hc⟩ := hv.form
  rw [mkL_length] at hc hv hm ⊢
  go_enter Try.func63, Try.ntmps63
  go_wp2_with fail
  go_loopw [5] (fun i wr => ∃ q : Nat, q ≤ m ∧ i = .int .i64 (q : Int) ∧ w = wr) (fun i _ => m - (intOf i).toNat)
  case atStart => exact ⟨0, Nat.zero_le _, rfl, rfl⟩
  case round =>
    obtain ⟨q, hq, rfl, rfl⟩ := hrel
    by_cases hlt : q < m
    · obtain ⟨ad, rfl, hcell⟩ := hv.at_ (j := q) (by rw [mkL_length]; exact hlt)
      rw [mkL_get, ← mrk_val] at hcell
      have i1 : (q : Int) < (m : Int) := by omega
      go_wp2_with fail
      exact ⟨⟨q + 1, by omega, by go_num, trivial⟩, by simp [intOf]; omega⟩
    · obtain rfl : q = m := by omega
      go_wp2_with fail
      go_ret
      exact ⟨rfl, rfl⟩
theorem Own.ne_Tb {w : World} {b n size : Nat} {v : Value} {xs : List Value} {T T' : TypeId} {g : Nat} {cs : List Value} (h : Own w b T size v n xs) (hg : OBlk w g T' cs) (hT : T ≠ T') : some g ≠ v.ownBlock := by
  rcases h.2 with ⟨rfl, _⟩ | ⟨g', cap, cs', rfl, _, hg', _⟩
  · simp [Value.ownBlock]
  · intro e
    simp [Value.ownBlock] at e
    subst e
    exact (hg'.ne hg hT) rfl
/-- A book: its block, its lists. -/
structure BookAt (w : World) (b0 : Nat) (bb : Nat) (v : Value) (vs : List Value) (f : Nat → List UInt8) : Prop where
  blk : OBlk w bb 80 [v]
  own : Own w b0 28 1 v vs.length vs
  each : OwLs w 0 vs f
  apart : ApartL vs
def InL (vs : List Value) (b : Nat) : Prop := ∃ (j : Nat) (u : Value), vs[j]? = some u ∧ u.ownBlock = some b
theorem BookAt.below {w w' : World} {b0 bb : Nat} {v : Value} {vs : List Value} {f : Nat → List UInt8} (h : BookAt w b0 bb v vs f) (hb : Below w.heap.size w w') : BookAt w' b0 bb v vs f :=
  ⟨h.blk.below hb h.blk.lt, Own.below' h.own hb (Nat.le_refl _), h.each.below' hb (Nat.le_refl _), h.apart⟩
set_option maxRecDepth 20000 in
set_option maxHeartbeats 2000000 in
/-- A list comes into the book. -/
theorem Take_any (w : World) (b0 bb : Nat) (v : Value) (vs : List Value) (f : Nat → List UInt8) (u : Value) (l : List UInt8) (h : BookAt w b0 bb v vs f) (h0 : b0 ≤ w.heap.size) (hn : vs.length ≤ 100000000) (hu : OwB w 0 u l) (ha : ∀ (j : Nat) (y : Value), vs[j]? = some y → ∀ g, u.ownBlock = some g → y.ownBlock ≠ some g) :
    Calls Try.prog 55 #[.pointer (some ⟨bb, 0, none⟩), u] w fun e w' => (∃ x, e = .returned x) ∧ ∃ v', BookAt w' b0 bb v' (vs ++ [u]) (fun j => if j = vs.length then l else f j) ∧ Turn (fun b => b = bb ∨ v.ownBlock = some b) w w' ∧ (∀ g, v'.ownBlock = some g → v.ownBlock = some g ∨ w.heap.size ≤ g) := by
  obtain ⟨A, c, hv⟩ := Own.slice h.own
  have c0 := h.blk.cell' (j := 0) rfl
  have hone := OwB.one hu
  obtain ⟨A', c', hus⟩ := Own.slice hu
  subst hv
  subst hus
  have HH := Lib.hid h
  have lb := h.blk.lt
  clear h
  go_enter Try.func55, Try.ntmps55
  go_wp2_with (first
    | (at_builtin; refine wp_append_L rfl (.tmp 8) (.tmp 10) rfl b0 _ vs rfl HH.out.own _ hone _ rfl (by omega) h0 ?_; intro v' w' ho hg hk; obtain ⟨V, d, rfl⟩ := Own.slice ho; have hb' := HH.out.blk.grown hg (fun e => HH.out.own.ne_Tb HH.out.blk (by decide) e); have c0' := hb'.cell' (j := 0) (u := .slice A vs.length c) rfl; have f0' := hb'.frozen (j := 0) (by simp))
    | fail)
  refine bodyPost_end (results_none rfl _ _ _) rfl ?_
  have hg2 := grownBy_setCell w' ⟨bb, 0, none⟩ (.slice V (vs.length + 1) d)
  have hh := HH.out
  have hbT : ∀ {x : Value} {m : List UInt8}, OwB w 0 x m → OwB (w'.setCell ⟨bb, 0, none⟩ (.slice V (vs.length + 1) d)) 0 x m := fun {x m} hx => by
    have h1 : OwB w' 0 x m := Own.grown hx hg (fun g hg' e => hx.ne_own hh.own e.symm (by rw [hg']))
    exact Own.grown h1 hg2 (fun g hg' e => OwB.ne_blk h1 hb' (by decide) (by rw [hg', e]))
  refine ⟨⟨_, rfl⟩, .slice V (vs.length + 1) d, ⟨hb'.set 0 _, ?_, ?_, ?_⟩, ?_, ?_⟩
  · rw [List.length_append]
    exact Own.grown ho hg2 (fun g hg' e => ho.ne_Tb hb' (by decide) (by rw [hg', e]))
  · intro j y hj
    rcases Nat.lt_or_ge j vs.length with hlt | hge
    · rw [List.getElem?_append_left hlt] at hj
      show OwB _ 0 y (if j = vs.length then l else f j)
      rw [if_neg (show ¬ j = vs.length by omega)]
      exact hbT (hh.each j y hj)
    · rw [List.getElem?_append_right hge] at hj
      have hj0 : j = vs.length := by
        have := (List.getElem?_eq_some_iff.mp hj).1
        simp at this; omega
      subst hj0
      simp at hj
      subst hj
      show OwB _ 0 _ (if vs.length = vs.length then l else f vs.length)
      rw [if_pos rfl]
      exact hbT hu
  · intro i j y y' hij hi hj g hg' e
    have split : ∀ (i : Nat) (y : Value), (vs ++ [Value.slice A' l.length c'])[i]? = some y → (i < vs.length ∧ vs[i]? = some y) ∨ (i = vs.length ∧ y = .slice A' l.length c') := fun i y hi => by
      rcases Nat.lt_or_ge i vs.length with hlt | hge
      · rw [List.getElem?_append_left hlt] at hi
        exact .inl ⟨hlt, hi⟩
      · rw [List.getElem?_append_right hge] at hi
        have h0 : i = vs.length := by
          have := (List.getElem?_eq_some_iff.mp hi).1
          simp at this; omega
        subst h0
        simp at hi
        exact .inr ⟨rfl, hi.symm⟩
    rcases split i y hi with ⟨h1, h2⟩ | ⟨h1, rfl⟩
    · rcases split j y' hj with ⟨h3, h4⟩ | ⟨h3, rfl⟩
      · exact hh.apart i j y y' hij h2 h4 g hg' e
      · exact ha i y h2 g e.symm hg'
    · rcases split j y' hj with ⟨h3, h4⟩ | ⟨h3, rfl⟩
      · exact ha j y' h4 g hg' e.symm
      · omega
  · exact (Turn.of_grown hg (fun k e => .inr e)).grown hg2 (fun b e => by cases e; exact .inl (.inl rfl))
  · intro g hg'
    rcases hk with e | e
    · exact .inl (e ▸ hg')
    · right
      have := e.symm.trans hg'
      injection this with this
      omega

theorem OBlk.grownL {w w' : World} {bb : Nat} {v : Value} {u : Value} {l : List UInt8} {b : Nat} (h : OBlk w bb 80 [v]) (hu : OwB w b u l) (hg : w.grownBy w' u.ownBlock) : OBlk w' bb 80 [v] :=
  h.grown hg (fun e => OwB.ne_blk hu h (by decide) e)
set_option maxRecDepth 100000 in
set_option maxHeartbeats 8000000 in
theorem BookOwned_any (v : Value) (vs : List Value) (f : Nat → List UInt8) (b0 bb : Nat) (w : World) (h : BookAt w b0 bb v vs f) (hn : vs.length ≤ 8388608) (hsz : ∀ j, j < vs.length → (f j).length ≤ 1000000000) :
    Calls Try.prog 56 #[.pointer (some ⟨bb, 0, none⟩)] w fun e w' => e = .returned (.bool true) ∧ Turn (InL vs) w w' ∧ OwLs w' 0 vs (fun j => mkL j (f j).length) := by
  obtain ⟨hblk, hv0, hl, ha⟩ := h
  have hv : Own w 0 28 1 v vs.length vs := Own.low hv0 (Nat.zero_le _)
  obtain ⟨A, cv, rfl⟩ := hv.slice
  clear hv0
  go_enter Try.func56, Try.ntmps56
  go_wp2_with fail
  go_loopw [3] (fun i wr => ∃ k : Nat, i = .int .i64 (k : Int) ∧ k ≤ vs.length ∧ Own wr 0 28 1 (.slice A vs.length cv) vs.length vs ∧ OwLs wr 0 vs (markF f k) ∧ OBlk wr bb 80 [.slice A vs.length cv] ∧ Turn (InL vs) w wr)
    (fun i _ => vs.length - (intOf i).toNat)
  case atStart => exact ⟨0, rfl, Nat.zero_le _, hv, fun j u hj => by simpa [markF] using hl j u hj, hblk, Turn.refl _ _⟩
  case round =>
    clear hv hl hblk
    obtain ⟨k, rfl, hk, hv, hl, hblk, hT⟩ := hrel
    have c0 := hblk.cell' (j := 0) rfl
    by_cases hlt : k < vs.length
    · obtain ⟨gL, rfl⟩ : ∃ gL, A = some ⟨gL, 0, none⟩ := by
        rcases hv.form with ⟨h, h0⟩ | ⟨g, c, h, _⟩
        · omega
        · injection h with h; exact ⟨g, h⟩
      have hku : vs[k]? = some vs[k] := List.getElem?_eq_getElem hlt
      have how := hl k _ hku
      have hcell := hv.cells k _ hku
      have hlen : (markF f k k) = f k := by simp [markF]
      rw [hlen] at how
      obtain ⟨B, c, hform⟩ := how.slice
      rw [hform] at hku hcell
      have HU := Lib.hid hku
      have hm1 := hsz k hlt
      clear hlen how hform hku
      go_wp2_with fail
      obtain ⟨wq, rfl⟩ : ∃ wq, wq = wr := ⟨_, rfl⟩
      go_loopw [5] (fun i wi => ∃ q : Nat, i = .int .i64 (q : Int) ∧ q ≤ (f k).length ∧ Own wi 0 28 1 (.slice (some ⟨gL, 0, none⟩) vs.length cv) vs.length vs ∧ OwLs wi 0 vs (markQ f k q) ∧ OBlk wi bb 80 [.slice (some ⟨gL, 0, none⟩) vs.length cv] ∧ Turn (InL vs) w wi)
        (fun i _ => (f k).length - (intOf i).toNat)
      case atStart => exact ⟨0, rfl, Nat.zero_le _, hv, fun j u hj => by rw [markQ_0]; exact hl j u hj, hblk, hT⟩
      case round =>
        clear hv hl hblk hT hcell c0
        obtain ⟨q, rfl, hq, hv, hl, hblk, hT⟩ := hrel
        by_cases hql : q < (f k).length
        · have how := hl k _ HU.out
          have hlen : (markQ f k q k).length = (f k).length := by simp [markQ, mkL_length]; omega
          obtain ⟨g, rfl⟩ : ∃ g, B = some ⟨g, 0, none⟩ := by
            rcases how.form with ⟨_, h0⟩ | ⟨g, c, h, _⟩
            · rw [h0] at hlen; simp at hlen; omega
            · injection h with h; exact ⟨g, h⟩
          have hc2 := how.cell (j := q) (by omega)
          have hf2 := how.frozen (j := q) (by omega)
          have hgb := how.lt g rfl
          have hne := how.ne_own hv rfl
          have hnb := fun x => hblk.far (p := ⟨g, q, none⟩) (fun e => OwB.ne_blk how hblk (by decide) (by rw [e]; rfl)) x
          have HNB := Lib.hid hnb
          have HIN : Hid (InL vs g) := Lib.hid ⟨k, _, HU.out, rfl⟩
          clear hnb
          generalize ((markQ f k q k)[q]'(by omega)).toNat = y at hc2
          clear how hlen
          go_wp2_with fail
          go_roundw
          case rel =>
            refine ⟨q + 1, by go_num, by omega, ?_, ?_, HNB.out _, hT.setCell _ _ (.inl HIN.out)⟩
            · exact hv.far (p := ⟨g, q, none⟩) hne _
            · rw [mrk_val]
              exact hl.set ha HU.out q (mrk k q) (markQ_set f k q hql) (fun j hj => markQ_ne f k q j hj)
          case measure => simp [intOf]; omega
        · obtain rfl : q = (f k).length := by omega
          go_wp2_with fail
          go_roundw
          case rel => exact ⟨k + 1, by go_num, by omega, hv, fun j u hj => by rw [← markQ_n]; exact hl j u hj, hblk, hT⟩
          case measure => simp [intOf]; omega
    · obtain rfl : k = vs.length := by omega
      have hl2 : ∀ (j : Nat) (u : Value), vs[j]? = some u → OwB wr 0 u (mkL j (f j).length) := fun j u hj => by
        have hjl := (List.getElem?_eq_some_iff.mp hj).1
        have := hl j u hj
        simpa [markF, hjl] using this
      clear hl
      go_wp2_with fail
      obtain ⟨w2, rfl⟩ : ∃ w2, w2 = wr := ⟨_, rfl⟩
      have hw2 := hT.size
      go_loopw [6, 7] (fun gr i wr => ∃ (k : Nat) (es : List Value), i = .int .i64 (k : Int) ∧ k ≤ vs.length ∧ es.length = 5 * k ∧ Own wr w2.heap.size 28 1 gr es.length es ∧
          (∀ (j : Nat) (e : Value), es[j]? = some e → (∃ m, EOk wr 0 (.slice none 0 0) 0 0 e m (j / 5)) ∧ ∀ (i : Nat) (u : Value), k ≤ i → vs[i]? = some u → ∀ g, e.ownBlock = some g → u.ownBlock ≠ some g) ∧
          Own wr 0 28 1 (.slice A vs.length cv) vs.length vs ∧ (∀ (j : Nat) (u : Value), vs[j]? = some u → OwB wr 0 u (mkL j (f j).length)) ∧ (∀ (j : Nat) (u : Value), vs[j]? = some u → ∀ g, u.ownBlock = some g → g < w2.heap.size) ∧
          OBlk wr bb 80 [.slice A vs.length cv] ∧ Turn (InL vs) w wr ∧ w2.heap.size ≤ wr.heap.size)
        (fun _ i _ => vs.length - (intOf i).toNat)
      case atStart => exact ⟨0, [], rfl, Nat.zero_le _, rfl, Own.nil _ _ _ _, fun j e h => by simp at h, hv, hl2, fun j u hj g hg => ((hl2 j u hj).lt g hg).2, hblk, hT, Nat.le_refl _⟩
      case round =>
        have hvlt := fun g h => (hv.lt g h).2
        have HV := Lib.hid hvlt
        clear hvlt hv hl2 hT c0 hblk
        obtain ⟨k, es, rfl, hk, hes, hgr, hE, hv, hl, hs, hblk, hT, hsz2⟩ := hrel
        have c0 := hblk.cell' (j := 0) rfl
        by_cases hlt : k < vs.length
        · obtain ⟨gL, rfl⟩ : ∃ gL, A = some ⟨gL, 0, none⟩ := by
            rcases hv.form with ⟨h, h0⟩ | ⟨g, c, h, _⟩
            · omega
            · injection h with h; exact ⟨g, h⟩
          have hku : vs[k]? = some vs[k] := List.getElem?_eq_getElem hlt
          have how := hl k _ hku
          have hcell := hv.cells k _ hku
          generalize vs[k] = u at *
          have hm1 := hsz k hlt
          have HU := Lib.hid hku
          have HES := Lib.hid hes
          obtain ⟨G, cG, rfl⟩ := hgr.slice
          clear hku
          rw [hes]
          clear hes
          go_wp2_with fail
          obtain ⟨wq, rfl⟩ : ∃ wq, wq = wr := ⟨_, rfl⟩
          go_loopw [6, 8, 9] (fun gr x j wi => ∃ (q : Nat) (es : List Value), j = .int .i64 (q : Int) ∧ q ≤ 20 ∧ InvQ (InL vs) w w2.heap.size 0 vs f (.slice (some ⟨gL, 0, none⟩) vs.length cv) k q gr x es wi ∧ OBlk wi bb 80 [.slice (some ⟨gL, 0, none⟩) vs.length cv])
            (fun _ _ j _ => 20 - (intOf j).toNat)
          case atStart =>
            refine ⟨0, es, rfl, by omega, ⟨HES.out, ?_, how, ?_, ?_, ?_, hv, fun j u _ hu => hl j u hu, hs, hT, fun g hg => .inl ⟨k, u, HU.out, hg⟩, hw2, hsz2⟩, hblk⟩
            · rw [HES.out]; rw [HES.out] at hgr; exact hgr
            · exact fun j e hj => ⟨⟨(hE j e hj).1.choose, (hE j e hj).1.choose_spec.fresh (fun g hg => (hE j e hj).2 k u (Nat.le_refl _) HU.out g hg)⟩, fun i u' hi hu' => (hE j e hj).2 i u' (Nat.le_of_lt hi) hu'⟩
            · intro u' hu'
              rw [HU.out] at hu'
              injection hu' with hu'
              subst hu'
              exact ⟨how, fun g _ _ => ⟨Nat.le_refl _, rfl⟩⟩
            · exact fun i u' hi hu' g hg hg' => ha k i u u' (fun e => hi e.symm) HU.out hu' g hg hg'.symm
          case round =>
            clear hgr hE hv hl hs hT hsz2 how hcell hblk c0
            obtain ⟨q, es, rfl, hq, hI, hblk⟩ := hrel
            by_cases hql : q < 20
            · have hlen3 := hI.len
              have hc5 : cntQ q ≤ 5 := by unfold cntQ; split <;> split <;> omega
              have hel : es.length ≤ 50000000 := by omega
              have hgr3 := hI.gr3
              have hs2 := hI.size
              have hox := hI.ox
              have HI := Lib.hid hI
              obtain ⟨n, hN⟩ : ∃ n, n = (f k).length + q := ⟨_, rfl⟩
              rw [← hN] at hox
              have HN := Lib.hid hN
              have hnb : n ≤ 2000000000 := by omega
              have hmv := mrk_val k n
              have HMV := Lib.hid hmv
              obtain ⟨X, cX, rfl⟩ := hox.slice' (n := n) (mkL_length _ _)
              clear hlen3 hN hmv hI
              have iq : (q : Int) < 20 := by omega
              go_upto_region 18 with (first
                | (at_builtin; refine wp_append_keep_B1 rfl (.tmp 64) (.tmp 71) rfl 0 _ _ rfl hox (mrk k n) _ (congrArg (Value.int .u8) HMV.out) 5 rfl (by rw [mkL_length]; omega) (Nat.zero_le _) ?_; intro x3 w3 ho3 hg3 hb3 hk3; obtain ⟨B3, c3, rfl⟩ := ho3.slice' (n := n + 1) (by rw [List.length_append, mkL_length]; rfl))
                | fail)
              have hblk3 := hblk.grownL hox hg3
              have ho1 := OwB.one ho3
              have hgrn := hgr3 _ hg3
              clear hox hgr3
              cases hkq : keptQ q
              · have hd := of_decide_eq_false hkq
                have j1 : ¬ (q : Int) < 3 := by omega
                have j2 : ((q : Int) == 8) = false := beq_eq_false_iff_ne.2 (by omega)
                have j3 : ((q : Int) == 19) = false := beq_eq_false_iff_ne.2 (by omega)
                have HK := Lib.hid hkq
                clear hd hkq
                go_wp2_with fail
                have hN := HN.out
                subst hN
                go_roundw
                case rel => exact ⟨q + 1, es, by go_num, by omega, HI.out.drop hql HK.out ho3 hg3 hb3 hk3, hblk3⟩
                case measure => simp [intOf]; omega
              · have hd := of_decide_eq_true hkq
                have HK := Lib.hid hkq
                clear hkq
                rcases hd with hd | hd | hd
                · have j1 : (q : Int) < 3 := by omega
                  clear hd
                  go_wp2_with (first
                    | (at_builtin; refine wp_append_L rfl (.tmp 83) (.tmp 85) rfl w2.heap.size _ es rfl hgrn _ ho1 28 rfl (by omega) (Nat.le_trans hs2 hg3.size) ?_; intro gr4 w4 hgr4 hg4 _)
                    | fail)
                  have hblk4 := hblk3.grown hg4 (fun e => hgrn.ne_Tb hblk3 (by decide) e)
                  have hN := HN.out
                  subst hN
                  go_roundw
                  case rel => exact ⟨q + 1, _, by go_num, by omega, HI.out.step HK.out HV.out ho3 hg3 hb3 hk3 hgr4 hg4, hblk4⟩
                  case measure => simp [intOf]; omega
                · have j1 : ¬ (q : Int) < 3 := by omega
                  have j2 : ((q : Int) == 8) = true := beq_iff_eq.2 (by omega)
                  clear hd
                  go_wp2_with (first
                    | (at_builtin; refine wp_append_L rfl (.tmp 83) (.tmp 85) rfl w2.heap.size _ es rfl hgrn _ ho1 28 rfl (by omega) (Nat.le_trans hs2 hg3.size) ?_; intro gr4 w4 hgr4 hg4 _)
                    | fail)
                  have hblk4 := hblk3.grown hg4 (fun e => hgrn.ne_Tb hblk3 (by decide) e)
                  have hN := HN.out
                  subst hN
                  go_roundw
                  case rel => exact ⟨q + 1, _, by go_num, by omega, HI.out.step HK.out HV.out ho3 hg3 hb3 hk3 hgr4 hg4, hblk4⟩
                  case measure => simp [intOf]; omega
                · have j1 : ¬ (q : Int) < 3 := by omega
                  have j2 : ((q : Int) == 8) = false := beq_eq_false_iff_ne.2 (by omega)
                  have j3 : ((q : Int) == 19) = true := beq_iff_eq.2 (by omega)
                  clear hd
                  go_wp2_with (first
                    | (at_builtin; refine wp_append_L rfl (.tmp 83) (.tmp 85) rfl w2.heap.size _ es rfl hgrn _ ho1 28 rfl (by omega) (Nat.le_trans hs2 hg3.size) ?_; intro gr4 w4 hgr4 hg4 _)
                    | fail)
                  have hblk4 := hblk3.grown hg4 (fun e => hgrn.ne_Tb hblk3 (by decide) e)
                  have hN := HN.out
                  subst hN
                  go_roundw
                  case rel => exact ⟨q + 1, _, by go_num, by omega, HI.out.step HK.out HV.out ho3 hg3 hb3 hk3 hgr4 hg4, hblk4⟩
                  case measure => simp [intOf]; omega
            · obtain rfl : q = 20 := by omega
              have i1 : ¬ ((20 : Nat) : Int) < 20 := by omega
              have hI' := hI
              have HI := Lib.hid hI'
              have hlen3 := hI.len
              have hc20 : cntQ 20 = 5 := rfl
              rw [hc20] at hlen3
              clear hI hI'
              go_wp2_with fail
              go_roundw
              case rel =>
                have hI := HI.out
                refine ⟨k + 1, es, by go_num, by omega, by omega, hI.own, fun j e hj => ⟨⟨(hI.hE j e hj).1.choose, (hI.hE j e hj).1.choose_spec.fresh (fun g _ h => by cases h)⟩, fun i u' hi hu' => (hI.hE j e hj).2 i u' (by omega) hu'⟩, hI.hv, fun j u' hu' => ?_, hI.hs, hblk, hI.ht, hI.size⟩
                by_cases e : j = k
                · subst e; exact (hI.hk u' hu').1
                · exact hI.hl j u' e hu'
              case measure => simp [intOf]; omega
        · obtain rfl : k = vs.length := by omega
          have hE2 : ∀ (j : Nat) (e : Value), es[j]? = some e → ∃ m, OwB wr 0 e (mkL (j / 5) m) := fun j e hj => by
            obtain ⟨⟨m, h1⟩, _⟩ := hE j e hj
            exact ⟨m, h1.1⟩
          clear hE
          obtain ⟨G, cG, rfl⟩ := hgr.slice
          have hsm : es.length ≤ 50000000 := by omega
          have HE := Lib.hid hE2
          have HL := Lib.hid hl
          clear hE2 hes hl
          go_wp2_with fail
          obtain ⟨w5, rfl⟩ : ∃ w5, w5 = wr := ⟨_, rfl⟩
          go_loopw [10] (fun i wr => ∃ j : Nat, i = .int .i64 (j : Int) ∧ j ≤ vs.length ∧ wr = w5)
            (fun i _ => vs.length - (intOf i).toNat)
          case atStart => exact ⟨0, rfl, Nat.zero_le _, rfl⟩
          case round =>
            obtain ⟨j, rfl, hj, rfl⟩ := hrel
            by_cases hjl : j < vs.length
            · have hju : vs[j]? = some vs[j] := List.getElem?_eq_getElem hjl
              have how := HL.out j _ hju
              have hsj := hsz j hjl
              obtain ⟨gL, rfl⟩ : ∃ gL, A = some ⟨gL, 0, none⟩ := by
                rcases hv.form with ⟨h, h0⟩ | ⟨g, c, h, _⟩
                · omega
                · injection h with h; exact ⟨g, h⟩
              have hcell := hv.cells j _ hju
              have hmk := marked_any _ j (f j).length wr how.rd (by omega)
              generalize vs[j] = e at *
              clear hju how
              go_wp2_with fail
              refine hmk.mono ?_
              rintro e2 w6 ⟨rfl, rfl⟩
              go_wp2_with fail
              exact ⟨⟨j + 1, by go_num, by omega, trivial⟩, by simp [intOf]; omega⟩
            · obtain rfl : j = vs.length := by omega
              go_wp2_with fail
              obtain ⟨w5, rfl⟩ : ∃ w5, w5 = wr := ⟨_, rfl⟩
              go_loopw [12] (fun i wr => ∃ j : Nat, i = .int .i64 (j : Int) ∧ j ≤ es.length ∧ wr = w5)
                (fun i _ => es.length - (intOf i).toNat)
              case atStart => exact ⟨0, rfl, Nat.zero_le _, rfl⟩
              case round =>
                obtain ⟨j, rfl, hj, rfl⟩ := hrel
                by_cases hjl : j < es.length
                · have hju : es[j]? = some es[j] := List.getElem?_eq_getElem hjl
                  obtain ⟨m, how⟩ := HE.out j _ hju
                  obtain ⟨gG, rfl⟩ : ∃ gG, G = some ⟨gG, 0, none⟩ := by
                    rcases hgr.form with ⟨h, h0⟩ | ⟨g, c, h, _⟩
                    · omega
                    · injection h with h; exact ⟨g, h⟩
                  have hcell := hgr.cells j _ hju
                  have hmk := marked_any _ (j / 5) m wr how.rd (by omega)
                  rw [show ((j / 5 : Nat) : Int) = (j : Int) / 5 by omega] at hmk
                  generalize es[j] = e at *
                  clear hju how
                  go_wp2_with fail
                  refine hmk.mono ?_
                  rintro e2 w6 ⟨rfl, rfl⟩
                  go_wp2_with fail
                  exact ⟨⟨j + 1, by go_num, by omega, trivial⟩, by simp [intOf]; omega⟩
                · obtain rfl : j = es.length := by omega
                  go_wp2_with fail
                  go_ret
                  exact ⟨rfl, hT, fun j u hj => HL.out j u hj⟩
end Go.Proofs.Ytipjngoenklioaa

-- Step laws for regions that draw: string(bytes).
namespace Go.Proofs.Ytipjngoenklioaa
open Go.RowKit
section laws
variable {w : World} {ops : Array Oper} {o : Oper} {a : Act} {Q : Exit → Act → World → Prop}
theorem step_B_string {K : Act → World → Prop} {E : Prop} (hgd : o.guard = none) (x : Operand) (ho : o.op = .convert 28 9 x) (v : Value) (l : List UInt8) (hx : a.eval x = v) (hr : RdB w v l)
    (h : K (a.put o.dst (.string ⟨l.toArray⟩)) w) :
    if Region.wanted o (yielded ops a.tmps) = true then Oper.wp Try.prog o a w K Q else E := by
  have hw : Region.wanted o (yielded ops a.tmps) = true := by simp [Region.wanted, hgd]
  rw [if_pos hw]
  have hrun := run_B_string hr
  unfold Oper.wp
  simp [execOp, ho, hx, hrun, Result.andThen, Oper.upon]
  exact h
/-- .. of an operation that is guarded, where it is wanted. -/
theorem step_B_string_w {K : Act → World → Prop} {E : Prop} (x : Operand) (ho : o.op = .convert 28 9 x) (hw : Region.wanted o (yielded ops a.tmps) = true) (v : Value) (l : List UInt8) (hx : a.eval x = v) (hr : RdB w v l)
    (h : K (a.put o.dst (.string ⟨l.toArray⟩)) w) :
    if Region.wanted o (yielded ops a.tmps) = true then Oper.wp Try.prog o a w K Q else E := by
  rw [if_pos hw]
  have hrun := run_B_string hr
  unfold Oper.wp
  simp [execOp, ho, hx, hrun, Result.andThen, Oper.upon]
  exact h
/-- append(l, m...) of bytes in a region, where it is wanted. -/
theorem step_append_B_w {K : Act → World → Prop} {E : Prop} (s x : Operand)
    (ho : o.op = .call { callee := .builtin .append, args := #[s, x], argTypes := #[28, 28] }) (hw : Region.wanted o (yielded ops a.tmps) = true)
    (base : Nat) (v : Value) (l : List UInt8) (hs : a.eval s = v) (hown : OwB w base v l)
    (vx : Value) (m : List UInt8) (hx : a.eval x = vx) (hr : RdB w vx m) (hsm : l.length + m.length ≤ 140737488355328) (hbase : base ≤ w.heap.size)
    (h : ∀ v' w', OwB w' base v' (l ++ m) → w.grownBy w' v.ownBlock → (v'.ownBlock = v.ownBlock ∨ v'.ownBlock = some w.heap.size) → K (a.put o.dst v') w') :
    if Region.wanted o (yielded ops a.tmps) = true then Oper.wp Try.prog o a w K Q else E := by
  rw [if_pos hw]
  obtain ⟨i, hi, hz0, hz1, hz2⟩ := info_parts u8_info
  obtain ⟨v', w', hr, h2, h3, h4⟩ := run_append_Own (P := Try.prog) w base _ 28 o.type 5 i _ 1 1 Try.underlying28 hi hz0 hz1 hz2 rfl v l.length (bvs l) hown vx m.length (bvs m) (Rd.src w Try.underlying28 (by omega) hr.rd (bvs_one m)) (by omega) hsm hbase
  unfold Oper.wp execOp
  simp only [ho, resolve, invoke, builtin, Sem.run_bind, Sem.run_pure, Result.andThen_ok, List.map_toArray, List.map_cons, List.map_nil, hs, hx, hr]
  refine h v' w' ?_ h3 h4
  unfold OwB
  rw [List.length_append, bvs_append]
  exact h2
end laws
end Go.Proofs.Ytipjngoenklioaa
