/- plate.Sync: the walk. -/
import Derived.Test.YtipjngoenklioaaPlaMix
namespace Go.Proofs.Ytipjngoenklioaa
open Go.RowKit Go.WideShapes
def PS.synced (S : PS) : PS := { S.acted 2 with pg := syncPg S.wild S.pg, wild := [] }
def PS.sync (S : PS) : PS := if S.down then S else if S.acts == 0 then (S.acted 2).fell S.keep S.torn S.at_ else S.synced
def SyncE (S : PS) : Int := if S.down then 3 else if S.acts == 0 then 3 else 0
def PS.mixed (S : PS) (left : Lit → Bool) : PS := { S with pg := mix S.wild S.pg left }
theorem PlRaw.entryM {w : World} {F : Nat → Prop} {r : Raw} {S : PS} {left : Lit → Bool} (h : PlRaw w F r (S.mixed left)) {i : Nat} (hi : i < S.wild.length) : ∃ lb c db cd p l, w.cell? ⟨r.pb, 2, none⟩ = some (.slice (some ⟨lb, 0, none⟩) S.wild.length c) ∧
    w.cell? ⟨lb, i * 2 + 1, none⟩ = some (.slice (some ⟨db, 0, none⟩) S.page cd) ∧ OwB w 0 (.slice (some ⟨db, 0, none⟩) S.page cd) l ∧ S.wild[i]? = some (p, l) ∧ p < S.np ∧ l.length = S.page := by
  obtain ⟨lb, c, db, cd, p, l, _, _, hw, hv, _, _, h1, h2, h4, h3⟩ := h.entry hi
  exact ⟨lb, c, db, cd, p, l, by rw [h.c2, hv]; rfl, h1, h2, hw, h4, h3⟩
theorem mixed_step {S : PS} (hok : S.ok) {left : Lit → Bool} {p i : Nat} {l : List UInt8} (hi : lastI S.wild (p : Int) = some i) (hw : S.wild[i]? = some (p, l)) (hpn : p < S.np) (hpl : l.length = S.page) :
    ({ S.mixed left with pg := putPg (S.mixed left).pg p l } : PS) = S.mixed (fun z => left z && !z.sameKey (.int .i64 (p : Int))) := by
  have hp : p < S.pg.length := by rw [hok.pl]; exact hpn
  unfold PS.mixed
  rw [mix_step hi hw hp]
  show ({ S with pg := putPg (mix S.wild S.pg left) p l } : PS) = _
  rw [putPg_full (P := S.page) (mix_each hok.pe fun x hx => (hok.we x hx).2) hpl]
set_option maxRecDepth 100000 in
set_option maxHeartbeats 4000000 in
theorem Sync_any (w : World) (F : Nat → Prop) (r : Raw) (S : PS) (h : PlRaw w F r S) : Calls Try.prog 11 #[plPtr r] w (PutAt w F r S.sync (.int .i64 (SyncE S))) := by
  have c4 := h.c4
  cases hd : S.down
  · rw [hd] at c4
    cases hf : (S.acts == 0)
    · have HW := Lib.hid (show S.sync = S.synced by unfold PS.sync; rw [hd, hf]; rfl)
      have HE := Lib.hid (show SyncE S = 0 by unfold SyncE; rw [hd, hf]; rfl)
      unfold plPtr
      go_enter Try.func11, Try.ntmps11
      go_wp2_with fail
      refine (act_any w F r S 2 (.inr rfl) h).mono ?_
      rintro e w1 ⟨rfl, hP1, hg1⟩
      rw [hf]
      have HF := Lib.hid hf
      clear hf hd c4
      have hT1 : Turn F w w1 := Turn.of_grown hg1 (fun b e => by cases e; exact h.fp)
      have d3 := hP1.c3
      obtain ⟨D, hown, hLD⟩ := hP1.map
      have HLD := Lib.hid hLD
      clear hLD
      go_wp2_with (first
        | (at_range; refine wpList_range_own _ rfl (.tmp 20) 62 rfl 3 3 intKeyed Try.underlying62 (plainElem Try.prog 3) r.mb _ D rfl hown ?_; intro w2 hrg2 hg2 hs2)
        | fail)
      go_frame
      have hT2 : Turn F w w2 := hT1.new ⟨hg2.os, hg2.tape, hg2.output, hg2.size, fun k hk => by
        have := hg1.size
        exact hg2.block k (by omega) (by simp)⟩
      have hP2 : PlRaw w2 F r ((S.acted 2).mixed (Maps.has D)) := by
        have e : (S.acted 2).mixed (Maps.has D) = S.acted 2 := by
          unfold PS.mixed
          rw [mix_start HLD.out]
        rw [e]
        exact hP1.heap hg2.size (fun k hk => hg2.block k (hP1.lt k hk) (by simp))
      have hrb : ∀ k, F k → k ≠ w1.heap.size := fun k hk e => by have := hP1.lt k hk; omega
      have HRB := Lib.hid hrb
      clear hrb hown
      go_loopw [3, 4] (fun _ _ wr => ∃ (left : Lit → Bool) (cnt : Nat), wr.ranges Try.prog 3 (plainElem Try.prog 3) r.mb w1.heap.size (S.acted 2).wild.length D left cnt ∧ PlRaw wr F r ((S.acted 2).mixed left) ∧ Turn F w wr)
        (fun _ _ wr => wr.rangeLeft r.mb w1.heap.size)
      case atStart => exact ⟨_, _, hrg2, hP2, hT2⟩
      case round =>
        clear hrg2 hP2 hT2
        obtain ⟨left, cnt, hrg, hP, hT⟩ := hrel
        go_wp2_with (first
          | (at_next; refine wpList_next_ranges_ii _ rfl _ rfl 3 3 .i64 .i64 intKeyed Try.underlying3 Try.underlying3 r.mb w1.heap.size (S.acted 2).wild.length D _ _ rfl hrg ?_ ?_)
          | fail)
        · intro _ hl0
          go_wp2_with fail
          refine (settle_any _ F r _ hP).mono ?_
          rintro e w3 ⟨⟨v3, rfl⟩, hP3, hT3⟩
          go_wp2_with fail
          go_ret
          rw [HW.out, HE.out]
          have e : ({ (S.acted 2).mixed left with wild := [] } : PS) = S.synced := by
            unfold PS.mixed PS.synced
            rw [mix_end hl0]
            rfl
          rw [e] at hP3
          exact ⟨rfl, r.settled, F, rfl, rfl, hP3, hT.trans hT3 (fun k hk => .inl hk), fun k hk => .inl hk⟩
        · intro x c w3 cnt3 hwx hwc hlx hat hrg3 hlt hg3 hs3 hen
          obtain ⟨i, hi, rfl, hx, hla⟩ := HLD.out.key hat
          have hP3 : PlRaw w3 F r ((S.acted 2).mixed left) := hP.turn (Turn.of_grown (F := fun k => k = w1.heap.size) hg3 (fun k e => (Option.some.inj e).symm)) (fun k hf e => HRB.out k hf e)
          obtain ⟨lb, lc, db, cd, p, l, d2, dd, hrd, hw, hpn, hpl⟩ := hP3.entryM hi
          have HW2 := Lib.hid hw
          rw [List.getElem?_eq_getElem hi] at hw
          have hw' := Option.some.inj hw
          rw [hw'] at hx
          have hx' : x = (p : Int) := hx
          subst hx'
          have ij : (i : Int) < ((S.acted 2).wild.length : Int) := by omega
          have HLA := Lib.hid hla
          have hwl : (S.acted 2).wild.length ≤ 9223372036854775807 := hP3.wlen
          have hp2 : S.page ≤ 65536 := h.ok.p2
          have hT3 := hT.grown hg3 (fun b e => by cases e; exact .inr hg1.size)
          have hpq : ∀ m, Calls Try.prog 38 #[.pointer (some ⟨r.pb, 0, none⟩), .int .i64 (p : Int)] (w3.drewN m) fun e w' => e = .returned (.slice (some ⟨r.sb, p * S.page, none⟩) S.page (S.sz - p * S.page)) ∧ ∃ m', w' = w3.drewN m' := fun m => Calls.quiet_of (place_any _ F r ((S.acted 2).mixed left) p hpn (hP3.heap (Nat.le_refl _) fun _ _ => rfl))
          have hfit : p * S.page + S.page ≤ ((S.acted 2).mixed left).pg.flatten.length := by
            rw [hP3.flen]
            have e1 : S.sz = S.page * S.np := h.ok.sn
            show _ ≤ S.sz
            rw [e1, Nat.mul_comm S.page, ← Nat.succ_mul]
            exact Nat.mul_le_mul_right _ hpn
          clear hx hla hw hw'
          go_wp2_with fail
          refine wp_region_dtail 11 (by kernel_rfl) (by kernel_rfl) ?_
          simp only [List.take_succ_cons, List.take_zero, List.drop_succ_cons, List.drop_zero]
          repeat (quiet_step ((go_at_call 38; exact hpq _)))
          refine wpQuiet_nil ?_
          rintro _ ⟨nq, rfl⟩
          go_wp2_with (first
            | ((with_reducible refine at_copy ?_); refine wp_copy_B rfl (.tmp 29) (.tmp 37) rfl _ S.page (S.sz - p * S.page) r.sb (p * S.page) rfl ((S.acted 2).mixed left).pg.flatten (hP3.safe.drewN nq) (fun _ => rfl) hfit _ l rfl (OwB.rd hrd) ?_; intro w5 hb5 hg5)
            | fail)
          have hrg4 : (w3.drewN nq).ranges Try.prog 3 (plainElem Try.prog 3) r.mb w1.heap.size (S.acted 2).wild.length D (fun z => left z && !z.sameKey (.int .i64 (p : Int))) cnt3 := hrg3
          have hrg5 := hrg4.kept hg5 (fun e => hP3.map.ne hP3.safe (Option.some.inj e)) (fun e => HRB.out _ hP3.fs (Option.some.inj e).symm)
          go_frame
          go_roundw
          case rel =>
            have hP4 : PlRaw (w3.drewN nq) F r ((S.acted 2).mixed left) := hP3.heap (Nat.le_refl _) fun _ _ => rfl
            have hP5 := hP4.copied (m := l) hpn (Nat.le_of_eq hpl) hg5 hb5
            have e := mixed_step (left := left) hP1.ok HLA.out HW2.out hpn hpl
            rw [e] at hP5
            exact ⟨_, cnt3, hrg5, hP5, (hT3.drewN nq).grown hg5 (fun b e => by cases e; exact .inl h.fs)⟩
          case measure => rw [hrg5.left_eq, hrg.left_eq]; omega
    · have HW := Lib.hid (show S.sync = (S.acted 2).fell S.keep S.torn S.at_ by unfold PS.sync; rw [hd, hf]; rfl)
      have HE := Lib.hid (show SyncE S = 3 by unfold SyncE; rw [hd, hf]; rfl)
      unfold plPtr
      go_enter Try.func11, Try.ntmps11
      go_wp2_with fail
      refine (act_any w F r S 2 (.inr rfl) h).mono ?_
      rintro e w1 ⟨rfl, hP1, hg1⟩
      rw [hf]
      have HF := Lib.hid hf
      clear hf hd c4
      have hT1 : Turn F w w1 := Turn.of_grown hg1 (fun b e => by cases e; exact h.fp)
      have t0 := hP1.c6
      have t1 : w1.cell? ⟨r.pb, 7, none⟩ = some (.int .i64 S.torn) := hP1.c7
      have t2 : w1.cell? ⟨r.pb, 8, none⟩ = some (.int .i64 S.at_) := hP1.c8
      have hfa := falls_any _ _ _ (S.acted 2) _ S.keep S.torn S.at_ hP1 hP1.keepRd hP1.keepOff h.ok.t2
      unfold plPtr fallV at hfa
      go_wp2_with fail
      refine hfa.mono ?_
      rintro e w7 ⟨⟨v7, rfl⟩, hP7, hT7⟩
      go_wp2_with fail
      go_ret
      rw [HW.out, HE.out]
      exact ⟨rfl, r.settled, F, rfl, rfl, hP7, hT1.trans hT7 (fun k hk => .inl hk), fun k hk => .inl hk⟩
  · rw [hd] at c4
    have HW := Lib.hid (show S.sync = S by unfold PS.sync; rw [hd]; rfl)
    have HE := Lib.hid (show SyncE S = 3 by unfold SyncE; rw [hd]; rfl)
    unfold plPtr
    go_enter Try.func11, Try.ntmps11
    go_wp2_with fail
    go_ret
    rw [HW.out, HE.out]
    exact ⟨rfl, r, F, rfl, rfl, h, Step.refl _ _⟩
end Go.Proofs.Ytipjngoenklioaa
