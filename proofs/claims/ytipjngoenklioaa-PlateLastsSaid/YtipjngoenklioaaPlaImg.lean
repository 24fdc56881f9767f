/- plate.Image: the walk. -/
import Derived.Test.YtipjngoenklioaaPlaSync
import Derived.Test.YtipjngoenklioaaCopyAt
namespace Go.Proofs.Ytipjngoenklioaa
open Go.RowKit Go.WideShapes
def ImgAt (w : World) (l : List UInt8) (e : Ending) (w' : World) : Prop := ∃ v, e = .returned v ∧ OwB w' w.heap.size v l ∧ Below w.heap.size w w'
theorem run_tail (w : World) (g n c lo : Nat) (X : Int) (hX : X = (lo : Int)) (h1 : lo < n) (h2 : n ≤ c) (h3 : 0 < c) (h4 : c ≤ 9223372036854775807) :
    (Instr.slice 28 (.slice (some ⟨g, 0, none⟩) n c) (some (.int .i64 X)) none none).run Try.prog w = .ok (.slice (some ⟨g, lo, none⟩) (n - lo) (c - lo)) w := by
  subst hX
  have := run_slice_l (P := Try.prog) w 28 (some ⟨g, 0, none⟩) n c u8_elem .i64 lo (by omega) (by omega)
  rw [this, u8_sizeOf]
  simp [Result.andThen, sliced, show ¬ c = lo by omega, add_row]
set_option maxRecDepth 100000 in
set_option maxHeartbeats 4000000 in
theorem Image_any (w : World) (F : Nat → Prop) (r : Raw) (S : PS) (h : PlRaw w F r S) : Calls Try.prog 16 #[plPtr r] w (ImgAt w (syncPg S.wild S.pg).flatten) := by
  have c1 := h.c1
  have hn := h.ok.pn
  have hp1 := h.ok.p1
  have hp2 := h.ok.p2
  have hn1 := h.ok.n1
  have hn2 := h.ok.n2
  have hl : S.pg.flatten.length ≤ 140737488355328 := by rw [h.flen]; omega
  have hr := h.safeRd
  have hsz0 : 0 < S.sz := by rw [h.ok.sn]; exact Nat.mul_pos (by omega) (by omega)
  have HF := Lib.hid h.flen
  unfold plPtr
  go_enter Try.func16, Try.ntmps16
  go_wp2_with fail
  refine (CloneB_any _ _ _ hr hl).mono ?_
  rintro e w1 ⟨v, rfl, ho1, hb1⟩
  obtain ⟨g, cg, rfl⟩ := ho1.some' HF.out hsz0
  have hP1 := h.below hb1
  have d3 := hP1.c3
  obtain ⟨D, hown, hLD⟩ := hP1.map
  have HLD := Lib.hid hLD
  clear hLD c1 hr
  go_wp2_with (first
    | (at_range; refine wpList_range_own _ rfl (.tmp 14) 62 rfl 3 3 intKeyed Try.underlying62 (plainElem Try.prog 3) r.mb _ D rfl hown ?_; intro w2 hrg2 hg2 hs2)
    | fail)
  go_frame
  have hb2 : Below w.heap.size w w2 := hb1.grown hg2 hb1.size (fun k e => by cases e)
  have ho2 : OwB w2 w.heap.size (.slice (some ⟨g, 0, none⟩) S.sz cg) (mix S.wild S.pg (Maps.has D)).flatten := by
    rw [mix_start HLD.out]
    exact Own.grown ho1 hg2 (fun g _ e => by cases e)
  have hgg : w.heap.size ≤ g ∧ g < w1.heap.size := Own.lt ho1 g rfl
  have HMG := Lib.hid (show r.mb ≠ g by have := h.map.lt; omega)
  clear hown ho1
  go_loopw [4, 5] (fun _ _ wr => ∃ (left : Lit → Bool) (cnt : Nat), wr.ranges Try.prog 3 (plainElem Try.prog 3) r.mb w1.heap.size S.wild.length D left cnt ∧ OwB wr w.heap.size (.slice (some ⟨g, 0, none⟩) S.sz cg) (mix S.wild S.pg left).flatten ∧ Below w.heap.size w wr)
    (fun _ _ wr => wr.rangeLeft r.mb w1.heap.size)
  case atStart => exact ⟨_, _, hrg2, ho2, hb2⟩
  case round =>
    clear hrg2 ho2 hb2
    obtain ⟨left, cnt, hrg, ho, hb⟩ := hrel
    go_wp2_with (first
      | (at_next; refine wpList_next_ranges_ii _ rfl _ rfl 3 3 .i64 .i64 intKeyed Try.underlying3 Try.underlying3 r.mb w1.heap.size S.wild.length D _ _ rfl hrg ?_ ?_)
      | fail)
    · intro _ hl0
      go_wp2_with fail
      go_ret
      rw [mix_end hl0] at ho
      exact ⟨_, rfl, ho, hb⟩
    · intro x c w3 cnt3 hwx hwc hlx hat hrg3 hlt hg3 hs3 hen
      obtain ⟨i, hi, rfl, hx, hla⟩ := HLD.out.key hat
      have hb3 : Below w.heap.size w w3 := hb.grown hg3 hb.size (fun k e => by cases e; exact hb1.size)
      have hP3 := h.below hb3
      obtain ⟨lb, lc, db, cd, p, l, _, _, hw, hv, _, _, dd, hrd, hpn, hpl⟩ := hP3.entry hi
      have d2 := hP3.c2
      rw [hv] at d2
      have d0 := hP3.c0
      have HW2 := Lib.hid hw
      rw [List.getElem?_eq_getElem hi] at hw
      have hw' := Option.some.inj hw
      rw [hw'] at hx
      have hx' : x = (p : Int) := hx
      subst hx'
      have ij : (i : Int) < (S.wild.length : Int) := by omega
      have HLA := Lib.hid hla
      have hwl : S.wild.length ≤ 9223372036854775807 := hP3.wlen
      obtain ⟨lo, hlo⟩ : ∃ lo, lo = p * S.page := ⟨_, rfl⟩
      have e1 : (p : Int) * (S.page : Int) = (lo : Int) := by rw [hlo]; push_cast; rfl
      have hle : lo + S.page ≤ S.sz := by
        have e2 : S.sz = S.page * S.np := h.ok.sn
        rw [e2, hlo, Nat.mul_comm S.page, ← Nat.succ_mul]
        exact Nat.mul_le_mul_right _ hpn
      have b1 : (lo : Int) ≤ 67108864 := by omega
      have hcg : S.sz ≤ cg ∧ cg ≤ 9223372036854775807 := by
        obtain ⟨_, h2, h3⟩ := ho.rd.cap
        have hl' : (mix S.wild S.pg left).flatten.length = S.sz := (ho.rd.cap.1).symm
        omega
      have q4 := fun w => run_tail w g S.sz cg lo (lo : Int) rfl (by omega) hcg.1 (by omega) hcg.2
      have HML := Lib.hid (show (mix S.wild S.pg left).flatten.length = S.sz from (ho.rd.cap.1).symm)
      have HLO := Lib.hid hlo
      have HPL := Lib.hid hpl
      clear hx hla hw hw' hlo hpl
      go_wp2_with fail
      have wlo : IntKind.i64.wrap (lo : Int) = (lo : Int) := IntWalk.i64_in _ (by omega)
      refine wp_region_dtail 16 (by kernel_rfl) (by kernel_rfl) ?_
      simp only [List.take_succ_cons, List.take_zero, List.drop_succ_cons, List.drop_zero]
      repeat (quiet_step (fail))
      refine wpQuiet_nil ?_
      rintro _ ⟨nq, rfl⟩
      clear wlo
      have ho2 : OwB w3 w.heap.size (.slice (some ⟨g, 0, none⟩) S.sz cg) (mix S.wild S.pg left).flatten := by
        refine Own.grown ho hg3 fun g' hg' e => ?_
        have h1 : g = g' := Option.some.inj hg'
        have h2 : g' = w1.heap.size := Option.some.inj e
        omega
      have ho3 : OwB (w3.drewN nq) w.heap.size (.slice (some ⟨g, 0, none⟩) S.sz cg) (mix S.wild S.pg left).flatten := ho2
      go_wp2_with (first
        | ((with_reducible refine at_copy ?_); refine wp_copy_At rfl (.tmp 28) (.tmp 36) rfl w.heap.size g S.sz cg lo (some ⟨g, lo, none⟩) (S.sz - lo) (cg - lo) rfl (fun _ => rfl) _ ho3 HML.out (by omega) _ l rfl (OwB.rd hrd) ?_; intro w5 hb5 hg5)
        | fail)
      have hrg4 : (w3.drewN nq).ranges Try.prog 3 (plainElem Try.prog 3) r.mb w1.heap.size S.wild.length D (fun z => left z && !z.sameKey (.int .i64 (p : Int))) cnt3 := hrg3
      have hrg5 := hrg4.kept hg5 (fun e => HMG.out (Option.some.inj e)) (fun e => by have := Option.some.inj e; omega)
      go_frame
      go_roundw
      case rel =>
        have e := mixed_step (left := left) h.ok HLA.out HW2.out hpn HPL.out
        have e' := congrArg (fun S : PS => S.pg) e
        simp only [PS.mixed] at e'
        have hmp : p < (mix S.wild S.pg left).length := by rw [mix_length, h.ok.pl]; exact hpn
        have hme : ∀ x ∈ mix S.wild S.pg left, x.length = S.page := mix_each h.ok.pe fun x hx => (h.ok.we x hx).2
        have hpl := HPL.out
        rw [Nat.min_eq_left (by omega), List.take_length, HLO.out, flat_splice _ p l hme hmp (Nat.le_of_eq hpl), e'] at hb5
        exact ⟨_, cnt3, hrg5, hb5, (below_drewN hb3 nq).grown hg5 hb3.size (fun k e => by cases e; exact hgg.1)⟩
      case measure => rw [hrg5.left_eq, hrg.left_eq]; omega
end Go.Proofs.Ytipjngoenklioaa
