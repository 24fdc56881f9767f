/- Texts joined: espalierlaw06.PlainDecodes; espalierlaw06.pair.owned; The row's last step from 'Below' alone (the guide's small lemma 9).; A law that returns true and changes nothing below; An argument of type []api.Cell.; A law's '..UptoSaid' -/
import Derived.Test.YtonbcipofakpjaaQ2
import Derived.Test.YtonbcipofakpjaaQ3
import Derived.Test.YtonbcipofakpjaaQ9
import Derived.Test.YtonbcipofakpjaaQ14
import Derived.Test.YtonbcipofakpjaaQ16
import Derived.BigQuiet
import Derived.Below
import Derived.ChangeSame
import Derived.WalkKit
import Derived.ProofKit
import Derived.OpenShut
import Derived.SizedLaws
import Derived.Carry
import Derived.Lib.SmallJoins
import Derived.WideKeyArgs
import Derived.Deep.Slices
import Derived.Deep.Fields
import Derived.Test.YtonbcipofakpjaaRows
import Derived.JoinedCond
-- espalierlaw06.PlainDecodes: the walk.
namespace Go.Proofs.Ytonbcipofakpjaa
open Go.RowKit
theorem Sep.unit {w0 w : World} {L : List Ent} (h : Sep w0 w L) : Sep w0 w (allE [] :: L) := Sep.pack (D := []) h
/-- What Open tells. -/
def OpenR (b : List UInt8) (pv : Value) (z : Int) (PG : Ent) : Prop :=
  (∃ (kind : Int) (l : List CV) (p : Nat) (u : Value), pv = .pointer (some ⟨p, 0, none⟩) ∧ z = 0 ∧ isPln b kind (pcs l) ∧ RngC l ∧ PG = pgE p kind b.length (sizeF (pcs l) : Nat) u l) ∨ (pv = .pointer none ∧ z = 60 ∧ ∀ k l, ¬ isPln b k l)
theorem POpenZ {w0 w : World} {L : List Ent} {v : Value} {b : List UInt8} (h : Sep w0 w L) (hv : RdB w v b) :
    Calls Try.prog 21 #[v] w fun e w' => ∃ pv z PG, e = .returned (.tuple #[pv, .int .i64 z]) ∧ OpenR b pv z PG ∧ Sep w0 w' (PG :: L) := by
  refine (POpen_sep h hv).mono ?_
  rintro e w' (⟨kind, l, p, u, hy, hr, rfl, hS⟩ | ⟨hn, rfl, hS⟩)
  · exact ⟨_, _, _, rfl, .inl ⟨kind, l, p, u, rfl, rfl, hy, hr, rfl⟩, hS⟩
  · exact ⟨_, _, _, rfl, .inr ⟨rfl, rfl, hn⟩, hS.unit⟩
theorem OpenR.code {b : List UInt8} {pv : Value} {z k' z' : Int} {PG : Ent} {l' : List PC} (h : OpenR b pv z PG) (h' : DecR b k' l' z') : z = z' := by
  rcases h with ⟨kind, l, p, u, _, rfl, hy, _⟩ | ⟨_, rfl, hn⟩
  · exact (DecR.same (.inl ⟨hy, rfl⟩ : DecR b kind (pcs l) 0) h').2.2
  · exact (DecR.same (.inr ⟨hn, rfl, rfl, rfl⟩ : DecR b 0 [] 60) h').2.2
theorem DecR.len {b : List UInt8} {k z : Int} {l : List CV} (h : DecR b k (pcs l) z) : l.length ≤ 40000 ∧ ∀ p ∈ pairsC l, p.2.length ≤ 1000000000 := by
  rcases h with ⟨hy, _⟩ | ⟨_, _, hl, _⟩
  · obtain ⟨h1, h2, h3, h4⟩ := hy
    have hP := (isPowB_range h1).2
    obtain ⟨h5, h6⟩ := encE_zero.1 h3
    have hs := sizeF_eq (pcs l)
    rw [pcs_length] at hs
    refine ⟨by omega, fun p hp => ?_⟩
    obtain ⟨x, hx, hp⟩ := List.mem_flatMap.1 hp
    have hk := okc_fit (may_ok (scan_may h5 x.c (List.mem_map_of_mem hx))) (by omega)
    simp only [List.mem_cons, List.not_mem_nil, or_false] at hp
    rcases hp with rfl | rfl <;> simp only <;> omega
  · have : l = [] := List.eq_nil_of_length_eq_zero (by rw [← pcs_length l, hl]; rfl)
    subst this
    exact ⟨by simp, by simp [pairsC]⟩
theorem Sep.book6 {w0 w : World} {L : List Ent} (h : Sep w0 w L) : Sep w0 (w.alloc (.cells #[.slice none 0 0, .slice none 0 0] 56)) (bookTE 56 w.heap.size [.slice none 0 0] (.slice none 0 0) [] :: listsE (.slice none 0 0) [] :: L) := by
  have h1 := h.alloc 56 [.slice none 0 0, .slice none 0 0]
  have h2 : Sep w0 _ (bookTE 56 w.heap.size [.slice none 0 0] (.slice none 0 0) [] :: L) := h1.weak (fun hp => ⟨hp, Own.nil _ _ _ _, fun j u hj => by simp at hj, fun i j u u' _ hi => by simp at hi⟩) (fun g hg => by
    rcases hg with rfl | hg | ⟨j, u, hj, _⟩
    · rfl
    · cases hg
    · simp at hj)
  refine Sep.sw1 (h2.cons (E := listsE (.slice none 0 0) []) ⟨Own.nil _ _ _ _, fun j u hj => by simp at hj, fun i j u u' _ hi => by simp at hi⟩ (fun g hg => ?_) (fun A _ g hg => ?_))
  · rcases hg with hg | ⟨j, u, hj, _⟩
    · cases hg
    · simp at hj
  · rcases hg with hg | ⟨j, u, hj, _⟩
    · cases hg
    · simp at hj
set_option maxRecDepth 100000 in
set_option maxHeartbeats 8000000 in
theorem pdec_any (va vc : Value) (b c : List UInt8) (w : World) (hb : RdB w va b) (hc : RdB w vc c) (hbl : b.length ≤ 140737488351232) (hcl : c.length ≤ 140737488351232) :
    Calls Try.prog 8 #[va, vc] w fun e w' => e = .returned (.bool true) ∧ Below w.heap.size w w' := by
  obtain ⟨VA, ca, rfl, _⟩ := hb.form
  obtain ⟨VC, cc, rfl, _⟩ := hc.form
  go_enter Try.func8, Try.ntmps8
  go_wp2_with fail
  refine (awake_any _).mono ?_
  rintro e w1 ⟨rfl, hw1⟩
  have HB := Lib.hid (hb.below hw1 (Nat.le_refl _))
  have HC := Lib.hid (hc.below hw1 (Nat.le_refl _))
  clear hb hc
  obtain ⟨n, hn⟩ : ∃ n, b.length = n := ⟨_, rfl⟩
  obtain ⟨m, hm⟩ : ∃ m, c.length = m := ⟨_, rfl⟩
  rw [hn] at hbl HB ⊢
  rw [hm] at hcl HC ⊢
  have HN := Lib.hid hn
  have HM := Lib.hid hm
  clear hn hm
  have hS1 := Sep.start w1
  have hL := LentB_sep hS1 (l := b) HB.out (by rw [HN.out]; omega)
  rw [HN.out] at hL
  go_upto_region 5 with (first
    | (go_at_call 26; refine hL.mono ?_; rintro e w2 ⟨g1, rfl, hS2⟩)
    | fail)
  clear hL hS1
  have hL := LentB_sep hS2 (l := c) (hS2.rd (v := w1) (by simp) HC.out) (by rw [HM.out]; omega)
  rw [HM.out] at hL
  go_upto_region 6 with (first
    | (go_at_call 26; refine hL.mono ?_; rintro e w3 ⟨g2, rfl, hS3⟩)
    | fail)
  clear hL hS2
  have hr : RdB w3 (.slice (some ⟨g1, 0, none⟩) n (n + 9)) b := lentC_rd0 (hS3.of_mem (E := bytesE (.slice (some ⟨g1, 0, none⟩) (n + 9) (n + 9)) (b ++ marks9)) (by simp)) HN.out
  have hD := PDec_sep hS3 hr
  go_upto_region 7 with (first
    | (go_at_call 20; refine hD.mono ?_; rintro e w4 ⟨k1, l1, u1, z1, rfl, hd1, hg1, hS4⟩)
    | fail)
  have HD1 := Lib.hid hd1
  have HG1 := Lib.hid hg1
  clear hr hD hS3 hd1 hg1
  have hr : RdB w4 (.slice (some ⟨g1, 0, none⟩) n (n + 9)) b := lentC_rd0 (hS4.of_mem (E := bytesE (.slice (some ⟨g1, 0, none⟩) (n + 9) (n + 9)) (b ++ marks9)) (by simp)) HN.out
  have hD := PDec_sep hS4 hr
  go_upto_region 8 with (first
    | (go_at_call 20; refine hD.mono ?_; rintro e w5 ⟨k2, l2, u2, z2, rfl, hd2, hg2, hS5⟩)
    | fail)
  have HD2 := Lib.hid hd2
  have HG2 := Lib.hid hg2
  clear hr hD hS4 hd2 hg2
  have hr : RdB w5 (.slice (some ⟨g2, 0, none⟩) m (m + 9)) c := lentC_rd0 (hS5.of_mem (E := bytesE (.slice (some ⟨g2, 0, none⟩) (m + 9) (m + 9)) (c ++ marks9)) (by simp)) HM.out
  have hD := PDec_sep hS5 hr
  go_upto_region 9 with (first
    | (go_at_call 20; refine hD.mono ?_; rintro e w6 ⟨k3, l3, u3, z3, rfl, hd3, hg3, hS6⟩)
    | fail)
  have HD3 := Lib.hid hd3
  have HG3 := Lib.hid hg3
  clear hr hD hS5 hd3 hg3
  have hr : RdB w6 (.slice (some ⟨g1, 0, none⟩) n (n + 9)) b := lentC_rd0 (hS6.of_mem (E := bytesE (.slice (some ⟨g1, 0, none⟩) (n + 9) (n + 9)) (b ++ marks9)) (by simp)) HN.out
  have hO := POpenZ hS6 hr
  go_upto_region 10 with (first
    | (go_at_call 21; refine hO.mono ?_; rintro e w7 ⟨pv, zf, PG, rfl, hpg, hS7⟩)
    | fail)
  have HPG := Lib.hid hpg
  clear hr hO hS6 hpg
  have hr : RdB w7 (.slice (some ⟨g1, 0, none⟩) n (n + 9)) b := lentC_rd0 (hS7.of_mem (E := bytesE (.slice (some ⟨g1, 0, none⟩) (n + 9) (n + 9)) (b ++ marks9)) (by simp)) HN.out
  have hD := PDec_sep hS7 hr
  go_upto_region 11 with (first
    | (go_at_call 20; refine hD.mono ?_; rintro e w8 ⟨k4, l4, u4, z4, rfl, hd4, hg4, hS8⟩)
    | fail)
  have HD4 := Lib.hid hd4
  have HG4 := Lib.hid hg4
  clear hr hD hS7 hd4 hg4
  have s1 := run_B_string (lentC_rd0 (hS8.of_mem (E := bytesE (.slice (some ⟨g1, 0, none⟩) (n + 9) (n + 9)) (b ++ marks9)) (by simp)) HN.out)
  have s2 := run_B_string (hS8.rd (v := w1) (by simp) HB.out)
  go_upto_region 12 with (fail)
  clear s1 s2
  have hSB : Sep w1 w8 (bytesE (.slice (some ⟨g1, 0, none⟩) (n + 9) (n + 9)) (b ++ marks9) :: [csE u4 l4, PG, csE u3 l3, csE u2 l2, csE u1 l1, bytesE (.slice (some ⟨g2, 0, none⟩) (m + 9) (m + 9)) (c ++ marks9), oldE w1]) := hS8.sw [_, _, _, _, _, _]
  have hrc := hSB.rd (v := w1) (by simp) HC.out
  have hbh : OwB w8 0 (.slice (some ⟨g1, 0, none⟩) (n + 9) (n + 9)) (b ++ marks9) := hSB.head
  have hlb : (b ++ marks9).length = n + 9 := by rw [List.length_append, HN.out]; rfl
  have HLB := Lib.hid hlb
  clear hlb hS8
  go_upto_region 13 with (first
    | ((with_reducible refine at_copy ?_); refine wp_copy_At rfl (.tmp 77) (.tmp 78) rfl 0 g1 (n + 9) (n + 9) 0 _ n (n + 9) rfl (fun _ => rfl) _ hbh HLB.out (by omega) _ c rfl hrc ?_; intro w9 hc9 hg9)
    | fail)
  have hov : splice (b ++ marks9) 0 (c.take (min c.length n)) = ovF b c ++ marks9 := by rw [← HN.out]; exact splice_ov b c marks9
  rw [hov] at hc9
  have hS9 : Sep w1 w9 (bytesE (.slice (some ⟨g1, 0, none⟩) (n + 9) (n + 9)) (ovF b c ++ marks9) :: [csE u4 l4, PG, csE u3 l3, csE u2 l2, csE u1 l1, bytesE (.slice (some ⟨g2, 0, none⟩) (m + 9) (m + 9)) (c ++ marks9), oldE w1]) := hSB.upd (E' := bytesE (.slice (some ⟨g1, 0, none⟩) (n + 9) (n + 9)) (ovF b c ++ marks9)) (Turn.of_grown hg9 (fun k e => e)) hc9 (fun g hg => ⟨.inl hg, (Own.lt hc9 g hg).2⟩)
  have HOL : Hid ((ovF b c).length = n) := Lib.hid (by rw [ovF_length, HN.out])
  clear hov hbh hrc hSB hc9 hg9
  have hr : RdB w9 (.slice (some ⟨g1, 0, none⟩) n (n + 9)) (ovF b c) := lentC_rd0 (hS9.of_mem (E := bytesE (.slice (some ⟨g1, 0, none⟩) (n + 9) (n + 9)) (ovF b c ++ marks9)) (by simp)) HOL.out
  have hD := PDec_sep hS9 hr
  go_upto_region 14 with (first
    | (go_at_call 20; refine hD.mono ?_; rintro e w10 ⟨k5, l5, u5, z5, rfl, hd5, hg5, hS10⟩)
    | fail)
  have HD5 := Lib.hid hd5
  have HG5 := Lib.hid hg5
  clear hr hD hS9 hd5 hg5
  have hr : RdB w10 (.slice (some ⟨g1, 0, none⟩) n (n + 9)) (ovF b c) := lentC_rd0 (hS10.of_mem (E := bytesE (.slice (some ⟨g1, 0, none⟩) (n + 9) (n + 9)) (ovF b c ++ marks9)) (by simp)) HOL.out
  go_upto_region 15 with (first
    | (at_builtin; refine wp_append_B rfl _ (.tmp 86) rfl 0 _ [] rfl (OwB.nil _ _) _ (ovF b c) rfl hr (by rw [HOL.out]; simp only [List.length_nil]; omega) (Nat.zero_le _) ?_; intro v11 w11 ho11 hg11 hk11)
    | fail)
  have hS11 := hS10.nil.appended ho11 hg11 hk11
  rw [List.nil_append] at hS11
  clear hr hS10 ho11 hg11 hk11
  have hT := told_any k1 z1 u1 _ l1 _ w11 (csE_rd (hS11.of_mem (E := csE u1 l1) (by simp)) HG1.out) HD1.out (hS11.rd (v := w1) (by simp) HB.out)
  go_upto_region 16 with (first
    | (go_at_call 27; refine hT.mono ?_; rintro e w12 ⟨rfl, hb⟩)
    | fail)
  have hS12 := hS11.below hb
  clear hT hS11 hb
  have hT := told_any k2 z2 u2 _ l2 _ w12 (csE_rd (hS12.of_mem (E := csE u2 l2) (by simp)) HG2.out) HD2.out (hS12.rd (v := w1) (by simp) HB.out)
  go_upto_region 17 with (first
    | (go_at_call 27; refine hT.mono ?_; rintro e w13 ⟨rfl, hb⟩)
    | fail)
  have hS13 := hS12.below hb
  clear hT hS12 hb
  have hT := told_any k3 z3 u3 _ l3 _ w13 (csE_rd (hS13.of_mem (E := csE u3 l3) (by simp)) HG3.out) HD3.out (hS13.rd (v := w1) (by simp) HC.out)
  go_upto_region 18 with (first
    | (go_at_call 27; refine hT.mono ?_; rintro e w14 ⟨rfl, hb⟩)
    | fail)
  have hS14 := hS13.below hb
  clear hT hS13 hb
  have hT := told_any k4 z4 u4 _ l4 _ w14 (csE_rd (hS14.of_mem (E := csE u4 l4) (by simp)) HG4.out) HD4.out (hS14.rd (v := w1) (by simp) HB.out)
  go_upto_region 19 with (first
    | (go_at_call 27; refine hT.mono ?_; rintro e w15 ⟨rfl, hb⟩)
    | fail)
  have hS15 := hS14.below hb
  clear hT hS14 hb
  have hT := told_any k5 z5 u5 _ l5 _ w15 (csE_rd (hS15.of_mem (E := csE u5 l5) (by simp)) HG5.out) HD5.out (show OwB w15 0 v11 (ovF b c) from hS15.of_mem (E := bytesE _ _) (by simp)).rd
  go_upto_region 20 with (first
    | (go_at_call 27; refine hT.mono ?_; rintro e w16 ⟨rfl, hb⟩)
    | fail)
  have hS16 := hS15.below hb
  clear hT hS15 hb
  have hSB : Sep w1 w16 (bytesE (.slice (some ⟨g1, 0, none⟩) (n + 9) (n + 9)) (ovF b c ++ marks9) :: [bytesE v11 (ovF b c), csE u5 l5, csE u4 l4, PG, csE u3 l3, csE u2 l2, csE u1 l1, bytesE (.slice (some ⟨g2, 0, none⟩) (m + 9) (m + 9)) (c ++ marks9), oldE w1]) := hS16.sw [_, _]
  have hA := AsLentB_sep hSB (vb := v11) HOL.out (show OwB w16 0 v11 (ovF b c) from hSB.of_mem (E := bytesE _ _) (by simp)).rd (by omega)
  go_upto_region 21 with (first
    | (go_at_call 28; refine hA.mono ?_; rintro e w17 ⟨rfl, hS17⟩)
    | fail)
  have hSC : Sep w1 w17 (bytesE (.slice (some ⟨g2, 0, none⟩) (m + 9) (m + 9)) (c ++ marks9) :: [bytesE v11 (ovF b c), csE u5 l5, csE u4 l4, PG, csE u3 l3, csE u2 l2, csE u1 l1, oldE w1]) := hS17.sw [_, _, _, _, _, _, _]
  clear hA hSB hS16 hS17
  have hA := AsLentB_sep hSC HM.out (hSC.rd (v := w1) (by simp) HC.out) (by omega)
  go_upto_region 22 with (first
    | (go_at_call 28; refine hA.mono ?_; rintro e w18 ⟨rfl, hS18⟩)
    | fail)
  clear hA hSC
  have hz := HPG.out.code HD1.out
  subst hz
  have hT1 : Sep w1 w18 (csE u4 l4 :: [bytesE v11 (ovF b c), csE u5 l5, PG, csE u3 l3, csE u2 l2, csE u1 l1, oldE w1]) := hS18.sw [_, _]
  have hT2 : Sep w1 w18 (csE u3 l3 :: [csE u4 l4, bytesE v11 (ovF b c), csE u5 l5, PG, csE u2 l2, csE u1 l1, oldE w1]) := hT1.sw [_, _, _, _]
  have hT3 : Sep w1 w18 (csE u2 l2 :: [csE u3 l3, csE u4 l4, bytesE v11 (ovF b c), csE u5 l5, PG, csE u1 l1, oldE w1]) := hT2.sw [_, _, _, _, _]
  have hT4 : Sep w1 w18 (csE u1 l1 :: [csE u2 l2, csE u3 l3, csE u4 l4, bytesE v11 (ovF b c), csE u5 l5, PG, oldE w1]) := hT3.sw [_, _, _, _, _, _]
  clear hS18 hT1 hT2 hT3
  rcases HPG.out with ⟨kp, lp, p, up, rfl, hz0, hyp, hrp, rfl⟩ | ⟨rfl, hz60, hnp⟩
  · subst hz0
    have HYP := Lib.hid hyp
    obtain ⟨y1, y2, y3, y4⟩ := hyp
    have hpe : (pgE p kp b.length (sizeF (pcs lp) : Nat) up lp).p w18 := hT4.of_mem (by simp)
    have hpb : OBlk w18 p 89 [.int .i64 kp, .int .i64 (b.length : Int), .int .i64 (sizeF (pcs lp) : Nat), up] := hpe.1 (blkE p 89 _) (by simp)
    have hpr : RdCs w18 up lp := csE_rd (hpe.1 (csE up lp) (by simp)) hrp
    have hP := isPowB_range y1
    obtain ⟨q1, q2⟩ := encE_zero.1 y3
    have hPB := PBytes_any p kp b.length _ up lp w18 hpb hpr y2 (by omega) (by omega) (fun x hx => may_ok (scan_may q1 x hx)) q2
    rw [y4] at hPB
    clear hpe hpb hpr hP q1 q2 y1 y2 y3 y4 hrp
    go_upto_region 26 with (first
      | (go_at_call 29; refine hPB.mono ?_; rintro e wx ⟨v19, rfl, ho19, hb19⟩)
      | fail)
    have hX := hT4.below hb19
    have s1 := run_B_string ho19.rd
    have s2 := run_B_string (hX.rd (v := w1) (by simp) HB.out)
    clear hPB hT4 ho19 hb19
    go_upto_region 28 with (fail)
    clear s1 s2
    have n1 := HD1.out.len.1
    have n2 := HD2.out.len.1
    have n3 := HD3.out.len.1
    have n4 := HD4.out.len.1
    have hB := hX.book6
    go_upto_region 29 with (fail)
    generalize hwb : wx.alloc (.cells #[.slice none 0 0, .slice none 0 0] 56) = w20 at *
    generalize wx.heap.size = bb at *
    clear hwb hX
    have hT := TakeAllC_sep hB (by simp only [List.length_append, List.length_nil, pairsC_length]; omega) (by simp)
    go_upto_region 30 with (first
      | (go_at_call 30; refine hT.mono ?_; rintro e w21 ⟨⟨_, rfl⟩, _, _, hB21⟩)
      | fail)
    clear hT hB
    have hT := TakeAllC_sep hB21 (by simp only [List.length_append, List.length_nil, pairsC_length]; omega) (by simp)
    go_upto_region 31 with (first
      | (go_at_call 30; refine hT.mono ?_; rintro e w22 ⟨⟨_, rfl⟩, _, _, hB22⟩)
      | fail)
    clear hT hB21
    have hT := TakeAllC_sep hB22 (by simp only [List.length_append, List.length_nil, pairsC_length]; omega) (by simp)
    go_upto_region 32 with (first
      | (go_at_call 30; refine hT.mono ?_; rintro e w23 ⟨⟨_, rfl⟩, _, _, hB23⟩)
      | fail)
    clear hT hB22
    have hT := TakeAllC_sep hB23 (by simp only [List.length_append, List.length_nil, pairsC_length]; omega) (by simp)
    go_upto_region 33 with (first
      | (go_at_call 30; refine hT.mono ?_; rintro e w24 ⟨⟨_, rfl⟩, _, _, hB24⟩)
      | fail)
    clear hT hB23
    have hO := Owned6_sep hB24 (by simp only [List.length_append, List.length_nil, pairsC_length]; omega) (fun p hp => by
      simp only [List.nil_append, List.mem_append] at hp
      rcases hp with ((hp | hp) | hp) | hp
      · exact HD1.out.len.2 p hp
      · exact HD2.out.len.2 p hp
      · exact HD3.out.len.2 p hp
      · exact HD4.out.len.2 p hp) (by simp) (fun p hp => by
      simp only [List.nil_append, List.mem_append, List.mem_singleton] at hp
      rcases hp with ((rfl | rfl) | rfl) | rfl <;> simp only <;> omega)
    go_wp2_with (first
      | (go_at_call 31; refine hO.mono ?_; rintro e w25 ⟨rfl, hB25⟩)
      | fail)
    go_ret
    exact ⟨rfl, hw1.trans ((hB25.belowOld (v := w1) (by simp)).mono hw1.size)⟩
  · subst hz60
    obtain ⟨wx, rfl⟩ : ∃ wx, wx = w18 := ⟨_, rfl⟩
    have hX := hT4
    clear hT4
    have n1 := HD1.out.len.1
    have n2 := HD2.out.len.1
    have n3 := HD3.out.len.1
    have n4 := HD4.out.len.1
    have hB := hX.book6
    go_upto_region 29 with (fail)
    generalize hwb : wx.alloc (.cells #[.slice none 0 0, .slice none 0 0] 56) = w20 at *
    generalize wx.heap.size = bb at *
    clear hwb hX
    have hT := TakeAllC_sep hB (by simp only [List.length_append, List.length_nil, pairsC_length]; omega) (by simp)
    go_upto_region 30 with (first
      | (go_at_call 30; refine hT.mono ?_; rintro e w21 ⟨⟨_, rfl⟩, _, _, hB21⟩)
      | fail)
    clear hT hB
    have hT := TakeAllC_sep hB21 (by simp only [List.length_append, List.length_nil, pairsC_length]; omega) (by simp)
    go_upto_region 31 with (first
      | (go_at_call 30; refine hT.mono ?_; rintro e w22 ⟨⟨_, rfl⟩, _, _, hB22⟩)
      | fail)
    clear hT hB21
    have hT := TakeAllC_sep hB22 (by simp only [List.length_append, List.length_nil, pairsC_length]; omega) (by simp)
    go_upto_region 32 with (first
      | (go_at_call 30; refine hT.mono ?_; rintro e w23 ⟨⟨_, rfl⟩, _, _, hB23⟩)
      | fail)
    clear hT hB22
    have hT := TakeAllC_sep hB23 (by simp only [List.length_append, List.length_nil, pairsC_length]; omega) (by simp)
    go_upto_region 33 with (first
      | (go_at_call 30; refine hT.mono ?_; rintro e w24 ⟨⟨_, rfl⟩, _, _, hB24⟩)
      | fail)
    clear hT hB23
    have hO := Owned6_sep hB24 (by simp only [List.length_append, List.length_nil, pairsC_length]; omega) (fun p hp => by
      simp only [List.nil_append, List.mem_append] at hp
      rcases hp with ((hp | hp) | hp) | hp
      · exact HD1.out.len.2 p hp
      · exact HD2.out.len.2 p hp
      · exact HD3.out.len.2 p hp
      · exact HD4.out.len.2 p hp) (by simp) (fun p hp => by
      simp only [List.nil_append, List.mem_append, List.mem_singleton] at hp
      rcases hp with ((rfl | rfl) | rfl) | rfl <;> simp only <;> omega)
    go_wp2_with (first
      | (go_at_call 31; refine hO.mono ?_; rintro e w25 ⟨rfl, hB25⟩)
      | fail)
    go_ret
    exact ⟨rfl, hw1.trans ((hB25.belowOld (v := w1) (by simp)).mono hw1.size)⟩
end Go.Proofs.Ytonbcipofakpjaa

-- espalierlaw06.pair.owned: the walk.
namespace Go.Proofs.Ytonbcipofakpjaa
open Go.RowKit
theorem Own.at5k {w : World} {b g n c : Nat} {l : List CV} (h : Own w b 32 5 (.slice (some ⟨g, 0, none⟩) n c) n (flatC l)) {k : Nat} (hk : k < l.length) :
    w.cell? ⟨g, k * 5, none⟩ = some l[k].kv ∧ w.cell? ⟨g, k * 5 + 1, none⟩ = some (.int .i64 l[k].c.kind) ∧ w.cell? ⟨g, k * 5 + 2, none⟩ = some l[k].vv ∧ w.cell? ⟨g, k * 5 + 3, none⟩ = some (.int .i64 l[k].c.page) ∧ w.cell? ⟨g, k * 5 + 4, none⟩ = some (.int .i64 l[k].c.count) :=
  ⟨h.cells (k * 5) _ (flatC_at l k 0 hk (by omega)), h.cells (k * 5 + 1) _ (flatC_at l k 1 hk (by omega)), h.cells (k * 5 + 2) _ (flatC_at l k 2 hk (by omega)), h.cells (k * 5 + 3) _ (flatC_at l k 3 hk (by omega)), h.cells (k * 5 + 4) _ (flatC_at l k 4 hk (by omega))⟩
theorem Sep.uncons2 {w0 w : World} {E F : Ent} {D L : List Ent} (h : Sep w0 w (allE (E :: F :: D) :: L)) : Sep w0 w (E :: F :: allE D :: L) := by
  have h1 : Sep w0 w ((E :: F :: D) ++ L) := h.unpack
  have h2 : Sep w0 w (D ++ E :: F :: L) := h1.perm (List.perm_append_comm_assoc [E, F] D L)
  exact Sep.pick (L := [_, _, _]) [1, 2, 0] (by decide) rfl h2.pack
theorem Sep.uncons1 {w0 w : World} {E : Ent} {D L : List Ent} (h : Sep w0 w (allE (E :: D) :: L)) : Sep w0 w (E :: allE D :: L) := by
  have h1 : Sep w0 w ((E :: D) ++ L) := h.unpack
  exact (Sep.back D h1).pack.sw1
theorem allCells_ok {w : World} {l : List CV} (h : (allE (cellsE l)).p w) (hr : RngC l) : ∀ x ∈ l, x.ok w := fun x hx => by
  have hk : OwB w 0 x.kv x.c.key := h.1 (bytesE x.kv x.c.key) (List.mem_flatMap.2 ⟨x, hx, by simp⟩)
  have hv : OwB w 0 x.vv x.c.val := h.1 (bytesE x.vv x.c.val) (List.mem_flatMap.2 ⟨x, hx, by simp⟩)
  exact ⟨hk.rd, hv.rd, (hr x hx).1, (hr x hx).2.1, (hr x hx).2.2⟩
theorem csE_parts {w0 w : World} {v : Value} {l : List CV} {L : List Ent} (h : Sep w0 w (csE v l :: L)) : Sep w0 w (ownE 32 5 v l.length (flatC l) :: allE (cellsE l) :: L) := Sep.uncons1 h
set_option maxRecDepth 100000 in
set_option maxHeartbeats 16000000 in
theorem owned_sep {w0 w : World} {pb k P : Nat} {kind : Int} {L : List Ent} (hP : W6At pb kind P w0 w L k) (HK : W6K kind P) (hk : k ≤ 2000000) :
    Calls Try.prog 39 #[.pointer (some ⟨pb, 0, none⟩)] w fun e w' => e = .returned (.bool true) ∧ Sep w0 w' L := by
  obtain ⟨p, r, u, v, l, lv, cv, came, wv, want, pv, pics, hv, hS, hb⟩ := hP
  have HB := Lib.hid hb
  have hcl : came.length ≤ 2000000 := by have := hb.nc; omega
  have hwl : want.length = came.length := by have := congrArg List.length hb.cw; rw [pcs_length, pcs_length] at this; exact this
  have hpl : pics.length ≤ 2000000 := by have := hb.np; omega
  have hS1 : Sep w0 w (csE cv came :: csE wv want :: w6P pb p r cv wv pv hv :: pgE p kind P (sizeF (pcs l) : Nat) u l :: rpE r kind P v lv :: ownE 27 1 pv pics.length (pics.map Prod.fst) :: ownE 9 1 hv pics.length (pics.map fun p => strV p.2) :: allE (pics.map fun p => bytesE p.1 p.2) :: L) := Sep.pick (L := [_, _, _, _, _]) [3, 4, 0, 1, 2] (by decide) rfl hS
  have hS2 := (csE_parts hS1)
  have hS3 : Sep w0 w (ownE 32 5 wv want.length (flatC want) :: allE (cellsE want) :: ownE 32 5 cv came.length (flatC came) :: allE (cellsE came) :: w6P pb p r cv wv pv hv :: pgE p kind P (sizeF (pcs l) : Nat) u l :: rpE r kind P v lv :: ownE 27 1 pv pics.length (pics.map Prod.fst) :: ownE 9 1 hv pics.length (pics.map fun p => strV p.2) :: allE (pics.map fun p => bytesE p.1 p.2) :: L) := csE_parts (Sep.pick (L := [_, _, _]) [2, 0, 1] (by decide) rfl hS2)
  obtain ⟨CA, cc, rfl⟩ := Own.slice (show Own w 0 32 5 cv came.length (flatC came) from hS3.tail.tail.head)
  obtain ⟨WA, wc, rfl⟩ := Own.slice (show Own w 0 32 5 wv want.length (flatC want) from hS3.head)
  obtain ⟨PA, pc, rfl⟩ := Own.slice (show Own w 0 27 1 pv pics.length (pics.map Prod.fst) from hS3.tail.tail.tail.tail.tail.tail.tail.head)
  obtain ⟨HA, hc, rfl⟩ := Own.slice (show Own w 0 9 1 hv pics.length (pics.map fun p => strV p.2) from hS3.tail.tail.tail.tail.tail.tail.tail.tail.head)
  have hS4 : Sep w0 w (w6P pb p r (.slice CA came.length cc) (.slice WA want.length wc) (.slice PA pics.length pc) (.slice HA pics.length hc) :: ownE 32 5 (.slice CA came.length cc) came.length (flatC came) :: ownE 32 5 (.slice WA want.length wc) want.length (flatC want) :: allE (cellsE want) :: allE (cellsE came) :: pgE p kind P (sizeF (pcs l) : Nat) u l :: rpE r kind P v lv :: ownE 27 1 (.slice PA pics.length pc) pics.length (pics.map Prod.fst) :: ownE 9 1 (.slice HA pics.length hc) pics.length (pics.map fun p => strV p.2) :: allE (pics.map fun p => bytesE p.1 p.2) :: L) := Sep.pick (L := [_, _, _, _, _]) [4, 2, 0, 1, 3] (by decide) rfl hS3
  have hS5 := hS4.book6
  have HWL := Lib.hid hwl
  clear hS hb hS1 hS2 hS3 hS4 hwl
  go_enter Try.func39, Try.ntmps39
  go_upto_region 3 with (fail)
  generalize w.alloc (.cells #[.slice none 0 0, .slice none 0 0] 56) = w1 at *
  generalize w.heap.size = bb at *
  go_loopw [4] (fun i wr => ∃ (q : Nat) (bv : Value), q ≤ came.length ∧ i = .int .i64 (q : Int) ∧
    Sep w0 wr (bookTE 56 bb [.slice none 0 0] bv (pairsC (came.take q)) :: listsE (.slice none 0 0) [] :: w6P pb p r (.slice CA came.length cc) (.slice WA want.length wc) (.slice PA pics.length pc) (.slice HA pics.length hc) :: ownE 32 5 (.slice CA came.length cc) came.length (flatC came) :: ownE 32 5 (.slice WA want.length wc) want.length (flatC want) :: allE (cellsE want) :: allE (cellsE (came.drop q)) :: pgE p kind P (sizeF (pcs l) : Nat) u l :: rpE r kind P v lv :: ownE 27 1 (.slice PA pics.length pc) pics.length (pics.map Prod.fst) :: ownE 9 1 (.slice HA pics.length hc) pics.length (pics.map fun p => strV p.2) :: allE (pics.map fun p => bytesE p.1 p.2) :: L)) (fun i _ => came.length - (intOf i).toNat)
  case atStart => exact ⟨0, _, Nat.zero_le _, rfl, by rw [List.take_zero, List.drop_zero]; exact hS5⟩
  case round =>
    clear hS5
    obtain ⟨q, bv, hq, rfl, hSq⟩ := hrel
    have hbk : OBlk wr pb 66 [.pointer (some ⟨p, 0, none⟩), .pointer (some ⟨r, 0, none⟩), .slice CA came.length cc, .slice WA want.length wc, .slice PA pics.length pc, .slice HA pics.length hc] := hSq.tail.tail.head
    have k2 := hbk.cell' (j := 2) rfl
    have k3 := hbk.cell' (j := 3) rfl
    have k4 := hbk.cell' (j := 4) rfl
    by_cases hlt : q < came.length
    · have i1 : (q : Int) < (came.length : Int) := by omega
      have i0 : (0 : Int) ≤ (q : Int) := by omega
      have hwlt : q < want.length := by rw [HWL.out]; exact hlt
      have i2 : (q : Int) < (want.length : Int) := by omega
      have hcw : Own wr 0 32 5 (.slice CA came.length cc) came.length (flatC came) := hSq.tail.tail.tail.head
      have hww : Own wr 0 32 5 (.slice WA want.length wc) want.length (flatC want) := hSq.tail.tail.tail.tail.head
      obtain ⟨gc, rfl⟩ := hcw.some5 (by omega)
      obtain ⟨gw, rfl⟩ := hww.some5 (by omega)
      obtain ⟨a0, a1, a2, a3, a4⟩ := hcw.at5k hlt
      obtain ⟨b0, b1, b2, b3, b4⟩ := hww.at5k hwlt
      have hyok := allCells_ok (hSq.tail.tail.tail.tail.tail.tail.head) (fun x hx => HB.out.rc x (List.mem_of_mem_drop hx)) came[q] (by rw [List.drop_eq_getElem_cons hlt]; exact List.mem_cons_self ..)
      have hzok := allCells_ok (hSq.tail.tail.tail.tail.tail.head) HB.out.rw want[q] (List.getElem_mem hwlt)
      have hcc : want[q].c = came[q].c := by
        have h1 := pcs_at hwlt
        have h2 := pcs_at hlt
        rw [← h1, ← h2]
        congr 1
        exact HB.out.cw
      have hdr : cellsE (came.drop q) = bytesE came[q].kv came[q].c.key :: bytesE came[q].vv came[q].c.val :: cellsE (came.drop (q + 1)) := cellsE_drop came hlt
      rw [hdr] at hSq
      have hsn : pairsC (came.take (q + 1)) = pairsC (came.take q) ++ [(came[q].kv, came[q].c.key)] ++ [(came[q].vv, came[q].c.val)] := pairsC_snoc came hlt
      have hsm := SameCell_eq came[q] want[q] wr.drew (hyok.below ((Below.refl _ _).drew)) (hzok.below ((Below.refl _ _).drew)) hcc
      have hcl2 : (pairsC (came.take q)).length ≤ 10000000 := by rw [pairsC_length, List.length_take]; omega
      have HSN := Lib.hid hsn
      have HQ := Lib.hid hlt
      clear hdr hsn hcc hbk
      generalize came[q] = y at *
      generalize want[q] = z at *
      obtain ⟨YA, ya, YB, yb, ykey, yck, yval, ypg, yct, rfl, -, -⟩ := CV.form hyok
      obtain ⟨ZA, za, ZB, zb, zkey, zck, zval, zpg, zct, rfl, -, -⟩ := CV.form hzok
      simp only at a0 a1 a2 a3 a4 b0 b1 b2 b3 b4 hSq
      unfold cellV at hsm
      simp only at hsm
      clear hyok hzok
      go_upto_region 5 with (fail)
      go_region_held3 (fun w' => w'.cell? ⟨pb, 2, none⟩ = some (.slice (some ⟨gc, 0, none⟩) came.length cc) ∧ w'.cell? ⟨pb, 3, none⟩ = some (.slice (some ⟨gw, 0, none⟩) want.length wc) ∧ w'.cell? ⟨gc, q * 5, none⟩ = some (.slice YA ykey.length ya) ∧ w'.cell? ⟨gc, q * 5 + 1, none⟩ = some (.int .i64 yck) ∧ w'.cell? ⟨gc, q * 5 + 2, none⟩ = some (.slice YB yval.length yb) ∧ w'.cell? ⟨gc, q * 5 + 3, none⟩ = some (.int .i64 ypg) ∧ w'.cell? ⟨gc, q * 5 + 4, none⟩ = some (.int .i64 yct) ∧
          w'.cell? ⟨gw, q * 5, none⟩ = some (.slice ZA zkey.length za) ∧ w'.cell? ⟨gw, q * 5 + 1, none⟩ = some (.int .i64 zck) ∧ w'.cell? ⟨gw, q * 5 + 2, none⟩ = some (.slice ZB zval.length zb) ∧ w'.cell? ⟨gw, q * 5 + 3, none⟩ = some (.int .i64 zpg) ∧ w'.cell? ⟨gw, q * 5 + 4, none⟩ = some (.int .i64 zct))
        (first
          | exact ⟨k2, k3, a0, a1, a2, a3, a4, b0, b1, b2, b3, b4⟩
          | exact ⟨(hw5.cell (World.block_lt_of_cell? wr _ k2)).trans k2, (hw5.cell (World.block_lt_of_cell? wr _ k3)).trans k3, (hw5.cell (World.block_lt_of_cell? wr _ a0)).trans a0, (hw5.cell (World.block_lt_of_cell? wr _ a1)).trans a1, (hw5.cell (World.block_lt_of_cell? wr _ a2)).trans a2, (hw5.cell (World.block_lt_of_cell? wr _ a3)).trans a3, (hw5.cell (World.block_lt_of_cell? wr _ a4)).trans a4, (hw5.cell (World.block_lt_of_cell? wr _ b0)).trans b0, (hw5.cell (World.block_lt_of_cell? wr _ b1)).trans b1, (hw5.cell (World.block_lt_of_cell? wr _ b2)).trans b2, (hw5.cell (World.block_lt_of_cell? wr _ b3)).trans b3, (hw5.cell (World.block_lt_of_cell? wr _ b4)).trans b4⟩)
        (first
          | (go_at_call 59; (with_reducible refine hsm.mono ?_); rintro e w5 ⟨rfl, hw5⟩)
          | fail)
      have k2' : w5.cell? ⟨pb, 2, none⟩ = some (.slice (some ⟨gc, 0, none⟩) came.length cc) := (hw5.cell (World.block_lt_of_cell? wr _ k2)).trans k2
      have a0' : w5.cell? ⟨gc, q * 5, none⟩ = some (.slice YA ykey.length ya) := (hw5.cell (World.block_lt_of_cell? wr _ a0)).trans a0
      have a1' : w5.cell? ⟨gc, q * 5 + 1, none⟩ = some (.int .i64 yck) := (hw5.cell (World.block_lt_of_cell? wr _ a1)).trans a1
      have a2' : w5.cell? ⟨gc, q * 5 + 2, none⟩ = some (.slice YB yval.length yb) := (hw5.cell (World.block_lt_of_cell? wr _ a2)).trans a2
      have a3' : w5.cell? ⟨gc, q * 5 + 3, none⟩ = some (.int .i64 ypg) := (hw5.cell (World.block_lt_of_cell? wr _ a3)).trans a3
      have a4' : w5.cell? ⟨gc, q * 5 + 4, none⟩ = some (.int .i64 yct) := (hw5.cell (World.block_lt_of_cell? wr _ a4)).trans a4
      have hS6 := hSq.drew.below hw5
      have hS7 : Sep w0 w5 (bookTE 56 bb [.slice none 0 0] bv (pairsC (came.take q)) :: bytesE (.slice YA ykey.length ya) ykey :: bytesE (.slice YB yval.length yb) yval :: allE (cellsE (came.drop (q + 1))) :: listsE (.slice none 0 0) [] :: w6P pb p r (.slice (some ⟨gc, 0, none⟩) came.length cc) (.slice (some ⟨gw, 0, none⟩) want.length wc) (.slice PA pics.length pc) (.slice HA pics.length hc) :: ownE 32 5 (.slice (some ⟨gc, 0, none⟩) came.length cc) came.length (flatC came) :: ownE 32 5 (.slice (some ⟨gw, 0, none⟩) want.length wc) want.length (flatC want) :: allE (cellsE want) :: pgE p kind P (sizeF (pcs l) : Nat) u l :: rpE r kind P v lv :: ownE 27 1 (.slice PA pics.length pc) pics.length (pics.map Prod.fst) :: ownE 9 1 (.slice HA pics.length hc) pics.length (pics.map fun p => strV p.2) :: allE (pics.map fun p => bytesE p.1 p.2) :: L) :=
        Sep.pick (L := [_, _, _, _, _, _, _, _, _]) [3, 0, 1, 2, 4, 5, 6, 7, 8] (by decide) rfl (Sep.uncons2 (Sep.pick (L := [_, _, _, _, _, _, _]) [6, 0, 1, 2, 3, 4, 5] (by decide) rfl hS6))
      have hT := Take6_sep (x := ⟨.slice YA ykey.length ya, .slice YB yval.length yb, ⟨ykey, yck, yval, ypg, yct⟩⟩) hS7 hcl2
      unfold cellV at hT
      simp only at hT
      clear hSq hS6 hS7 hsm k2 k3 k4 a0 a1 a2 a3 a4 b0 b1 b2 b3 b4
      go_wp2_with (first
        | (go_at_call 61; (with_reducible refine hT.mono ?_); rintro e w7 ⟨⟨_, rfl⟩, bv7, hS8⟩)
        | fail)
      go_roundw
      case rel =>
        refine ⟨q + 1, bv7, HQ.out, by go_num, ?_⟩
        rw [HSN.out]
        exact Sep.pick (L := [_, _, _, _, _, _, _]) [0, 2, 3, 4, 5, 6, 1] (by decide) rfl hS8
      case measure => have := HQ.out; simp [intOf]; omega
    · obtain rfl : q = came.length := by omega
      have hS6 : Sep w0 wr (bookTE 56 bb [.slice none 0 0] bv (pairsC came ++ pics.take 0) :: listsE (.slice none 0 0) [] :: w6P pb p r (.slice CA came.length cc) (.slice WA want.length wc) (.slice PA pics.length pc) (.slice HA pics.length hc) :: ownE 27 1 (.slice PA pics.length pc) pics.length (pics.map Prod.fst) :: ownE 9 1 (.slice HA pics.length hc) pics.length (pics.map fun p => strV p.2) :: allE ((pics.drop 0).map fun p => bytesE p.1 p.2) :: pgE p kind P (sizeF (pcs l) : Nat) u l :: rpE r kind P v lv :: L) := by
        rw [List.take_length] at hSq
        rw [List.take_zero, List.append_nil, List.drop_zero]
        exact Sep.pick (L := [_, _, _, _, _, _, _, _, _, _, _, _]) [0, 1, 2, 9, 10, 11, 7, 8] (by decide) rfl hSq
      have i1 : ¬ (came.length : Int) < (came.length : Int) := by omega
      clear hSq hbk k3
      go_wp2_with fail
      clear k2 k4
      obtain ⟨wq, rfl⟩ : ∃ wq, wq = wr := ⟨_, rfl⟩
      go_loopw [5] (fun i wr => ∃ (q : Nat) (bv : Value), q ≤ pics.length ∧ i = .int .i64 (q : Int) ∧
        Sep w0 wr (bookTE 56 bb [.slice none 0 0] bv (pairsC came ++ pics.take q) :: listsE (.slice none 0 0) [] :: w6P pb p r (.slice CA came.length cc) (.slice WA want.length wc) (.slice PA pics.length pc) (.slice HA pics.length hc) :: ownE 27 1 (.slice PA pics.length pc) pics.length (pics.map Prod.fst) :: ownE 9 1 (.slice HA pics.length hc) pics.length (pics.map fun p => strV p.2) :: allE ((pics.drop q).map fun p => bytesE p.1 p.2) :: pgE p kind P (sizeF (pcs l) : Nat) u l :: rpE r kind P v lv :: L)) (fun i _ => pics.length - (intOf i).toNat)
      case atStart => exact ⟨0, _, Nat.zero_le _, rfl, hS6⟩
      case round =>
        clear hS6
        obtain ⟨q, bv, hq, rfl, hSq⟩ := hrel
        have hbk : OBlk wr pb 66 [.pointer (some ⟨p, 0, none⟩), .pointer (some ⟨r, 0, none⟩), .slice CA came.length cc, .slice WA want.length wc, .slice PA pics.length pc, .slice HA pics.length hc] := hSq.tail.tail.head
        have k0 := hbk.cell' (j := 0) rfl
        have k1 := hbk.cell' (j := 1) rfl
        have k4 := hbk.cell' (j := 4) rfl
        have k5 := hbk.cell' (j := 5) rfl
        by_cases hlt : q < pics.length
        · have i2 : (q : Int) < (pics.length : Int) := by omega
          have j0 : (0 : Int) ≤ (q : Int) := by omega
          have hdr : pics.drop q = pics[q] :: pics.drop (q + 1) := List.drop_eq_getElem_cons hlt
          have htk : pics.take (q + 1) = pics.take q ++ [pics[q]] := List.take_succ_eq_append_getElem hlt
          rw [hdr, List.map_cons] at hSq
          have hcw : Own wr 0 27 1 (.slice PA pics.length pc) pics.length (pics.map Prod.fst) := hSq.tail.tail.tail.head
          have hww : Own wr 0 9 1 (.slice HA pics.length hc) pics.length (pics.map fun p => strV p.2) := hSq.tail.tail.tail.tail.head
          have g1 : (pics.map Prod.fst)[q]? = some pics[q].1 := by rw [List.getElem?_map, List.getElem?_eq_getElem hlt]; rfl
          have g2 : (pics.map fun p => strV p.2)[q]? = some (strV pics[q].2) := by rw [List.getElem?_map, List.getElem?_eq_getElem hlt]; rfl
          obtain ⟨gc, rfl⟩ := hcw.some5 (by omega)
          obtain ⟨gw, rfl⟩ := hww.some5 (by omega)
          have ce := Own.cells hcw q _ g1
          have we := Own.cells hww q _ g2
          have HT := Lib.hid htk
          have HQ := Lib.hid hlt
          have hpb : (pairsC came ++ pics.take q).length ≤ 100000000 := by rw [List.length_append, pairsC_length, List.length_take]; omega
          have HG := Lib.hid g1
          clear hdr htk g1 g2 hcw hww
          generalize pics[q] = pq at *
          obtain ⟨x, d⟩ := pq
          simp only at ce we hSq HG
          have hSu : Sep w0 wr (bytesE x d :: allE ((pics.drop (q + 1)).map fun p => bytesE p.1 p.2) :: bookTE 56 bb [.slice none 0 0] bv (pairsC came ++ pics.take q) :: listsE (.slice none 0 0) [] :: w6P pb p r (.slice CA came.length cc) (.slice WA want.length wc) (.slice (some ⟨gc, 0, none⟩) pics.length pc) (.slice (some ⟨gw, 0, none⟩) pics.length hc) :: ownE 27 1 (.slice (some ⟨gc, 0, none⟩) pics.length pc) pics.length (pics.map Prod.fst) :: ownE 9 1 (.slice (some ⟨gw, 0, none⟩) pics.length hc) pics.length (pics.map fun p => strV p.2) :: pgE p kind P (sizeF (pcs l) : Nat) u l :: rpE r kind P v lv :: L) := Sep.uncons1 (Sep.pick (L := [_, _, _, _, _, _]) [5, 0, 1, 2, 3, 4] (by decide) rfl hSq)
          obtain ⟨UA, ux, rfl, -⟩ := (OwB.rd (show OwB wr 0 x d from hSu.head)).form
          have s1 := fun n => strE (OwB.rd (show OwB wr 0 (.slice UA d.length ux) d from hSu.head)) n
          replace we : wr.cell? ⟨gw, q, none⟩ = some (.string ⟨d.toArray⟩) := we
          clear hbk hSq k0 k1
          go_upto_region 11 with (fail)
          go_quiet (fail)
          clear s1 we k5
          have hSv : Sep w0 wr (bookTE 56 bb [.slice none 0 0] bv (pairsC came ++ pics.take q) :: bytesE (.slice UA d.length ux) d :: allE ((pics.drop (q + 1)).map fun p => bytesE p.1 p.2) :: listsE (.slice none 0 0) [] :: w6P pb p r (.slice CA came.length cc) (.slice WA want.length wc) (.slice (some ⟨gc, 0, none⟩) pics.length pc) (.slice (some ⟨gw, 0, none⟩) pics.length hc) :: ownE 27 1 (.slice (some ⟨gc, 0, none⟩) pics.length pc) pics.length (pics.map Prod.fst) :: ownE 9 1 (.slice (some ⟨gw, 0, none⟩) pics.length hc) pics.length (pics.map fun p => strV p.2) :: pgE p kind P (sizeF (pcs l) : Nat) u l :: rpE r kind P v lv :: L) := Sep.pick (L := [_, _, _]) [2, 0, 1] (by decide) rfl hSu
          have hT := fun m => TakeT_sep (by decide) (by decide) (hSv.drewN m) hpb
          have HCE : ∀ w', Own w' 0 27 1 (.slice (some ⟨gc, 0, none⟩) pics.length pc) pics.length (pics.map Prod.fst) → w'.cell? ⟨gc, q, none⟩ = some (.slice UA d.length ux) := fun w' h => Own.cells h q _ HG.out
          clear hSu
          go_upto_region 13 with (fail)
          go_region_held3 (fun w' => w'.cell? ⟨pb, 4, none⟩ = some (.slice (some ⟨gc, 0, none⟩) pics.length pc) ∧ w'.cell? ⟨gc, q, none⟩ = some (.slice UA d.length ux))
            (first
              | exact ⟨k4, ce⟩
              | exact ⟨OBlk.cell' (show OBlk w7 pb 66 [.pointer (some ⟨p, 0, none⟩), .pointer (some ⟨r, 0, none⟩), .slice CA came.length cc, .slice WA want.length wc, .slice (some ⟨gc, 0, none⟩) pics.length pc, .slice (some ⟨gw, 0, none⟩) pics.length hc] from hS8.tail.tail.tail.head) (j := 4) rfl, HCE w7 hS8.tail.tail.tail.tail.head⟩)
            (first
              | (go_at_call 18; (with_reducible refine (hT _).mono ?_); rintro e w7 ⟨⟨_, rfl⟩, bv7, hS8⟩)
              | fail)
          go_wp2_with fail
          go_roundw
          case rel =>
            refine ⟨q + 1, bv7, HQ.out, by go_num, ?_⟩
            rw [HT.out, ← List.append_assoc]
            exact Sep.pick (L := [_, _, _, _, _, _]) [0, 2, 3, 4, 5, 1] (by decide) rfl hS8
          case measure => have := HQ.out; simp [intOf]; omega
        · obtain rfl : q = pics.length := by omega
          rw [List.take_length] at hSq
          have i2 : ¬ (pics.length : Int) < (pics.length : Int) := by omega
          have hxs : (pairsC came ++ pics).length ≤ 8388608 := by rw [List.length_append, pairsC_length]; omega
          have hxl : ∀ z ∈ pairsC came ++ pics, z.2.length ≤ 1000000000 := fun z hz => by
            rcases List.mem_append.1 hz with hz | hz
            · obtain ⟨y, hy, hz⟩ := List.mem_flatMap.1 hz
              have := HB.out.cl y.c (List.mem_map.2 ⟨y, hy, rfl⟩)
              simp only [List.mem_cons, List.not_mem_nil, or_false] at hz
              rcases hz with rfl | rfl
              · show y.c.key.length ≤ _; omega
              · show y.c.val.length ≤ _; omega
            · have := HB.out.pl z hz; omega
          have hO := Owned6_sep hSq hxs hxl (by simp) (by simp)
          clear hbk hxs hxl k5
          go_upto_region 15 with (first
            | (go_at_call 31; (with_reducible refine hO.mono ?_); rintro e w7 ⟨rfl, hS7⟩)
            | fail)
          clear hO hSq k0 k1 k4
          have hS8 : Sep w0 w7 (pgE p kind P (sizeF (pcs l) : Nat) u l :: rpE r kind P v lv :: w6P pb p r (.slice CA came.length cc) (.slice WA want.length wc) (.slice PA pics.length pc) (.slice HA pics.length hc) :: L) := Sep.pick (L := [_, _, _, _, _, _]) [4, 5, 0] (by decide) rfl hS7
          have hbk : OBlk w7 pb 66 [.pointer (some ⟨p, 0, none⟩), .pointer (some ⟨r, 0, none⟩), .slice CA came.length cc, .slice WA want.length wc, .slice PA pics.length pc, .slice HA pics.length hc] := hS8.tail.tail.head
          have k0 := hbk.cell' (j := 0) rfl
          have hC := PBytes_sep hS8 HB.out.rl HB.out.wk HK.kd HK.p1 HK.p2
          clear hbk
          go_upto_region 16 with (first
            | (go_at_call 29; (with_reducible refine hC.mono ?_); rintro e w8 ⟨va, rfl, hS9⟩)
            | fail)
          clear hC k0 hS8 hS7
          have hra : RdB w8 va (laidF kind (pcs l) P) := OwB.rd (show OwB w8 0 va (laidF kind (pcs l) P) from hS9.head)
          obtain ⟨A1, d1, rfl, -⟩ := hra.form
          have q0 := run_B_string (w := w8.drew) hra
          have hSx : Sep w0 w8.drew (rpE r kind P v lv :: bytesE (.slice A1 (laidF kind (pcs l) P).length d1) (laidF kind (pcs l) P) :: pgE p kind P (sizeF (pcs l) : Nat) u l :: w6P pb p r (.slice CA came.length cc) (.slice WA want.length wc) (.slice PA pics.length pc) (.slice HA pics.length hc) :: L) := (Sep.pick (L := [_, _, _]) [2, 0, 1] (by decide) rfl hS9).drew
          have k1 : w8.cell? ⟨pb, 1, none⟩ = some (.pointer (some ⟨r, 0, none⟩)) := OBlk.cell' (show OBlk w8.drew pb 66 [.pointer (some ⟨p, 0, none⟩), .pointer (some ⟨r, 0, none⟩), .slice CA came.length cc, .slice WA want.length wc, .slice PA pics.length pc, .slice HA pics.length hc] from hSx.tail.tail.tail.head) (j := 1) rfl
          have hC := RBytes_sep hSx HB.out.rv (by rw [HB.out.eq]; exact HB.out.wk) HK.kd HK.pw HK.p2
          rw [HB.out.eq] at hC
          clear hra hS9
          generalize laidF kind (pcs l) P = dd at *
          go_region_law
            (first
              | (go_simp; go_at_call 68; (with_reducible refine hC.mono ?_); rintro e w9 ⟨vb, rfl, hS10⟩; have hrb : RdB w9 vb dd := OwB.rd (show OwB w9 0 vb dd from hS10.head); have q2 := run_B_string hrb; have q3 := run_B_string (OwB.rd (show OwB w9 0 (.slice A1 dd.length d1) dd from hS10.tail.tail.head)); obtain ⟨B1, e1, rfl, -⟩ := hrb.form)
              | fail)
          all_goals
            go_wp2_with fail
            go_ret
            exact ⟨rfl, hS10.tail.tail.tail.tail.tail⟩
end Go.Proofs.Ytonbcipofakpjaa

-- The row's last step from 'Below' alone (the guide's small lemma 9).
namespace Go.Proofs.Ytonbcipofakpjaa
open Go.RowKit Go.WideShapes Go.ChangeShapes
section
variable {H : Type} {enc : TypeId × Value → H} {P : Program}
theorem post_of_below {f : Func} {s : ChangeSpec} {apart fresh handsOn again : Bool} {W W' : World} {args : Array Value} {v : Value} {ds gs : List (DataW H)} {before pa pv : List MemPlace}
    (hW : DataW.Whole enc P f.params.toList s.vars apart W args.toList ds gs before)
    (hres : ∀ (b : Nat) (sp : Nat → Bool) (hd : Bool), DataW.TrodAll enc P W' b sp hd f.resultTypes.toList (v.resultList f.resultTypes.size) (s.fn H (ds ++ gs)).results [])
    (hargs : ∀ sp : Nat → Bool, (∀ p ∈ before, sp p.block = true) → DataW.TrodAll enc P W' 0 sp true f.params.toList args.toList (s.fn H (ds ++ gs)).args pa)
    (hvars : ∀ sp : Nat → Bool, (∀ p ∈ before, sp p.block = true) → DataW.TrodVars enc P W' sp s.vars (s.fn H (ds ++ gs)).vars pv)
    (hps : before = pa ++ pv) (hb : Below W.heap.size W W')
    (hok : ∀ (j : Nat) (t : TypeId) (r : Value), f.resultTypes[j]? = some t → (v.resultList f.resultTypes.size)[j]? = some r → Value.okWide P W' .any 0 t r) :
    s.post enc P f apart fresh handsOn again W args v W' := by
  have hlt : ∀ p ∈ before, p.block < W.heap.size := fun p hp => hW.lt p hp
  have hold : ∀ p ∈ before, (fun b => decide (b < W.heap.size)) p.block = true := fun p hp => by simpa using hlt p hp
  refine ⟨ds, gs, before, [], pa, pv, hW, hres _ _ _, hargs _ hold, hvars _ hold, World.keptBut_mono (fun p hp => ⟨hp, ?_⟩) (hb.frame (· ∈ before)), fun _ => ?_⟩
  · rw [hps, List.mem_append] at hp
    exact Or.inr hp
  · obtain ⟨_, _, _, _, _, hz, hn⟩ := hW
    refine ⟨hok, _, _, ([] ++ pa) ++ pv, ⟨[] ++ pa, pv, trodAll_append (hargs _ (fun _ _ => rfl)) (hres _ _ _), hvars _ (fun _ _ => rfl), rfl, ?_, ?_⟩, ?_⟩
    · intro b off hp
      have hin : MemPlace.cell b off ∈ before := by rw [hps]; simpa using hp
      rw [hb.frozen (hlt _ hin)]
      exact hz b off hin
    · intro ha
      have := hn ha
      rw [hps] at this
      simpa using this
    · intro p hp _
      rw [hps]
      simpa using hp
end
end Go.Proofs.Ytonbcipofakpjaa

-- A law that returns true and changes nothing below: from its walk to the row's own form.
namespace Go.Proofs.Ytonbcipofakpjaa
open Go.RowKit Go.WideShapes Go.ChangeShapes Go.Joins
section
variable {H : Type} {enc : TypeId × Value → H} {P : Program}
theorem trodAll_stays (hl : laidOutB P = true) {W W' : World} {sp' : Nat → Bool} : ∀ {ts : List TypeId} {vs : List Value} {ds : List (DataW H)} {ps : List MemPlace}, (ts.all fun t => P.readableRec t && decide (t < P.types.size)) = true →
    DataW.TrodAll enc P W 0 (fun _ => true) true ts vs ds ps → (∀ p ∈ ps, W.sameAt W' p) → (∀ p ∈ ps, sp' p.block = true) → DataW.TrodAll enc P W' 0 sp' true ts vs ds ps
  | [], [], [], _, _, h, _, _ => h
  | t :: ts, _ :: _, _ :: _, _, hr, ⟨p, q, h1, h2, e⟩, hk, hs => by
    simp only [List.all_cons, Bool.and_eq_true, decide_eq_true_eq] at hr
    obtain ⟨⟨hr1, hr2⟩, hr3⟩ := hr
    exact ⟨p, q, WideElems.Trod_stays hl hr1 hr2 h1 (fun x hx => hk x (by rw [e]; exact List.mem_append_left _ hx)) (fun x hx => hs x (by rw [e]; exact List.mem_append_left _ hx)),
      trodAll_stays hl hr3 h2 (fun x hx => hk x (by rw [e]; exact List.mem_append_right _ hx)) (fun x hx => hs x (by rw [e]; exact List.mem_append_right _ hx)), e⟩
theorem trodAll_len {w : World} {base : Nat} {spare : Nat → Bool} {held : Bool} : ∀ {ts : List TypeId} {vs : List Value} {ds : List (DataW H)} {ps : List MemPlace}, DataW.TrodAll enc P w base spare held ts vs ds ps → ds.length = ts.length
  | [], [], [], _, _ => rfl
  | _ :: _, _ :: _, _ :: _, _, ⟨_, _, _, h2, _⟩ => by simp [trodAll_len h2]
theorem law_post {fn : Func} {s : ChangeSpec} {tb : TypeId} {W W' : World} {args : Array Value} {ds gs : List (DataW H)} {before : List MemPlace} (hvars : s.vars = []) (hrt : fn.resultTypes = #[tb]) (htb : P.underlying tb = some .bool) (hl : laidOutB P = true)
    (hr : (fn.params.toList.all fun t => P.readableRec t && decide (t < P.types.size)) = true) (hs : ∀ ds : List (DataW H), ds.length = fn.params.size → s.fn H ds = { results := [.lit (.bool true)], args := ds })
    (hW : DataW.Whole enc P fn.params.toList s.vars false W args.toList ds gs before) (hb : Below W.heap.size W W') : s.post enc P fn false true false false W args (.bool true) W' := by
  have hW' := hW
  obtain ⟨p, q, hA, hV, rfl, hfz, hnd⟩ := hW
  rw [hvars] at hV
  obtain ⟨rfl, rfl⟩ := trodVars_none hV
  have hlen : ds.length = fn.params.size := by simpa using trodAll_len hA
  have hfn := hs ds hlen
  have hlt : ∀ x ∈ p, x.block < W.heap.size := fun x hx => hW'.lt x (List.mem_append_left _ hx)
  refine post_of_below (pa := p) (pv := []) hW' ?_ ?_ ?_ (by simp) hb (ok_one hrt rfl (okWide_bool_mk htb _))
  · intro b sp hd
    rw [List.append_nil, hfn, hrt]
    exact trodAll_cons_mk (shut_bool htb _) trodAll_mk0
  · intro sp hsp
    rw [List.append_nil, hfn]
    exact trodAll_stays hl hr hA (fun x hx => hb.same (hlt x hx)) (fun x hx => hsp x (List.mem_append_left _ hx))
  · intro sp _
    rw [List.append_nil, hfn, hvars]
    exact (rfl : DataW.TrodVars enc P W' sp [] [] [])
end
theorem law_lifts {H : Type} {enc : TypeId × Value → H} {C : Checked} {os : Os} {fno : FuncId} {fn : Func} {s : ChangeSpec} {conds : List PathCond} {tb : TypeId}
    (own : ownKnob C.prog.godebug = none) (started : os.Started) (noInit : C.prog.inits.idxOf? fno = none) (hfn : C.prog.funcs[fno]? = some fn)
    (witness : ∃ (w : World) (tape : Tape) (i : Input), w.os = os ∧ (w.forCall tape i).Shaped C.prog ∧ i.vars = [] ∧ Input.okWide C.prog (w.forCall tape i) .any w.heap.size fno i ∧
      s.pre6 enc C.prog fn conds false (w.forCall tape i).memory i.args ∧ ({} : Assume).holds C.prog (lone (Frame.enter C.prog fno i.args .normal) [] (w.forCall tape i)))
    (hvars : s.vars = []) (hrt : fn.resultTypes = #[tb]) (htb : C.prog.underlying tb = some .bool) (hl : laidOutB C.prog = true)
    (hr : (fn.params.toList.all fun t => C.prog.readableRec t && decide (t < C.prog.types.size)) = true) (hs : ∀ ds : List (DataW H), ds.length = fn.params.size → s.fn H ds = { results := [.lit (.bool true)], args := ds })
    (walk : ∀ (W : World) (base : Nat) (args : Array Value) (ds : List (DataW H)) (p : List MemPlace), (∀ (j : Nat) t v, fn.params[j]? = some t → args[j]? = some v → Value.okWide C.prog W .any base t v) →
      DataW.TrodAll enc C.prog W 0 (fun _ => true) true fn.params.toList args.toList ds p → (DataW.weightsEach C.prog fn.params.toList ds).all (· ≤ reachBytes) = true →
      Calls C.prog fno args W fun e W' => e = .returned (.bool true) ∧ Below W.heap.size W W') :
    ReturnsInHanded {} C os fno .any (s.pre6 enc C.prog fn conds false) (s.post enc C.prog fn false true false false) := by
  refine returnsInHanded_of_change_sized own started noInit hfn witness ?_
  intro W base args ds gs before hval hW _ hsz _
  have hW' := hW
  obtain ⟨p, q, hA, hV, _, _, _⟩ := hW
  rw [hvars] at hV
  obtain ⟨rfl, rfl⟩ := trodVars_none hV
  have hv : s.plain.varTypes C.prog = [] := by
    unfold ChangeSpec.plain DataSpec.varTypes
    simp [hvars]
  rw [hv, List.append_nil, List.append_nil] at hsz
  refine (walk W base args ds p hval hA hsz).mono fun e W' h => ?_
  obtain ⟨rfl, hb⟩ := h
  exact ⟨_, rfl, law_post hvars hrt htb hl hr hs hW' hb⟩
section
variable {H : Type} {enc : TypeId × Value → H} {W : World}
theorem cells_u8 : Try.prog.cellsOf 5 = 1 := by kernel_rfl
theorem bytes_u8 : Try.prog.bytesOf 5 = 1 := by kernel_rfl
set_option maxRecDepth 100000 in
/-- An argument of type []byte. -/
theorem open_bytes {base : Nat} {v : Value} {d : DataW H} {p : List MemPlace} {ts : List TypeId} {ds : List (DataW H)} {j : Nat} (hv : Value.okWide Try.prog W .any base 27 v) (h : DataW.Trod enc Try.prog W 0 (fun _ => true) true 27 v d p)
    (hsz : (DataW.weightsEach Try.prog ts ds).all (· ≤ reachBytes) = true) (ht : ts[j]? = some 27) (hd : ds[j]? = some d) :
    ∃ l : List UInt8, RdB W v l ∧ l.length ≤ 140737488351232 := by
  obtain ⟨a0, len, cap, rfl⟩ := okWide_slice Try.underlying27 hv
  obtain ⟨fuel, hf⟩ := h
  rcases open_ints Try.underlying27 Try.underlying5 cells_u8 hf with ⟨hcs, _⟩ | ⟨a, len', cap', zs, hcs, _, hl, hm, hz, hx, hcell, hwz⟩
  · simp [Value.cells] at hcs
    obtain ⟨rfl, rfl, rfl⟩ := hcs
    exact ⟨[], RdB.nil, by simp⟩
  · simp [Value.cells] at hcs
    obtain ⟨rfl, rfl, rfl⟩ := hcs
    simp only [if_true] at hz
    simp only [Prod.mk.injEq] at hx
    obtain ⟨rfl, _⟩ := hx
    have hs := sized_slice hsz ht hd Try.underlying27
    rw [bytes_u8] at hs
    simp only [lits, List.length_map, List.length_take, List.length_drop, reachBytes] at hs
    refine ⟨(zs.take len).map fun z => UInt8.ofNat z.toNat, ?_, by simp; omega⟩
    have hlen : ((zs.take len).map fun z => UInt8.ofNat z.toNat).length = len := by simp; omega
    refine ⟨some a, cap, by rw [hlen], by rw [hlen]; exact hl, hm, fun j hj => ⟨a, rfl, ?_⟩⟩
    rw [hlen] at hj
    rw [hcell j (by omega)]
    have hjz : j < zs.length := by omega
    have hmem : zs[j] ∈ zs := List.getElem_mem hjz
    have hw := hwz _ hmem
    have hg : zs.getD j 0 = zs[j] := by simp [List.getD, hjz]
    rw [hg]
    simp [Lit.wf, IntKind.min, IntKind.max, IntKind.signed, IntKind.bits] at hw
    simp
    omega
end
end Go.Proofs.Ytonbcipofakpjaa

-- An argument of type []api.Cell.
namespace Go.Proofs.Ytonbcipofakpjaa
open Go.RowKit Go.WideShapes Go.ChangeShapes Go.Deep
section
variable {H : Type} {enc : TypeId × Value → H} {W : World}
theorem cells_int : Try.prog.cellsOf 3 = 1 := by kernel_rfl
theorem bytes_int : Try.prog.bytesOf 3 = 8 := by kernel_rfl
/-- A field, or an element, of type []byte. -/
theorem trod_bytes {fuel : Nat} {cs : List Value} {x : DataW H × List MemPlace} (h : DataW.trod enc Try.prog W 0 (fun _ => true) true fuel 27 cs = some x) :
    ∃ (v : Value) (l : List UInt8), cs = [v] ∧ RdB W v l ∧ ((x.1 = .nil ∧ l = []) ∨ ∃ e s, x.1 = .slice e s ∧ l.length ≤ e.length + s.length) := by
  rcases open_ints Try.underlying27 Try.underlying5 cells_u8 h with ⟨rfl, rfl⟩ | ⟨a, len, cap, zs, rfl, _, hl, hm, hz, rfl, hcell, hwz⟩
  · exact ⟨_, [], rfl, RdB.nil, .inl ⟨rfl, rfl⟩⟩
  · simp only [if_true] at hz
    have hlen : ((zs.take len).map fun z => UInt8.ofNat z.toNat).length = len := by simp; omega
    refine ⟨_, (zs.take len).map fun z => UInt8.ofNat z.toNat, rfl, ⟨some a, cap, by rw [hlen], by rw [hlen]; exact hl, hm, fun j hj => ⟨a, rfl, ?_⟩⟩, .inr ⟨_, _, rfl, by rw [hlen]; simp [lits]; omega⟩⟩
    rw [hlen] at hj
    rw [hcell j (by omega)]
    have hjz : j < zs.length := by omega
    have hw := hwz _ (List.getElem_mem hjz)
    have hg : zs.getD j 0 = zs[j] := by simp [List.getD, hjz]
    rw [hg]
    simp [Lit.wf, IntKind.min, IntKind.max, IntKind.signed, IntKind.bits] at hw
    simp
    omega
theorem trod_i64 {fuel : Nat} {cs : List Value} {x : DataW H × List MemPlace} (h : DataW.trod enc Try.prog W 0 (fun _ => true) true fuel 3 cs = some x) : ∃ n : Int, cs = [.int .i64 n] ∧ -9223372036854775808 ≤ n ∧ n ≤ 9223372036854775807 := by
  obtain ⟨n, rfl, _, hw⟩ := DataW.trod_int Try.underlying3 h
  simp [Lit.wf, IntKind.min, IntKind.max, IntKind.signed, IntKind.bits] at hw
  exact ⟨n, rfl, hw⟩
theorem weightsAll_in {P : Program} {e : TypeId} : ∀ {l : List (DataW H)} {d : DataW H}, d ∈ l → ∀ n ∈ d.weights P e, n ∈ DataW.weightsAll P e l
  | [], _, h => by cases h
  | x :: r, d, h => by
    intro n hn
    rw [DataW.weightsAll, List.mem_append]
    rcases List.mem_cons.1 h with rfl | h
    · exact .inl hn
    · exact .inr (weightsAll_in h n hn)
theorem cells_Cell : Try.prog.cellsOf 32 = 5 := by kernel_rfl
theorem bytes_Cell : Try.prog.bytesOf 32 = 72 := by kernel_rfl
set_option maxRecDepth 100000 in
theorem open_cell {fuel : Nat} {cs : List Value} {x : DataW H × List MemPlace} (h : DataW.trod enc Try.prog W 0 (fun _ => true) true fuel 32 cs = some x) :
    ∃ o : CV, cs = o.cells ∧ o.ok W ∧ ∃ y0 y1 y2 y3 y4, x.1 = .agg [y0, y1, y2, y3, y4] ∧ ((y0 = .nil ∧ o.c.key = []) ∨ ∃ e s, y0 = .slice e s ∧ o.c.key.length ≤ e.length + s.length) ∧ ((y2 = .nil ∧ o.c.val = []) ∨ ∃ e s, y2 = .slice e s ∧ o.c.val.length ≤ e.length + s.length) := by
  obtain ⟨xs, n, _, rfl, hcl, hxl, hg⟩ := DataW.trod_struct Try.underlying32 h
  rw [cells_Cell] at hcl
  match cs, hcl with
  | [c0, c1, c2, c3, c4], _ =>
    match xs, hxl with
    | [z0, z1, z2, z3, z4], _ =>
      have g0 := hg 0 _ rfl
      have g1 := hg 1 _ rfl
      have g2 := hg 2 _ rfl
      have g3 := hg 3 _ rfl
      have g4 := hg 4 _ rfl
      obtain ⟨kv, key, e0, hd, w0⟩ := trod_bytes (cs := [c0]) g0
      obtain ⟨k, e1, r1⟩ := trod_i64 (cs := [c1]) g1
      obtain ⟨vv, val, e2, hv, w2⟩ := trod_bytes (cs := [c2]) g2
      obtain ⟨pg, e3, r3⟩ := trod_i64 (cs := [c3]) g3
      obtain ⟨ct, e4, r4⟩ := trod_i64 (cs := [c4]) g4
      injection e0 with e0
      injection e1 with e1
      injection e2 with e2
      injection e3 with e3
      injection e4 with e4
      subst e0 e1 e2 e3 e4
      exact ⟨⟨c0, c2, ⟨key, k, val, pg, ct⟩⟩, rfl, ⟨hd, hv, r1, r3, r4⟩, z0.1, z1.1, z2.1, z3.1, z4.1, rfl, w0, w2⟩
set_option maxRecDepth 100000 in
theorem open_cells {base : Nat} {v : Value} {d : DataW H} {p : List MemPlace} {ts : List TypeId} {ds : List (DataW H)} {j : Nat} (hv : Value.okWide Try.prog W .any base 25 v) (h : DataW.Trod enc Try.prog W 0 (fun _ => true) true 25 v d p)
    (hsz : (DataW.weightsEach Try.prog ts ds).all (· ≤ reachBytes) = true) (ht : ts[j]? = some 25) (hd : ds[j]? = some d) :
    ∃ l : List CV, RdCs W v l ∧ l.length * 72 ≤ 140737488351232 ∧ ∀ o ∈ l, o.c.key.length ≤ 140737488351232 ∧ o.c.val.length ≤ 140737488351232 := by
  obtain ⟨a0, len, cap, rfl⟩ := okWide_slice Try.underlying25 hv
  obtain ⟨fuel, hf⟩ := h
  rcases open_slice Try.underlying25 hf with ⟨hcs, _⟩ | ⟨a, len', cap', m, n, D, Pl, hcs, _, hl, hm, hmm, hx, hi⟩
  · simp [Value.cells] at hcs
    obtain ⟨rfl, rfl, rfl⟩ := hcs
    exact ⟨[], ⟨Rd.nil, by simp⟩, by simp, by simp⟩
  · simp [Value.cells] at hcs
    obtain ⟨rfl, rfl, rfl⟩ := hcs
    simp only [if_true] at hmm
    subst hmm
    simp only [Prod.mk.injEq] at hx
    obtain ⟨rfl, _⟩ := hx
    have key : ∀ i, i < m → ∃ o : CV, (∀ r u, o.cells[r]? = some u → W.cell? (a.add (i * 5 + r)) = some u) ∧ o.ok W ∧ ∃ y0 y1 y2 y3 y4, D i = .agg [y0, y1, y2, y3, y4] ∧ ((y0 = .nil ∧ o.c.key = []) ∨ ∃ e s, y0 = .slice e s ∧ o.c.key.length ≤ e.length + s.length) ∧ ((y2 = .nil ∧ o.c.val = []) ∨ ∃ e s, y2 = .slice e s ∧ o.c.val.length ≤ e.length + s.length) := fun i him => by
      obtain ⟨cs', hc, ht'⟩ := hi i him
      obtain ⟨o, rfl, hok, hy⟩ := open_cell ht'
      refine ⟨o, fun r u hu => ?_, hok, hy⟩
      obtain ⟨_, hcl, hat⟩ := World.cells?_some hc
      have hr : r < Try.prog.cellsOf 32 := by
        have := (List.getElem?_eq_some_iff.1 hu).1
        rw [← hcl]; exact this
      have := hat r hr
      rw [cells_Cell] at this
      rw [← add_of_add, this, hu]
    obtain ⟨f, hf'⟩ := choose_lt key
    have hlen : ((List.range len).map f).length = len := by simp
    refine ⟨(List.range len).map f, ⟨⟨by rw [flatC_length], some a, m, by rw [hlen], by rw [hlen]; exact hl, hm, fun j u hj => ⟨a, rfl, ?_⟩⟩, ?_⟩, ?_, ?_⟩
    · have hjl : j < len * 5 := by
        have := (List.getElem?_eq_some_iff.1 hj).1
        rw [flatC_length, hlen] at this; exact this
      have hil : j / 5 < len := Nat.div_lt_of_lt_mul (by omega)
      have hjj : j = j / 5 * 5 + j % 5 := by omega
      rw [hjj, flatC_at _ (j / 5) (j % 5) (by rw [hlen]; exact hil) (Nat.mod_lt _ (by omega))] at hj
      rw [hjj]
      refine (hf' (j / 5) (by omega)).1 (j % 5) u ?_
      simpa using hj
    · intro o ho
      obtain ⟨i, hi', rfl⟩ := List.mem_map.1 ho
      have := List.mem_range.1 hi'
      exact (hf' i (by omega)).2.1
    · have hs := sized_slice hsz ht hd Try.underlying25
      rw [bytes_Cell] at hs
      simp only [List.length_map, List.length_range, reachBytes] at hs
      simp only [List.length_map, List.length_range]
      omega
    · intro o ho
      obtain ⟨i, hi', rfl⟩ := List.mem_map.1 ho
      have hil := List.mem_range.1 hi'
      obtain ⟨_, _, y0, y1, y2, y3, y4, hD, w4, w5⟩ := hf' i (by omega)
      have hin : ∀ k ∈ (D i).weights Try.prog 32, k ≤ reachBytes := fun k hk => by
        have h1 := weightsAll_in (P := Try.prog) (e := 32) (List.mem_map.2 ⟨i, hi', rfl⟩ : D i ∈ (List.range len).map D) k hk
        have h2 := List.all_eq_true.1 hsz k (DataW.weights_mem_each ht hd _ (by
          simp only [DataW.weights, Try.underlying25]
          exact List.mem_cons.2 (.inr (List.mem_append.2 (.inl h1)))))
        simpa using h2
      rw [hD] at hin
      constructor
      · rcases w4 with ⟨_, e⟩ | ⟨e, s, rfl, hle⟩
        · rw [e]; simp
        · have := hin ((e.length + s.length) * Try.prog.bytesOf 5) (by
            simp only [DataW.weights, Try.underlying32]
            refine DataW.weights_mem_each (j := 0) rfl rfl _ ?_
            simp only [DataW.weights, Try.underlying27]
            exact List.mem_cons.2 (.inl rfl))
          rw [bytes_u8] at this
          simp only [reachBytes] at this
          omega
      · rcases w5 with ⟨_, e⟩ | ⟨e, s, rfl, hle⟩
        · rw [e]; simp
        · have := hin ((e.length + s.length) * Try.prog.bytesOf 5) (by
            simp only [DataW.weights, Try.underlying32]
            refine DataW.weights_mem_each (j := 2) rfl rfl _ ?_
            simp only [DataW.weights, Try.underlying27]
            exact List.mem_cons.2 (.inl rfl))
          rw [bytes_u8] at this
          simp only [reachBytes] at this
          omega
end
end Go.Proofs.Ytonbcipofakpjaa

-- A law's '..UptoSaid': what the bound on the bulk gives; from the walk to the row's own form.
namespace Go.Proofs.Ytonbcipofakpjaa
open Go.RowKit Go.WideShapes Go.ChangeShapes Go.Joins Go.Deep
section
variable {H : Type} {enc : TypeId × Value → H} {W : World}
theorem bulk_pos (d : DataW H) : 1 ≤ Rows.uptoBulk d := by
  cases d with
  | lit l => cases l <;> simp [Rows.uptoBulk]
  | nil => simp [Rows.uptoBulk]
  | ptr d => simp [Rows.uptoBulk]
  | slice elems spare => simp [Rows.uptoBulk]
  | agg parts => simp [Rows.uptoBulk]
  | iface t d => simp [Rows.uptoBulk]
  | map entries => simp [Rows.uptoBulk]
  | held h => simp [Rows.uptoBulk]
theorem bulkU_mem {d : DataW H} : ∀ {l : List (DataW H)}, d ∈ l → Rows.uptoBulk d ≤ Rows.uptoBulkAll l
  | x :: r, h => by
    simp only [Rows.uptoBulkAll]
    rcases List.mem_cons.1 h with rfl | e
    · omega
    · have := bulkU_mem e
      omega
theorem bulk_length : ∀ l : List (DataW H), l.length ≤ Rows.uptoBulkAll l
  | [] => by simp [Rows.uptoBulkAll]
  | x :: r => by
    have h1 := bulk_pos x
    have h2 := bulk_length r
    simp only [Rows.uptoBulkAll, List.length_cons]
    omega
theorem bulk_places (elems spare : List (DataW H)) : elems.length + spare.length + 1 ≤ Rows.uptoBulk (.slice elems spare) := by
  have h1 := bulk_length elems
  have h2 := bulk_length spare
  simp only [Rows.uptoBulk]
  omega
end
theorem law_lifts_upto {H : Type} {enc : TypeId × Value → H} {C : Checked} {os : Os} {fno : FuncId} {fn : Func} {s : ChangeSpec} {conds : List PathCond} {tb : TypeId} {F : Stop.Interp}
    (own : ownKnob C.prog.godebug = none) (started : os.Started) (noInit : C.prog.inits.idxOf? fno = none) (hfn : C.prog.funcs[fno]? = some fn)
    (witness : ∃ (w : World) (tape : Tape) (i : Input), w.os = os ∧ (w.forCall tape i).Shaped C.prog ∧ i.vars = [] ∧ Input.okWide C.prog (w.forCall tape i) .any w.heap.size fno i ∧
      (Rows.OpenSpec.upto s).pre6 enc C.prog fn conds false (w.forCall tape i).memory i.args ∧ ({} : Assume).holds C.prog (lone (Frame.enter C.prog fno i.args .normal) [] (w.forCall tape i)))
    (hvars : s.vars = []) (hrt : fn.resultTypes = #[tb]) (htb : C.prog.underlying tb = some .bool) (hl : laidOutB C.prog = true)
    (hr : (fn.params.toList.all fun t => C.prog.readableRec t && decide (t < C.prog.types.size)) = true) (hs : ∀ ds : List (DataW H), ds.length = fn.params.size → s.fn H ds = { results := [.lit (.bool true)], args := ds })
    (walk : ∀ (W : World) (base : Nat) (args : Array Value) (ds : List (DataW H)) (p : List MemPlace), (∀ (j : Nat) t v, fn.params[j]? = some t → args[j]? = some v → Value.okWide C.prog W .any base t v) →
      DataW.TrodAll enc C.prog W 0 (fun _ => true) true fn.params.toList args.toList ds p → Rows.uptoBulkAll ds ≤ 1048576 →
      Calls C.prog fno args W fun e W' => e = .returned (.bool true) ∧ Below W.heap.size W W') :
    ReturnsInHanded {} C os fno .any ((Rows.OpenSpec.upto s).pre6 enc C.prog fn conds false) (((Rows.OpenSpec.upto s).at F).post enc C.prog fn false true false false) := by
  refine returnsInHanded_of_cond (s := Rows.OpenSpec.upto s) (k := Rows.uptoSmall) rfl own started noInit hfn witness ?_
  intro W base args ds gs before hval hW _ hk _
  have hW' : DataW.Whole enc C.prog fn.params.toList s.vars false W args.toList ds gs before := hW
  obtain ⟨p, q, hA, hV, _, _, _⟩ := hW
  have hV : DataW.TrodVars enc C.prog W (fun _ => true) s.vars gs q := hV
  rw [hvars] at hV
  obtain ⟨rfl, rfl⟩ := trodVars_none hV
  rw [List.append_nil] at hk
  refine (walk W base args ds p hval hA (of_decide_eq_true hk)).mono fun e W' h => ?_
  obtain ⟨rfl, hb⟩ := h
  exact ⟨_, rfl, law_post hvars hrt htb hl hr hs hW' hb⟩
end Go.Proofs.Ytonbcipofakpjaa
