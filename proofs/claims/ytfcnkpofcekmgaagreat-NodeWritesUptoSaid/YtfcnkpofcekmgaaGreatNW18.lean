/- Texts joined: node.Half; espalierref08.Encode, Fits, Size -/
import Derived.Test.YtfcnkpofcekmgaaGreatNW9
import Derived.Test.YtfcnkpofcekmgaaGreatNW14
import Derived.Test.YtfcnkpofcekmgaaGreatNW16
import Derived.Test.YtfcnkpofcekmgaaGreatNW17
-- node.Half: the walk, for either engine.
namespace Go.Proofs.YtfcnkpofcekmgaaGreat
open Go.RowKit
theorem rightC_rd {w' : World} {base : Nat} {kind : Int} {v u : Value} {l : List CV} {k : Nat} (ho : Own w' base 43 5 v (rightC kind l k).length (flatC (rightC kind l k))) (hl : RdCs w' u l) : RdCs w' v (rightC kind l k) := by
  refine ⟨ho.rd, fun x hx => ?_⟩
  unfold rightC at hx
  split at hx
  · have hd : ∀ y ∈ l.drop k, y.ok w' := fun y hy => hl.ok y (List.mem_of_mem_drop hy)
    split at hx
    · cases hx
    · rename_i y r hyr
      rcases List.mem_cons.1 hx with rfl | hx
      · have hy := hd y (by rw [hyr]; simp)
        exact ⟨RdB.nil, hy.v, hy.r1, hy.r2, hy.r3⟩
      · exact hd x (by rw [hyr]; simp [hx])
  · exact hl.ok x (List.mem_of_mem_drop hx)
theorem Sep.rdC8 {w0 w v : World} {L : List Ent} {x : Value} {l : List CV} (h : Sep w0 w L) (hm : oldE v ∈ L) (hr : RdCs v x l) : RdCs w x l :=
  ⟨hr.form.keep (h.old_cell hm), fun y hy => { hr.ok y hy with k := h.rd hm (hr.ok y hy).k, v := h.rd hm (hr.ok y hy).v }⟩
def szN1 (_kind : Int) (l : List PC) : Nat := sizeF l
def fitN1 (kind : Int) (P : Nat) (l : List PC) : Bool := encZ kind l (P : Int) == 0
theorem SizeN_1 (kind : Int) (v : Value) (l : List CV) (w : World) (hl : RdCs w v l) (hb : bigK (pcs l) ≤ 1000000000000000000) :
    Calls Tryz.prog 73 #[.int .i64 kind, v] w fun e w' => e = .returned (.int .i64 (szN1 kind (pcs l) : Nat)) ∧ Below w.heap.size w w' := Size_any kind v l w hl (fit_big hb)
theorem szN1_le (kind : Int) {l : List PC} (hb : bigK l ≤ 1000000000000000000) : szN1 kind l ≤ 4000000000000000000 := by have := sizeF_big l; unfold szN1; omega
set_option maxRecDepth 100000 in
set_option maxHeartbeats 16000000 in
theorem NdHalf_1_2 (v : Value) (l : List CV) (P : Nat) (hp : isPowB (P : Int) = true) (w : World) (hl : RdCs w v l) (hn : l.length * 72 ≤ 140737488355328) (hb : bigK (pcs l) ≤ 1000000000000000000) :
    Calls Tryz.prog 28 #[.int .i64 1, .int .i64 2, v, .int .i64 (P : Int)] w fun e w' => e = .returned (.tuple #[.int .i64 (halfA (szN1 2) (fitN1 2 P) 2 (pcs l) P : Nat), .int .i64 (halfZ (szN1 2) (fitN1 2 P) 2 (pcs l) P)]) ∧ Below w.heap.size w w' := by
  have hsf := st_func
  have hr := isPowB_range hp
  have hi := fun W => NdIsPage_any (P : Int) (by omega) W
  rw [hp] at hi
  obtain ⟨n, hnn⟩ : ∃ n, l.length = n := ⟨_, rfl⟩
  have HNN := Lib.hid hnn
  have hl0 := hl
  obtain ⟨A, c, rfl, hm, hc⟩ := hl.slice
  have hfl := fun u hu => flatC_one (w := w) (l := l) hl.ok u hu
  rw [hnn] at hm hl0 hn ⊢
  have HB := Lib.hid hb
  have HFL := Lib.hid hfl
  have HP := Lib.hid hp
  clear hl hc hp hnn hb hfl
  go_enter Tryz.func28, Tryz.ntmps28
  go_upto_region 2 with (first
    | (go_at_call 38; (with_reducible refine (of_1 _).mono ?_); rintro e w1 ⟨rfl, hw1⟩)
    | fail)
  have hS := ((Sep.start w).below hw1).alloc 81 engL1
  unfold engL1 at *
  generalize hW2 : w1.alloc (.cells #[.func (.func 68) #[] #[], .func (.func 71) #[] #[], .func (.func 73) #[] #[], .func (.func 74) #[] #[], .func (.func 75) #[] #[]] 81) = w2 at *
  generalize w1.heap.size = g at *
  clear hW2 hw1
  have e1 : IntKind.i64.wrap ((P : Int) + 1) = (P : Int) + 1 := by rw [IntKind.wrap_i64]; omega
  have e2 : IntKind.i64.wrap ((n : Int) - 2) = (n : Int) - 2 := by rw [IntKind.wrap_i64]; omega
  go_upto_region 8 with (first
    | (go_at_call 62; (with_reducible refine (hi _).mono ?_); rintro e w3 ⟨rfl, rfl⟩)
    | fail)
  clear hi
  have hlp0 : halfS (szN1 2) (fitN1 2 P) 2 (pcs l) P = hLoop (szN1 2) (fitN1 2 P) 2 (pcs l) (n - 3) 2 (P + 1, 0) := by unfold halfS; rw [pcs_length, HNN.out]
  have HL0 := Lib.hid hlp0
  clear hlp0
  go_loopw [12, 13, 14] (fun bv av kv wr => ∃ (k b a : Nat), 2 ≤ k ∧ k ≤ n + 2 ∧ b ≤ P + 1 ∧ a ≤ n ∧ kv = .int .i64 (k : Int) ∧ bv = .int .i64 (b : Int) ∧ av = .int .i64 (a : Int) ∧ Hid (halfS (szN1 2) (fitN1 2 P) 2 (pcs l) P = hLoop (szN1 2) (fitN1 2 P) 2 (pcs l) (n - 1 - k) k (b, a)) ∧ Sep w wr [blkE g 81 [.func (.func 68) #[] #[], .func (.func 71) #[] #[], .func (.func 73) #[] #[], .func (.func 74) #[] #[], .func (.func 75) #[] #[]], oldE w]) (fun _ _ kv _ => n + 2 - (intOf kv).toNat)
  case atStart => exact ⟨2, P + 1, 0, by omega, by omega, by omega, by omega, rfl, by go_num, rfl, HL0, hS⟩
  case round =>
    clear hS HL0
    obtain ⟨k, b, a, hk2, hkn, hbP, han, rfl, rfl, rfl, HL, hS⟩ := hrel
    by_cases hlt : k + 2 ≤ n
    · have ik : (k : Int) ≤ (n : Int) - 2 := by omega
      have hkl : k ≤ l.length := by rw [HNN.out]; omega
      have hl1 := hS.rdC8 (v := w) (by simp) hl0
      obtain ⟨A1, c1, hs1, hr1⟩ := hl1.run_l k hkl
      rw [HNN.out] at hs1 hr1
      have HR1 := Lib.hid hr1
      have hf1 : ∀ u ∈ flatC (l.drop k), u.oneCell' = true := fun u hu => HFL.out u (by rw [flatC_drop] at hu; exact List.mem_of_mem_drop hu)
      clear hr1 hl1
      have hS1 := hS.alloc 43 []
      have hO1 : Own (wr.alloc (.cells #[] 43)) 0 43 5 (.slice (some ⟨wr.heap.size, 0, none⟩) 0 0) ([] : List CV).length (flatC []) := ⟨rfl, .inr ⟨wr.heap.size, 0, [], rfl, Nat.zero_le _, OBlk.new' wr 43 [], Nat.le_refl _, Nat.zero_le _, rfl, rfl⟩⟩
      have hS2 : Sep w (wr.alloc (.cells #[] 43)) (ownE 43 5 (.slice (some ⟨wr.heap.size, 0, none⟩) 0 0) 0 [] :: [blkE g 81 [.func (.func 68) #[] #[], .func (.func 71) #[] #[], .func (.func 73) #[] #[], .func (.func 74) #[] #[], .func (.func 75) #[] #[]], oldE w]) := hS1.weak (fun _ => hO1) (fun b hb => by have h : (some wr.heap.size : Option Nat) = some b := hb; injection h with h; exact h.symm)
      have hr2 := (HR1.out.below ((Below.refl wr.heap.size wr).alloc (Nat.le_refl _) (.cells #[] 43))).form
      have hdl : (l.drop k).length = n - k := by rw [List.length_drop, HNN.out]
      rw [hdl] at hr2
      have HDL := Lib.hid hdl
      clear hS1 hS hdl
      go_upto_region 11 with (first
        | (at_builtin; refine wp_append_C rfl (.tmp 46) (.tmp 49) rfl 0 (.slice (some ⟨wr.heap.size, 0, none⟩) 0 0) [] rfl hO1 (.slice A1 (n - k) c1) (l.drop k) rfl (by rw [HDL.out]; exact hr2) hf1 (by rw [HDL.out]; simp only [List.length_nil]; omega) (Nat.zero_le _) ?_; intro v3 w3 ho3 hg3 hk3; rw [List.nil_append] at ho3)
        | fail)
      have hS3 := hS2.appC ho3 hg3 (by rcases hk3 with e | e; exact .inl e; exact .inr ⟨_, e, Nat.le_refl _⟩)
      obtain ⟨R, rc, rfl⟩ := Own.slice ho3
      rw [HDL.out] at hS3
      rw [HDL.out]
      clear hS2 hO1 hr2 hg3 hk3 ho3
      have hrc : rightC 2 l k = l.drop k := by unfold rightC; rw [if_neg (by decide)]
      rw [← hrc] at hS3
      clear hrc
      go_upto_region 13 with (fail)
      have hS4 := hS3
      generalize hw34 : w3 = w4 at *
      clear hw34
      have hl4 := hS4.rdC8 (v := w) (by simp) hl0
      obtain ⟨A2, c2, hs2, hr2⟩ := hl4.run_h k hkl
      have hor : Own w4 0 43 5 (.slice R (n - k) rc) (rightC 2 l k).length (flatC (rightC 2 l k)) := by rw [rightC_length, HNN.out]; exact hS4.head
      have hrr := rightC_rd hor hl4
      have hbt : bigK (pcs (l.take k)) ≤ 1000000000000000000 := by rw [pcs_take]; have := bigK_take (pcs l) k; have := HB.out; omega
      have hbr : bigK (pcs (rightC 2 l k)) ≤ 1000000000000000000 := by rw [pcs_rightC]; have := bigK_right 2 (pcs l) k; have := HB.out; omega
      have hsl := fun W (hW : Below w4.heap.size w4 W) => SizeN_1 2 (.slice A2 k c2) (l.take k) W (hr2.below hW) hbt
      have hsr := fun W (hW : Below w4.heap.size w4 W) => SizeN_1 2 (.slice R (n - k) rc) (rightC 2 l k) W (hrr.below hW) hbr
      have hzl := szN1_le 2 hbt
      have hzr := szN1_le 2 hbr
      have hft := fun W (hW : Below w4.heap.size w4 W) => NdFit_1 2 (.slice A2 k c2) (l.take k) (P : Int) (by unfold i64r; omega) W (hr2.below hW) (by rw [List.length_take, HNN.out]; omega)
      have hfr := fun W (hW : Below w4.heap.size w4 W) => NdFit_1 2 (.slice R (n - k) rc) (rightC 2 l k) (P : Int) (by unfold i64r; omega) W (hrr.below hW) (by rw [rightC_length, HNN.out]; omega)
      have hmo : hMost (szN1 2) 2 (pcs l) k = max (szN1 2 (pcs (l.take k))) (szN1 2 (pcs (rightC 2 l k))) := by unfold hMost; rw [pcs_take, pcs_rightC]
      have hfl1 : fitN1 2 P ((pcs l).take k) = (encZ 2 (pcs (l.take k)) (P : Int) == 0) := by rw [pcs_take]; rfl
      have hfr1 : fitN1 2 P (rightF 2 (pcs l) k) = (encZ 2 (pcs (rightC 2 l k)) (P : Int) == 0) := by rw [pcs_rightC]; rfl
      rw [← hfl1] at hft
      rw [← hfr1] at hfr
      have hst : hStep (szN1 2) (fitN1 2 P) 2 (pcs l) k (b, a) = if max (szN1 2 (pcs (l.take k))) (szN1 2 (pcs (rightC 2 l k))) < b ∧ fitN1 2 P ((pcs l).take k) = true ∧ fitN1 2 P (rightF 2 (pcs l) k) = true then (max (szN1 2 (pcs (l.take k))) (szN1 2 (pcs (rightC 2 l k))), k) else (b, a) := by unfold hStep; rw [hmo]
      have hnx : hLoop (szN1 2) (fitN1 2 P) 2 (pcs l) (n - 1 - k) k (b, a) = hLoop (szN1 2) (fitN1 2 P) 2 (pcs l) (n - 1 - (k + 1)) (k + 1) (hStep (szN1 2) (fitN1 2 P) 2 (pcs l) k (b, a)) := by rw [show n - 1 - k = (n - 1 - (k + 1)) + 1 by omega]; rfl
      rw [hst] at hnx
      have HNX := Lib.hid (HL.out.trans hnx)
      have HSL := Lib.hid hsl
      have HSR := Lib.hid hsr
      have HFT := Lib.hid hft
      have HFR := Lib.hid hfr
      clear hl4 hr2 hor hrr hbt hbr hsl hsr hft hfr hmo hfl1 hfr1 hst hnx HL HR1 hf1 hs1
      generalize szN1 2 (pcs (l.take k)) = zl at *
      generalize szN1 2 (pcs (rightC 2 l k)) = zr at *
      generalize fitN1 2 P ((pcs l).take k) = fl at *
      generalize fitN1 2 P (rightF 2 (pcs l) k) = fr at *
      have HS4 := Lib.hid hS4.tail
      obtain ⟨-, -, y2, -, -⟩ := (show OBlk w4 g 81 [.func (.func 68) #[] #[], .func (.func 71) #[] #[], .func (.func 73) #[] #[], .func (.func 74) #[] #[], .func (.func 75) #[] #[]] from hS4.tail.head).cells5'
      have HY := Lib.hid (fun W (hW : Below w4.heap.size w4 W) => (hW.cell (World.block_lt_of_cell? _ _ y2)).trans y2)
      clear hS4
      have hbd : Below w4.heap.size w4 w4.drew := below_drewN (Below.refl _ _) 1
      go_cut [16] (fun mv wx => mv = .int .i64 ((max zl zr : Nat) : Int) ∧ Below w4.heap.size w4 wx)
      case first =>
        go_region_held3 (fun w' => w'.cell? ⟨g, 2, none⟩ = some (.func (.func 73) #[] #[]))
          (first | exact y2 | exact HY.out _ hb6 | exact HY.out _ hb5 | go_keep)
          (first
            | (go_at_call 73; (with_reducible refine (HSL.out _ hbd).mono ?_); rintro e w5 ⟨rfl, hw5⟩; have hb5 := hbd.trans hw5)
            | (go_at_call 73; (with_reducible refine (HSR.out _ hb5).mono ?_); rintro e w6 ⟨rfl, hw6⟩; have hb6 := hb5.trans (hw6.mono hb5.size))
            | fail)
        all_goals go_wp2_with fail
        all_goals go_meet
        all_goals first
          | exact ⟨by rw [show max zl zr = zr by omega], hb6⟩
          | exact ⟨by rw [show max zl zr = zl by omega], hb6⟩
      case rest =>
        obtain ⟨rfl, hwx⟩ := hcut
        have HWX := Lib.hid hwx
        have hft2 := HFT.out _ hwx
        clear hwx HSL HSR HY y2
        by_cases hlb : max zl zr < b
        · have ilb : ((max zl zr : Nat) : Int) < (b : Int) := by omega
          generalize max zl zr = mx at *
          cases fl
          case false =>
            have HN2 := Lib.hid (HNX.out.trans (by rw [if_neg (by simp)]))
            clear HNX
            go_wp2_with (first
              | (go_at_call 26; (with_reducible refine hft2.mono ?_); rintro e w5 ⟨rfl, hw5⟩; have hw5 := HWX.out.trans (hw5.mono HWX.out.size))
              | fail)
            go_roundw
            case rel => exact ⟨k + 1, b, a, by omega, by omega, hbP, han, by go_num, rfl, rfl, HN2, HS4.out.below hw5⟩
            case measure => simp [intOf]; omega
          case true =>
            cases fr
            case false =>
              have HN2 := Lib.hid (HNX.out.trans (by rw [if_neg (by simp)]))
              clear HNX
              go_wp2_with (first
                | (go_at_call 26; (with_reducible refine hft2.mono ?_); rintro e w5 ⟨rfl, hw5⟩; have hw5 := HWX.out.trans (hw5.mono HWX.out.size); have hfr2 := HFR.out _ hw5)
                | (go_at_call 26; (with_reducible refine hfr2.mono ?_); rintro e w6 ⟨rfl, hw6⟩; have hw6 := hw5.trans (hw6.mono hw5.size))
                | fail)
              go_roundw
              case rel => exact ⟨k + 1, b, a, by omega, by omega, hbP, han, by go_num, rfl, rfl, HN2, HS4.out.below hw6⟩
              case measure => simp [intOf]; omega
            case true =>
              have HN2 := Lib.hid (HNX.out.trans (by rw [if_pos ⟨hlb, rfl, rfl⟩]))
              clear HNX
              go_wp2_with (first
                | (go_at_call 26; (with_reducible refine hft2.mono ?_); rintro e w5 ⟨rfl, hw5⟩; have hw5 := HWX.out.trans (hw5.mono HWX.out.size); have hfr2 := HFR.out _ hw5)
                | (go_at_call 26; (with_reducible refine hfr2.mono ?_); rintro e w6 ⟨rfl, hw6⟩; have hw6 := hw5.trans (hw6.mono hw5.size))
                | fail)
              go_roundw
              case rel => exact ⟨k + 1, mx, k, by omega, by omega, by omega, by omega, by go_num, rfl, rfl, HN2, HS4.out.below hw6⟩
              case measure => simp [intOf]; omega
        · have ilb : (b : Int) ≤ ((max zl zr : Nat) : Int) := by omega
          have HN2 := Lib.hid (HNX.out.trans (by rw [if_neg (by omega)]))
          clear HNX
          generalize max zl zr = mx at *
          have HW5 := Lib.hid (HS4.out.below HWX.out)
          go_wp2_with (fail)
          go_roundw
          case rel => exact ⟨k + 1, b, a, by omega, by omega, hbP, han, by go_num, rfl, rfl, HN2, HW5.out⟩
          case measure => simp [intOf]; omega
    · have hfin : halfA (szN1 2) (fitN1 2 P) 2 (pcs l) P = a := by unfold halfA; rw [HL.out, show n - 1 - k = 0 by omega]; rfl
      have HFIN := Lib.hid hfin
      have HBO := Lib.hid (hS.belowOld (_v := w) (by simp))
      clear hS HL hfin
      have ik : (n : Int) - 2 < (k : Int) := by omega
      rcases Nat.eq_zero_or_pos a with h | h
      · subst h
        go_wp2_with (fail)
        go_ret2
        exact ⟨by unfold halfZ; rw [HFIN.out]; rfl, HBO.out⟩
      · have ia : ((a : Int) == 0) = false := beq_eq_false_iff_ne.2 (by omega)
        go_wp2_with (fail)
        go_ret2
        exact ⟨by unfold halfZ; rw [HFIN.out, if_neg (by omega)]; rfl, HBO.out⟩
set_option maxRecDepth 100000 in
set_option maxHeartbeats 16000000 in
theorem NdHalf_1_3 (v : Value) (l : List CV) (P : Nat) (hp : isPowB (P : Int) = true) (w : World) (hl : RdCs w v l) (hn : l.length * 72 ≤ 140737488355328) (hb : bigK (pcs l) ≤ 1000000000000000000) :
    Calls Tryz.prog 28 #[.int .i64 1, .int .i64 3, v, .int .i64 (P : Int)] w fun e w' => e = .returned (.tuple #[.int .i64 (halfA (szN1 3) (fitN1 3 P) 3 (pcs l) P : Nat), .int .i64 (halfZ (szN1 3) (fitN1 3 P) 3 (pcs l) P)]) ∧ Below w.heap.size w w' := by
  have hsf := st_func
  have hr := isPowB_range hp
  have hi := fun W => NdIsPage_any (P : Int) (by omega) W
  rw [hp] at hi
  obtain ⟨n, hnn⟩ : ∃ n, l.length = n := ⟨_, rfl⟩
  have HNN := Lib.hid hnn
  have hl0 := hl
  obtain ⟨A, c, rfl, hm, hc⟩ := hl.slice
  have hfl := fun u hu => flatC_one (w := w) (l := l) hl.ok u hu
  rw [hnn] at hm hl0 hn ⊢
  have HB := Lib.hid hb
  have HFL := Lib.hid hfl
  have HP := Lib.hid hp
  clear hl hc hp hnn hb hfl
  go_enter Tryz.func28, Tryz.ntmps28
  go_upto_region 2 with (first
    | (go_at_call 38; (with_reducible refine (of_1 _).mono ?_); rintro e w1 ⟨rfl, hw1⟩)
    | fail)
  have hS := ((Sep.start w).below hw1).alloc 81 engL1
  unfold engL1 at *
  generalize hW2 : w1.alloc (.cells #[.func (.func 68) #[] #[], .func (.func 71) #[] #[], .func (.func 73) #[] #[], .func (.func 74) #[] #[], .func (.func 75) #[] #[]] 81) = w2 at *
  generalize w1.heap.size = g at *
  clear hW2 hw1
  have e1 : IntKind.i64.wrap ((P : Int) + 1) = (P : Int) + 1 := by rw [IntKind.wrap_i64]; omega
  have e2 : IntKind.i64.wrap ((n : Int) - 2) = (n : Int) - 2 := by rw [IntKind.wrap_i64]; omega
  go_upto_region 8 with (first
    | (go_at_call 62; (with_reducible refine (hi _).mono ?_); rintro e w3 ⟨rfl, rfl⟩)
    | fail)
  clear hi
  have hlp0 : halfS (szN1 3) (fitN1 3 P) 3 (pcs l) P = hLoop (szN1 3) (fitN1 3 P) 3 (pcs l) (n - 3) 2 (P + 1, 0) := by unfold halfS; rw [pcs_length, HNN.out]
  have HL0 := Lib.hid hlp0
  clear hlp0
  go_loopw [12, 13, 14] (fun bv av kv wr => ∃ (k b a : Nat), 2 ≤ k ∧ k ≤ n + 2 ∧ b ≤ P + 1 ∧ a ≤ n ∧ kv = .int .i64 (k : Int) ∧ bv = .int .i64 (b : Int) ∧ av = .int .i64 (a : Int) ∧ Hid (halfS (szN1 3) (fitN1 3 P) 3 (pcs l) P = hLoop (szN1 3) (fitN1 3 P) 3 (pcs l) (n - 1 - k) k (b, a)) ∧ Sep w wr [blkE g 81 [.func (.func 68) #[] #[], .func (.func 71) #[] #[], .func (.func 73) #[] #[], .func (.func 74) #[] #[], .func (.func 75) #[] #[]], oldE w]) (fun _ _ kv _ => n + 2 - (intOf kv).toNat)
  case atStart => exact ⟨2, P + 1, 0, by omega, by omega, by omega, by omega, rfl, by go_num, rfl, HL0, hS⟩
  case round =>
    clear hS HL0
    obtain ⟨k, b, a, hk2, hkn, hbP, han, rfl, rfl, rfl, HL, hS⟩ := hrel
    by_cases hlt : k + 2 ≤ n
    · have ik : (k : Int) ≤ (n : Int) - 2 := by omega
      have hkl : k ≤ l.length := by rw [HNN.out]; omega
      have hl1 := hS.rdC8 (v := w) (by simp) hl0
      obtain ⟨A1, c1, hs1, hr1⟩ := hl1.run_l k hkl
      rw [HNN.out] at hs1 hr1
      have HR1 := Lib.hid hr1
      have hf1 : ∀ u ∈ flatC (l.drop k), u.oneCell' = true := fun u hu => HFL.out u (by rw [flatC_drop] at hu; exact List.mem_of_mem_drop hu)
      clear hr1 hl1
      have hS1 := hS.alloc 43 []
      have hO1 : Own (wr.alloc (.cells #[] 43)) 0 43 5 (.slice (some ⟨wr.heap.size, 0, none⟩) 0 0) ([] : List CV).length (flatC []) := ⟨rfl, .inr ⟨wr.heap.size, 0, [], rfl, Nat.zero_le _, OBlk.new' wr 43 [], Nat.le_refl _, Nat.zero_le _, rfl, rfl⟩⟩
      have hS2 : Sep w (wr.alloc (.cells #[] 43)) (ownE 43 5 (.slice (some ⟨wr.heap.size, 0, none⟩) 0 0) 0 [] :: [blkE g 81 [.func (.func 68) #[] #[], .func (.func 71) #[] #[], .func (.func 73) #[] #[], .func (.func 74) #[] #[], .func (.func 75) #[] #[]], oldE w]) := hS1.weak (fun _ => hO1) (fun b hb => by have h : (some wr.heap.size : Option Nat) = some b := hb; injection h with h; exact h.symm)
      have hr2 := (HR1.out.below ((Below.refl wr.heap.size wr).alloc (Nat.le_refl _) (.cells #[] 43))).form
      have hdl : (l.drop k).length = n - k := by rw [List.length_drop, HNN.out]
      rw [hdl] at hr2
      have HDL := Lib.hid hdl
      clear hS1 hS hdl
      go_upto_region 11 with (first
        | (at_builtin; refine wp_append_C rfl (.tmp 46) (.tmp 49) rfl 0 (.slice (some ⟨wr.heap.size, 0, none⟩) 0 0) [] rfl hO1 (.slice A1 (n - k) c1) (l.drop k) rfl (by rw [HDL.out]; exact hr2) hf1 (by rw [HDL.out]; simp only [List.length_nil]; omega) (Nat.zero_le _) ?_; intro v3 w3 ho3 hg3 hk3; rw [List.nil_append] at ho3)
        | fail)
      have hS3 := hS2.appC ho3 hg3 (by rcases hk3 with e | e; exact .inl e; exact .inr ⟨_, e, Nat.le_refl _⟩)
      obtain ⟨R, rc, rfl⟩ := Own.slice ho3
      rw [HDL.out] at hS3
      rw [HDL.out]
      clear hS2 hO1 hr2 hg3 hk3 ho3
      obtain ⟨x, r, hxr⟩ : ∃ x r, l.drop k = x :: r := by
        cases hd : l.drop k with
        | nil => have := congrArg List.length hd; rw [HDL.out] at this; simp at this; omega
        | cons x r => exact ⟨x, r, rfl⟩
      have hrc : rightC 3 l k = ⟨.slice none 0 0, x.vv, noKey x.c⟩ :: r := by unfold rightC; rw [if_pos rfl, hxr]
      rw [hxr] at hS3
      have ho4 : Own w3 0 43 5 (.slice R (n - k) rc) (n - k) (flatC (x :: r)) := hS3.head
      obtain ⟨gr, rfl⟩ : ∃ gr, R = some ⟨gr, 0, none⟩ := by
        rcases ho4.form with ⟨_, h⟩ | ⟨gq, c', h, _⟩
        · omega
        · injection h with h; exact ⟨gq, h⟩
      have y0 : w3.cell? ⟨gr, 0, none⟩ = some x.kv := ho4.cells 0 _ rfl
      have f0 : w3.frozen? ⟨gr, 0, none⟩ = false := ho4.frozen (by have := ho4.1; omega)
      have hgw := grownBy_setCell w3 ⟨gr, 0, none⟩ (.slice none 0 0)
      have ho5 : Own (w3.setCell ⟨gr, 0, none⟩ (.slice none 0 0)) 0 43 5 (.slice (some ⟨gr, 0, none⟩) (n - k) rc) (n - k) (flatC (rightC 3 l k)) := by rw [hrc]; exact ho4.set 0 (.slice none 0 0)
      have hS4 : Sep w (w3.setCell ⟨gr, 0, none⟩ (.slice none 0 0)) (ownE 43 5 (.slice (some ⟨gr, 0, none⟩) (n - k) rc) (n - k) (flatC (rightC 3 l k)) :: [blkE g 81 [.func (.func 68) #[] #[], .func (.func 71) #[] #[], .func (.func 73) #[] #[], .func (.func 74) #[] #[], .func (.func 75) #[] #[]], oldE w]) := hS3.upd (Turn.of_grown hgw (fun j e => e)) ho5 (fun b hb => ⟨.inl hb, by have h' := hS3.lt b hb; have := hgw.size; omega⟩)
      have i0 : (0 : Int) < ((n - k : Nat) : Int) := by omega
      have i00 : 0 < n - k := by omega
      generalize x.kv = xkv at *
      clear hS3 ho4 ho5 hgw hrc hxr
      go_upto_region 13 with (fail)
      generalize w3.setCell ⟨gr, 0, none⟩ (.slice none 0 0) = w4 at *
      generalize (some ⟨gr, 0, none⟩ : Option Addr) = R at *
      clear y0 f0 i0 i00
      have hl4 := hS4.rdC8 (v := w) (by simp) hl0
      obtain ⟨A2, c2, hs2, hr2⟩ := hl4.run_h k hkl
      have hor : Own w4 0 43 5 (.slice R (n - k) rc) (rightC 3 l k).length (flatC (rightC 3 l k)) := by rw [rightC_length, HNN.out]; exact hS4.head
      have hrr := rightC_rd hor hl4
      have hbt : bigK (pcs (l.take k)) ≤ 1000000000000000000 := by rw [pcs_take]; have := bigK_take (pcs l) k; have := HB.out; omega
      have hbr : bigK (pcs (rightC 3 l k)) ≤ 1000000000000000000 := by rw [pcs_rightC]; have := bigK_right 3 (pcs l) k; have := HB.out; omega
      have hsl := fun W (hW : Below w4.heap.size w4 W) => SizeN_1 3 (.slice A2 k c2) (l.take k) W (hr2.below hW) hbt
      have hsr := fun W (hW : Below w4.heap.size w4 W) => SizeN_1 3 (.slice R (n - k) rc) (rightC 3 l k) W (hrr.below hW) hbr
      have hzl := szN1_le 3 hbt
      have hzr := szN1_le 3 hbr
      have hft := fun W (hW : Below w4.heap.size w4 W) => NdFit_1 3 (.slice A2 k c2) (l.take k) (P : Int) (by unfold i64r; omega) W (hr2.below hW) (by rw [List.length_take, HNN.out]; omega)
      have hfr := fun W (hW : Below w4.heap.size w4 W) => NdFit_1 3 (.slice R (n - k) rc) (rightC 3 l k) (P : Int) (by unfold i64r; omega) W (hrr.below hW) (by rw [rightC_length, HNN.out]; omega)
      have hmo : hMost (szN1 3) 3 (pcs l) k = max (szN1 3 (pcs (l.take k))) (szN1 3 (pcs (rightC 3 l k))) := by unfold hMost; rw [pcs_take, pcs_rightC]
      have hfl1 : fitN1 3 P ((pcs l).take k) = (encZ 3 (pcs (l.take k)) (P : Int) == 0) := by rw [pcs_take]; rfl
      have hfr1 : fitN1 3 P (rightF 3 (pcs l) k) = (encZ 3 (pcs (rightC 3 l k)) (P : Int) == 0) := by rw [pcs_rightC]; rfl
      rw [← hfl1] at hft
      rw [← hfr1] at hfr
      have hst : hStep (szN1 3) (fitN1 3 P) 3 (pcs l) k (b, a) = if max (szN1 3 (pcs (l.take k))) (szN1 3 (pcs (rightC 3 l k))) < b ∧ fitN1 3 P ((pcs l).take k) = true ∧ fitN1 3 P (rightF 3 (pcs l) k) = true then (max (szN1 3 (pcs (l.take k))) (szN1 3 (pcs (rightC 3 l k))), k) else (b, a) := by unfold hStep; rw [hmo]
      have hnx : hLoop (szN1 3) (fitN1 3 P) 3 (pcs l) (n - 1 - k) k (b, a) = hLoop (szN1 3) (fitN1 3 P) 3 (pcs l) (n - 1 - (k + 1)) (k + 1) (hStep (szN1 3) (fitN1 3 P) 3 (pcs l) k (b, a)) := by rw [show n - 1 - k = (n - 1 - (k + 1)) + 1 by omega]; rfl
      rw [hst] at hnx
      have HNX := Lib.hid (HL.out.trans hnx)
      have HSL := Lib.hid hsl
      have HSR := Lib.hid hsr
      have HFT := Lib.hid hft
      have HFR := Lib.hid hfr
      clear hl4 hr2 hor hrr hbt hbr hsl hsr hft hfr hmo hfl1 hfr1 hst hnx HL HR1 hf1 hs1
      generalize szN1 3 (pcs (l.take k)) = zl at *
      generalize szN1 3 (pcs (rightC 3 l k)) = zr at *
      generalize fitN1 3 P ((pcs l).take k) = fl at *
      generalize fitN1 3 P (rightF 3 (pcs l) k) = fr at *
      have HS4 := Lib.hid hS4.tail
      obtain ⟨-, -, y2, -, -⟩ := (show OBlk w4 g 81 [.func (.func 68) #[] #[], .func (.func 71) #[] #[], .func (.func 73) #[] #[], .func (.func 74) #[] #[], .func (.func 75) #[] #[]] from hS4.tail.head).cells5'
      have HY := Lib.hid (fun W (hW : Below w4.heap.size w4 W) => (hW.cell (World.block_lt_of_cell? _ _ y2)).trans y2)
      clear hS4
      have hbd : Below w4.heap.size w4 w4.drew := below_drewN (Below.refl _ _) 1
      go_cut [16] (fun mv wx => mv = .int .i64 ((max zl zr : Nat) : Int) ∧ Below w4.heap.size w4 wx)
      case first =>
        go_region_held3 (fun w' => w'.cell? ⟨g, 2, none⟩ = some (.func (.func 73) #[] #[]))
          (first | exact y2 | exact HY.out _ hb6 | exact HY.out _ hb5 | go_keep)
          (first
            | (go_at_call 73; (with_reducible refine (HSL.out _ hbd).mono ?_); rintro e w5 ⟨rfl, hw5⟩; have hb5 := hbd.trans hw5)
            | (go_at_call 73; (with_reducible refine (HSR.out _ hb5).mono ?_); rintro e w6 ⟨rfl, hw6⟩; have hb6 := hb5.trans (hw6.mono hb5.size))
            | fail)
        all_goals go_wp2_with fail
        all_goals go_meet
        all_goals first
          | exact ⟨by rw [show max zl zr = zr by omega], hb6⟩
          | exact ⟨by rw [show max zl zr = zl by omega], hb6⟩
      case rest =>
        obtain ⟨rfl, hwx⟩ := hcut
        have HWX := Lib.hid hwx
        have hft2 := HFT.out _ hwx
        clear hwx HSL HSR HY y2
        by_cases hlb : max zl zr < b
        · have ilb : ((max zl zr : Nat) : Int) < (b : Int) := by omega
          generalize max zl zr = mx at *
          cases fl
          case false =>
            have HN2 := Lib.hid (HNX.out.trans (by rw [if_neg (by simp)]))
            clear HNX
            go_wp2_with (first
              | (go_at_call 26; (with_reducible refine hft2.mono ?_); rintro e w5 ⟨rfl, hw5⟩; have hw5 := HWX.out.trans (hw5.mono HWX.out.size))
              | fail)
            go_roundw
            case rel => exact ⟨k + 1, b, a, by omega, by omega, hbP, han, by go_num, rfl, rfl, HN2, HS4.out.below hw5⟩
            case measure => simp [intOf]; omega
          case true =>
            cases fr
            case false =>
              have HN2 := Lib.hid (HNX.out.trans (by rw [if_neg (by simp)]))
              clear HNX
              go_wp2_with (first
                | (go_at_call 26; (with_reducible refine hft2.mono ?_); rintro e w5 ⟨rfl, hw5⟩; have hw5 := HWX.out.trans (hw5.mono HWX.out.size); have hfr2 := HFR.out _ hw5)
                | (go_at_call 26; (with_reducible refine hfr2.mono ?_); rintro e w6 ⟨rfl, hw6⟩; have hw6 := hw5.trans (hw6.mono hw5.size))
                | fail)
              go_roundw
              case rel => exact ⟨k + 1, b, a, by omega, by omega, hbP, han, by go_num, rfl, rfl, HN2, HS4.out.below hw6⟩
              case measure => simp [intOf]; omega
            case true =>
              have HN2 := Lib.hid (HNX.out.trans (by rw [if_pos ⟨hlb, rfl, rfl⟩]))
              clear HNX
              go_wp2_with (first
                | (go_at_call 26; (with_reducible refine hft2.mono ?_); rintro e w5 ⟨rfl, hw5⟩; have hw5 := HWX.out.trans (hw5.mono HWX.out.size); have hfr2 := HFR.out _ hw5)
                | (go_at_call 26; (with_reducible refine hfr2.mono ?_); rintro e w6 ⟨rfl, hw6⟩; have hw6 := hw5.trans (hw6.mono hw5.size))
                | fail)
              go_roundw
              case rel => exact ⟨k + 1, mx, k, by omega, by omega, by omega, by omega, by go_num, rfl, rfl, HN2, HS4.out.below hw6⟩
              case measure => simp [intOf]; omega
        · have ilb : (b : Int) ≤ ((max zl zr : Nat) : Int) := by omega
          have HN2 := Lib.hid (HNX.out.trans (by rw [if_neg (by omega)]))
          clear HNX
          generalize max zl zr = mx at *
          have HW5 := Lib.hid (HS4.out.below HWX.out)
          go_wp2_with (fail)
          go_roundw
          case rel => exact ⟨k + 1, b, a, by omega, by omega, hbP, han, by go_num, rfl, rfl, HN2, HW5.out⟩
          case measure => simp [intOf]; omega
    · have hfin : halfA (szN1 3) (fitN1 3 P) 3 (pcs l) P = a := by unfold halfA; rw [HL.out, show n - 1 - k = 0 by omega]; rfl
      have HFIN := Lib.hid hfin
      have HBO := Lib.hid (hS.belowOld (_v := w) (by simp))
      clear hS HL hfin
      have ik : (n : Int) - 2 < (k : Int) := by omega
      rcases Nat.eq_zero_or_pos a with h | h
      · subst h
        go_wp2_with (fail)
        go_ret2
        exact ⟨by unfold halfZ; rw [HFIN.out]; rfl, HBO.out⟩
      · have ia : ((a : Int) == 0) = false := beq_eq_false_iff_ne.2 (by omega)
        go_wp2_with (fail)
        go_ret2
        exact ⟨by unfold halfZ; rw [HFIN.out, if_neg (by omega)]; rfl, HBO.out⟩
set_option maxRecDepth 100000 in
set_option maxHeartbeats 4000000 in
theorem NdHalf_bad_1 (kind P : Int) (A : Option Addr) (m c : Nat) (hbad : (kind ≠ 2 ∧ kind ≠ 3) ∨ isPowB P = false) (hPr : i64r P) (w : World) :
    Calls Tryz.prog 28 #[.int .i64 1, .int .i64 kind, .slice A m c, .int .i64 P] w fun e w' => e = .returned (.tuple #[.int .i64 0, .int .i64 1]) ∧ Below w.heap.size w w' := by
  have hsf := st_func
  have hi := fun W => NdIsPage_any P hPr W
  by_cases hk : kind ≠ 2 ∧ kind ≠ 3
  · obtain ⟨h2, h3⟩ := hk
    have k2 : (kind != 2) = true := bne_iff_ne.2 h2
    have k3 : (kind != 3) = true := bne_iff_ne.2 h3
    clear hbad h2 h3
    go_enter Tryz.func28, Tryz.ntmps28
    go_wp2_with (first
      | (go_at_call 38; (with_reducible refine (of_1 _).mono ?_); rintro e w1 ⟨rfl, hw1⟩)
      | fail)
    go_ret2
    exact ⟨rfl, hw1.alloc hw1.size _⟩
  · have hP : isPowB P = false := by rcases hbad with h | h; exact absurd h hk; exact h
    rw [hP] at hi
    have hk2 : kind = 2 ∨ kind = 3 := by omega
    clear hbad hk hP
    rcases hk2 with rfl | rfl
    all_goals
      go_enter Tryz.func28, Tryz.ntmps28
      go_wp2_with (first
        | (go_at_call 38; (with_reducible refine (of_1 _).mono ?_); rintro e w1 ⟨rfl, hw1⟩)
        | (go_at_call 62; (with_reducible refine (hi _).mono ?_); rintro e w3 ⟨rfl, rfl⟩)
        | fail)
      go_ret2
      exact ⟨rfl, hw1.alloc hw1.size _⟩
def szN2 (kind : Int) (l : List PC) : Nat := psizeF kind l
def fitN2 (kind : Int) (P : Nat) (l : List PC) : Bool := encKZ kind l (P : Int) == 0
theorem SizeN_2 (kind : Int) (v : Value) (l : List CV) (w : World) (hl : RdCs w v l) (hb : bigK (pcs l) ≤ 1000000000000000000) :
    Calls Tryz.prog 81 #[.int .i64 kind, v] w fun e w' => e = .returned (.int .i64 (szN2 kind (pcs l) : Nat)) ∧ Below w.heap.size w w' := KSize_any kind v l w hl (by omega)
theorem szN2_le (kind : Int) {l : List PC} (hb : bigK l ≤ 1000000000000000000) : szN2 kind l ≤ 4000000000000000000 := by have := psizeF_big kind hb; unfold szN2; omega
set_option maxRecDepth 100000 in
set_option maxHeartbeats 16000000 in
theorem NdHalf_2_2 (v : Value) (l : List CV) (P : Nat) (hp : isPowB (P : Int) = true) (w : World) (hl : RdCs w v l) (hn : l.length * 72 ≤ 140737488355328) (hb : bigK (pcs l) ≤ 1000000000000000000) :
    Calls Tryz.prog 28 #[.int .i64 2, .int .i64 2, v, .int .i64 (P : Int)] w fun e w' => e = .returned (.tuple #[.int .i64 (halfA (szN2 2) (fitN2 2 P) 2 (pcs l) P : Nat), .int .i64 (halfZ (szN2 2) (fitN2 2 P) 2 (pcs l) P)]) ∧ Below w.heap.size w w' := by
  have hsf := st_func
  have hr := isPowB_range hp
  have hi := fun W => NdIsPage_any (P : Int) (by omega) W
  rw [hp] at hi
  obtain ⟨n, hnn⟩ : ∃ n, l.length = n := ⟨_, rfl⟩
  have HNN := Lib.hid hnn
  have hl0 := hl
  obtain ⟨A, c, rfl, hm, hc⟩ := hl.slice
  have hfl := fun u hu => flatC_one (w := w) (l := l) hl.ok u hu
  rw [hnn] at hm hl0 hn ⊢
  have HB := Lib.hid hb
  have HFL := Lib.hid hfl
  have HP := Lib.hid hp
  clear hl hc hp hnn hb hfl
  go_enter Tryz.func28, Tryz.ntmps28
  go_upto_region 2 with (first
    | (go_at_call 38; (with_reducible refine (of_2 _).mono ?_); rintro e w1 ⟨rfl, hw1⟩)
    | fail)
  have hS := ((Sep.start w).below hw1).alloc 81 engL2
  unfold engL2 at *
  generalize hW2 : w1.alloc (.cells #[.func (.func 76) #[] #[], .func (.func 79) #[] #[], .func (.func 81) #[] #[], .func (.func 82) #[] #[], .func (.func 83) #[] #[]] 81) = w2 at *
  generalize w1.heap.size = g at *
  clear hW2 hw1
  have e1 : IntKind.i64.wrap ((P : Int) + 1) = (P : Int) + 1 := by rw [IntKind.wrap_i64]; omega
  have e2 : IntKind.i64.wrap ((n : Int) - 2) = (n : Int) - 2 := by rw [IntKind.wrap_i64]; omega
  go_upto_region 8 with (first
    | (go_at_call 62; (with_reducible refine (hi _).mono ?_); rintro e w3 ⟨rfl, rfl⟩)
    | fail)
  clear hi
  have hlp0 : halfS (szN2 2) (fitN2 2 P) 2 (pcs l) P = hLoop (szN2 2) (fitN2 2 P) 2 (pcs l) (n - 3) 2 (P + 1, 0) := by unfold halfS; rw [pcs_length, HNN.out]
  have HL0 := Lib.hid hlp0
  clear hlp0
  go_loopw [12, 13, 14] (fun bv av kv wr => ∃ (k b a : Nat), 2 ≤ k ∧ k ≤ n + 2 ∧ b ≤ P + 1 ∧ a ≤ n ∧ kv = .int .i64 (k : Int) ∧ bv = .int .i64 (b : Int) ∧ av = .int .i64 (a : Int) ∧ Hid (halfS (szN2 2) (fitN2 2 P) 2 (pcs l) P = hLoop (szN2 2) (fitN2 2 P) 2 (pcs l) (n - 1 - k) k (b, a)) ∧ Sep w wr [blkE g 81 [.func (.func 76) #[] #[], .func (.func 79) #[] #[], .func (.func 81) #[] #[], .func (.func 82) #[] #[], .func (.func 83) #[] #[]], oldE w]) (fun _ _ kv _ => n + 2 - (intOf kv).toNat)
  case atStart => exact ⟨2, P + 1, 0, by omega, by omega, by omega, by omega, rfl, by go_num, rfl, HL0, hS⟩
  case round =>
    clear hS HL0
    obtain ⟨k, b, a, hk2, hkn, hbP, han, rfl, rfl, rfl, HL, hS⟩ := hrel
    by_cases hlt : k + 2 ≤ n
    · have ik : (k : Int) ≤ (n : Int) - 2 := by omega
      have hkl : k ≤ l.length := by rw [HNN.out]; omega
      have hl1 := hS.rdC8 (v := w) (by simp) hl0
      obtain ⟨A1, c1, hs1, hr1⟩ := hl1.run_l k hkl
      rw [HNN.out] at hs1 hr1
      have HR1 := Lib.hid hr1
      have hf1 : ∀ u ∈ flatC (l.drop k), u.oneCell' = true := fun u hu => HFL.out u (by rw [flatC_drop] at hu; exact List.mem_of_mem_drop hu)
      clear hr1 hl1
      have hS1 := hS.alloc 43 []
      have hO1 : Own (wr.alloc (.cells #[] 43)) 0 43 5 (.slice (some ⟨wr.heap.size, 0, none⟩) 0 0) ([] : List CV).length (flatC []) := ⟨rfl, .inr ⟨wr.heap.size, 0, [], rfl, Nat.zero_le _, OBlk.new' wr 43 [], Nat.le_refl _, Nat.zero_le _, rfl, rfl⟩⟩
      have hS2 : Sep w (wr.alloc (.cells #[] 43)) (ownE 43 5 (.slice (some ⟨wr.heap.size, 0, none⟩) 0 0) 0 [] :: [blkE g 81 [.func (.func 76) #[] #[], .func (.func 79) #[] #[], .func (.func 81) #[] #[], .func (.func 82) #[] #[], .func (.func 83) #[] #[]], oldE w]) := hS1.weak (fun _ => hO1) (fun b hb => by have h : (some wr.heap.size : Option Nat) = some b := hb; injection h with h; exact h.symm)
      have hr2 := (HR1.out.below ((Below.refl wr.heap.size wr).alloc (Nat.le_refl _) (.cells #[] 43))).form
      have hdl : (l.drop k).length = n - k := by rw [List.length_drop, HNN.out]
      rw [hdl] at hr2
      have HDL := Lib.hid hdl
      clear hS1 hS hdl
      go_upto_region 11 with (first
        | (at_builtin; refine wp_append_C rfl (.tmp 46) (.tmp 49) rfl 0 (.slice (some ⟨wr.heap.size, 0, none⟩) 0 0) [] rfl hO1 (.slice A1 (n - k) c1) (l.drop k) rfl (by rw [HDL.out]; exact hr2) hf1 (by rw [HDL.out]; simp only [List.length_nil]; omega) (Nat.zero_le _) ?_; intro v3 w3 ho3 hg3 hk3; rw [List.nil_append] at ho3)
        | fail)
      have hS3 := hS2.appC ho3 hg3 (by rcases hk3 with e | e; exact .inl e; exact .inr ⟨_, e, Nat.le_refl _⟩)
      obtain ⟨R, rc, rfl⟩ := Own.slice ho3
      rw [HDL.out] at hS3
      rw [HDL.out]
      clear hS2 hO1 hr2 hg3 hk3 ho3
      have hrc : rightC 2 l k = l.drop k := by unfold rightC; rw [if_neg (by decide)]
      rw [← hrc] at hS3
      clear hrc
      go_upto_region 13 with (fail)
      have hS4 := hS3
      generalize hw34 : w3 = w4 at *
      clear hw34
      have hl4 := hS4.rdC8 (v := w) (by simp) hl0
      obtain ⟨A2, c2, hs2, hr2⟩ := hl4.run_h k hkl
      have hor : Own w4 0 43 5 (.slice R (n - k) rc) (rightC 2 l k).length (flatC (rightC 2 l k)) := by rw [rightC_length, HNN.out]; exact hS4.head
      have hrr := rightC_rd hor hl4
      have hbt : bigK (pcs (l.take k)) ≤ 1000000000000000000 := by rw [pcs_take]; have := bigK_take (pcs l) k; have := HB.out; omega
      have hbr : bigK (pcs (rightC 2 l k)) ≤ 1000000000000000000 := by rw [pcs_rightC]; have := bigK_right 2 (pcs l) k; have := HB.out; omega
      have hsl := fun W (hW : Below w4.heap.size w4 W) => SizeN_2 2 (.slice A2 k c2) (l.take k) W (hr2.below hW) hbt
      have hsr := fun W (hW : Below w4.heap.size w4 W) => SizeN_2 2 (.slice R (n - k) rc) (rightC 2 l k) W (hrr.below hW) hbr
      have hzl := szN2_le 2 hbt
      have hzr := szN2_le 2 hbr
      have hft := fun W (hW : Below w4.heap.size w4 W) => NdFit_2 2 (.slice A2 k c2) (l.take k) (P : Int) (by unfold i64r; omega) W (hr2.below hW) (by rw [List.length_take, HNN.out]; omega)
      have hfr := fun W (hW : Below w4.heap.size w4 W) => NdFit_2 2 (.slice R (n - k) rc) (rightC 2 l k) (P : Int) (by unfold i64r; omega) W (hrr.below hW) (by rw [rightC_length, HNN.out]; omega)
      have hmo : hMost (szN2 2) 2 (pcs l) k = max (szN2 2 (pcs (l.take k))) (szN2 2 (pcs (rightC 2 l k))) := by unfold hMost; rw [pcs_take, pcs_rightC]
      have hfl1 : fitN2 2 P ((pcs l).take k) = (encKZ 2 (pcs (l.take k)) (P : Int) == 0) := by rw [pcs_take]; rfl
      have hfr1 : fitN2 2 P (rightF 2 (pcs l) k) = (encKZ 2 (pcs (rightC 2 l k)) (P : Int) == 0) := by rw [pcs_rightC]; rfl
      rw [← hfl1] at hft
      rw [← hfr1] at hfr
      have hst : hStep (szN2 2) (fitN2 2 P) 2 (pcs l) k (b, a) = if max (szN2 2 (pcs (l.take k))) (szN2 2 (pcs (rightC 2 l k))) < b ∧ fitN2 2 P ((pcs l).take k) = true ∧ fitN2 2 P (rightF 2 (pcs l) k) = true then (max (szN2 2 (pcs (l.take k))) (szN2 2 (pcs (rightC 2 l k))), k) else (b, a) := by unfold hStep; rw [hmo]
      have hnx : hLoop (szN2 2) (fitN2 2 P) 2 (pcs l) (n - 1 - k) k (b, a) = hLoop (szN2 2) (fitN2 2 P) 2 (pcs l) (n - 1 - (k + 1)) (k + 1) (hStep (szN2 2) (fitN2 2 P) 2 (pcs l) k (b, a)) := by rw [show n - 1 - k = (n - 1 - (k + 1)) + 1 by omega]; rfl
      rw [hst] at hnx
      have HNX := Lib.hid (HL.out.trans hnx)
      have HSL := Lib.hid hsl
      have HSR := Lib.hid hsr
      have HFT := Lib.hid hft
      have HFR := Lib.hid hfr
      clear hl4 hr2 hor hrr hbt hbr hsl hsr hft hfr hmo hfl1 hfr1 hst hnx HL HR1 hf1 hs1
      generalize szN2 2 (pcs (l.take k)) = zl at *
      generalize szN2 2 (pcs (rightC 2 l k)) = zr at *
      generalize fitN2 2 P ((pcs l).take k) = fl at *
      generalize fitN2 2 P (rightF 2 (pcs l) k) = fr at *
      have HS4 := Lib.hid hS4.tail
      obtain ⟨-, -, y2, -, -⟩ := (show OBlk w4 g 81 [.func (.func 76) #[] #[], .func (.func 79) #[] #[], .func (.func 81) #[] #[], .func (.func 82) #[] #[], .func (.func 83) #[] #[]] from hS4.tail.head).cells5'
      have HY := Lib.hid (fun W (hW : Below w4.heap.size w4 W) => (hW.cell (World.block_lt_of_cell? _ _ y2)).trans y2)
      clear hS4
      have hbd : Below w4.heap.size w4 w4.drew := below_drewN (Below.refl _ _) 1
      go_cut [16] (fun mv wx => mv = .int .i64 ((max zl zr : Nat) : Int) ∧ Below w4.heap.size w4 wx)
      case first =>
        go_region_held3 (fun w' => w'.cell? ⟨g, 2, none⟩ = some (.func (.func 81) #[] #[]))
          (first | exact y2 | exact HY.out _ hb6 | exact HY.out _ hb5 | go_keep)
          (first
            | (go_at_call 81; (with_reducible refine (HSL.out _ hbd).mono ?_); rintro e w5 ⟨rfl, hw5⟩; have hb5 := hbd.trans hw5)
            | (go_at_call 81; (with_reducible refine (HSR.out _ hb5).mono ?_); rintro e w6 ⟨rfl, hw6⟩; have hb6 := hb5.trans (hw6.mono hb5.size))
            | fail)
        all_goals go_wp2_with fail
        all_goals go_meet
        all_goals first
          | exact ⟨by rw [show max zl zr = zr by omega], hb6⟩
          | exact ⟨by rw [show max zl zr = zl by omega], hb6⟩
      case rest =>
        obtain ⟨rfl, hwx⟩ := hcut
        have HWX := Lib.hid hwx
        have hft2 := HFT.out _ hwx
        clear hwx HSL HSR HY y2
        by_cases hlb : max zl zr < b
        · have ilb : ((max zl zr : Nat) : Int) < (b : Int) := by omega
          generalize max zl zr = mx at *
          cases fl
          case false =>
            have HN2 := Lib.hid (HNX.out.trans (by rw [if_neg (by simp)]))
            clear HNX
            go_wp2_with (first
              | (go_at_call 26; (with_reducible refine hft2.mono ?_); rintro e w5 ⟨rfl, hw5⟩; have hw5 := HWX.out.trans (hw5.mono HWX.out.size))
              | fail)
            go_roundw
            case rel => exact ⟨k + 1, b, a, by omega, by omega, hbP, han, by go_num, rfl, rfl, HN2, HS4.out.below hw5⟩
            case measure => simp [intOf]; omega
          case true =>
            cases fr
            case false =>
              have HN2 := Lib.hid (HNX.out.trans (by rw [if_neg (by simp)]))
              clear HNX
              go_wp2_with (first
                | (go_at_call 26; (with_reducible refine hft2.mono ?_); rintro e w5 ⟨rfl, hw5⟩; have hw5 := HWX.out.trans (hw5.mono HWX.out.size); have hfr2 := HFR.out _ hw5)
                | (go_at_call 26; (with_reducible refine hfr2.mono ?_); rintro e w6 ⟨rfl, hw6⟩; have hw6 := hw5.trans (hw6.mono hw5.size))
                | fail)
              go_roundw
              case rel => exact ⟨k + 1, b, a, by omega, by omega, hbP, han, by go_num, rfl, rfl, HN2, HS4.out.below hw6⟩
              case measure => simp [intOf]; omega
            case true =>
              have HN2 := Lib.hid (HNX.out.trans (by rw [if_pos ⟨hlb, rfl, rfl⟩]))
              clear HNX
              go_wp2_with (first
                | (go_at_call 26; (with_reducible refine hft2.mono ?_); rintro e w5 ⟨rfl, hw5⟩; have hw5 := HWX.out.trans (hw5.mono HWX.out.size); have hfr2 := HFR.out _ hw5)
                | (go_at_call 26; (with_reducible refine hfr2.mono ?_); rintro e w6 ⟨rfl, hw6⟩; have hw6 := hw5.trans (hw6.mono hw5.size))
                | fail)
              go_roundw
              case rel => exact ⟨k + 1, mx, k, by omega, by omega, by omega, by omega, by go_num, rfl, rfl, HN2, HS4.out.below hw6⟩
              case measure => simp [intOf]; omega
        · have ilb : (b : Int) ≤ ((max zl zr : Nat) : Int) := by omega
          have HN2 := Lib.hid (HNX.out.trans (by rw [if_neg (by omega)]))
          clear HNX
          generalize max zl zr = mx at *
          have HW5 := Lib.hid (HS4.out.below HWX.out)
          go_wp2_with (fail)
          go_roundw
          case rel => exact ⟨k + 1, b, a, by omega, by omega, hbP, han, by go_num, rfl, rfl, HN2, HW5.out⟩
          case measure => simp [intOf]; omega
    · have hfin : halfA (szN2 2) (fitN2 2 P) 2 (pcs l) P = a := by unfold halfA; rw [HL.out, show n - 1 - k = 0 by omega]; rfl
      have HFIN := Lib.hid hfin
      have HBO := Lib.hid (hS.belowOld (_v := w) (by simp))
      clear hS HL hfin
      have ik : (n : Int) - 2 < (k : Int) := by omega
      rcases Nat.eq_zero_or_pos a with h | h
      · subst h
        go_wp2_with (fail)
        go_ret2
        exact ⟨by unfold halfZ; rw [HFIN.out]; rfl, HBO.out⟩
      · have ia : ((a : Int) == 0) = false := beq_eq_false_iff_ne.2 (by omega)
        go_wp2_with (fail)
        go_ret2
        exact ⟨by unfold halfZ; rw [HFIN.out, if_neg (by omega)]; rfl, HBO.out⟩
set_option maxRecDepth 100000 in
set_option maxHeartbeats 16000000 in
theorem NdHalf_2_3 (v : Value) (l : List CV) (P : Nat) (hp : isPowB (P : Int) = true) (w : World) (hl : RdCs w v l) (hn : l.length * 72 ≤ 140737488355328) (hb : bigK (pcs l) ≤ 1000000000000000000) :
    Calls Tryz.prog 28 #[.int .i64 2, .int .i64 3, v, .int .i64 (P : Int)] w fun e w' => e = .returned (.tuple #[.int .i64 (halfA (szN2 3) (fitN2 3 P) 3 (pcs l) P : Nat), .int .i64 (halfZ (szN2 3) (fitN2 3 P) 3 (pcs l) P)]) ∧ Below w.heap.size w w' := by
  have hsf := st_func
  have hr := isPowB_range hp
  have hi := fun W => NdIsPage_any (P : Int) (by omega) W
  rw [hp] at hi
  obtain ⟨n, hnn⟩ : ∃ n, l.length = n := ⟨_, rfl⟩
  have HNN := Lib.hid hnn
  have hl0 := hl
  obtain ⟨A, c, rfl, hm, hc⟩ := hl.slice
  have hfl := fun u hu => flatC_one (w := w) (l := l) hl.ok u hu
  rw [hnn] at hm hl0 hn ⊢
  have HB := Lib.hid hb
  have HFL := Lib.hid hfl
  have HP := Lib.hid hp
  clear hl hc hp hnn hb hfl
  go_enter Tryz.func28, Tryz.ntmps28
  go_upto_region 2 with (first
    | (go_at_call 38; (with_reducible refine (of_2 _).mono ?_); rintro e w1 ⟨rfl, hw1⟩)
    | fail)
  have hS := ((Sep.start w).below hw1).alloc 81 engL2
  unfold engL2 at *
  generalize hW2 : w1.alloc (.cells #[.func (.func 76) #[] #[], .func (.func 79) #[] #[], .func (.func 81) #[] #[], .func (.func 82) #[] #[], .func (.func 83) #[] #[]] 81) = w2 at *
  generalize w1.heap.size = g at *
  clear hW2 hw1
  have e1 : IntKind.i64.wrap ((P : Int) + 1) = (P : Int) + 1 := by rw [IntKind.wrap_i64]; omega
  have e2 : IntKind.i64.wrap ((n : Int) - 2) = (n : Int) - 2 := by rw [IntKind.wrap_i64]; omega
  go_upto_region 8 with (first
    | (go_at_call 62; (with_reducible refine (hi _).mono ?_); rintro e w3 ⟨rfl, rfl⟩)
    | fail)
  clear hi
  have hlp0 : halfS (szN2 3) (fitN2 3 P) 3 (pcs l) P = hLoop (szN2 3) (fitN2 3 P) 3 (pcs l) (n - 3) 2 (P + 1, 0) := by unfold halfS; rw [pcs_length, HNN.out]
  have HL0 := Lib.hid hlp0
  clear hlp0
  go_loopw [12, 13, 14] (fun bv av kv wr => ∃ (k b a : Nat), 2 ≤ k ∧ k ≤ n + 2 ∧ b ≤ P + 1 ∧ a ≤ n ∧ kv = .int .i64 (k : Int) ∧ bv = .int .i64 (b : Int) ∧ av = .int .i64 (a : Int) ∧ Hid (halfS (szN2 3) (fitN2 3 P) 3 (pcs l) P = hLoop (szN2 3) (fitN2 3 P) 3 (pcs l) (n - 1 - k) k (b, a)) ∧ Sep w wr [blkE g 81 [.func (.func 76) #[] #[], .func (.func 79) #[] #[], .func (.func 81) #[] #[], .func (.func 82) #[] #[], .func (.func 83) #[] #[]], oldE w]) (fun _ _ kv _ => n + 2 - (intOf kv).toNat)
  case atStart => exact ⟨2, P + 1, 0, by omega, by omega, by omega, by omega, rfl, by go_num, rfl, HL0, hS⟩
  case round =>
    clear hS HL0
    obtain ⟨k, b, a, hk2, hkn, hbP, han, rfl, rfl, rfl, HL, hS⟩ := hrel
    by_cases hlt : k + 2 ≤ n
    · have ik : (k : Int) ≤ (n : Int) - 2 := by omega
      have hkl : k ≤ l.length := by rw [HNN.out]; omega
      have hl1 := hS.rdC8 (v := w) (by simp) hl0
      obtain ⟨A1, c1, hs1, hr1⟩ := hl1.run_l k hkl
      rw [HNN.out] at hs1 hr1
      have HR1 := Lib.hid hr1
      have hf1 : ∀ u ∈ flatC (l.drop k), u.oneCell' = true := fun u hu => HFL.out u (by rw [flatC_drop] at hu; exact List.mem_of_mem_drop hu)
      clear hr1 hl1
      have hS1 := hS.alloc 43 []
      have hO1 : Own (wr.alloc (.cells #[] 43)) 0 43 5 (.slice (some ⟨wr.heap.size, 0, none⟩) 0 0) ([] : List CV).length (flatC []) := ⟨rfl, .inr ⟨wr.heap.size, 0, [], rfl, Nat.zero_le _, OBlk.new' wr 43 [], Nat.le_refl _, Nat.zero_le _, rfl, rfl⟩⟩
      have hS2 : Sep w (wr.alloc (.cells #[] 43)) (ownE 43 5 (.slice (some ⟨wr.heap.size, 0, none⟩) 0 0) 0 [] :: [blkE g 81 [.func (.func 76) #[] #[], .func (.func 79) #[] #[], .func (.func 81) #[] #[], .func (.func 82) #[] #[], .func (.func 83) #[] #[]], oldE w]) := hS1.weak (fun _ => hO1) (fun b hb => by have h : (some wr.heap.size : Option Nat) = some b := hb; injection h with h; exact h.symm)
      have hr2 := (HR1.out.below ((Below.refl wr.heap.size wr).alloc (Nat.le_refl _) (.cells #[] 43))).form
      have hdl : (l.drop k).length = n - k := by rw [List.length_drop, HNN.out]
      rw [hdl] at hr2
      have HDL := Lib.hid hdl
      clear hS1 hS hdl
      go_upto_region 11 with (first
        | (at_builtin; refine wp_append_C rfl (.tmp 46) (.tmp 49) rfl 0 (.slice (some ⟨wr.heap.size, 0, none⟩) 0 0) [] rfl hO1 (.slice A1 (n - k) c1) (l.drop k) rfl (by rw [HDL.out]; exact hr2) hf1 (by rw [HDL.out]; simp only [List.length_nil]; omega) (Nat.zero_le _) ?_; intro v3 w3 ho3 hg3 hk3; rw [List.nil_append] at ho3)
        | fail)
      have hS3 := hS2.appC ho3 hg3 (by rcases hk3 with e | e; exact .inl e; exact .inr ⟨_, e, Nat.le_refl _⟩)
      obtain ⟨R, rc, rfl⟩ := Own.slice ho3
      rw [HDL.out] at hS3
      rw [HDL.out]
      clear hS2 hO1 hr2 hg3 hk3 ho3
      obtain ⟨x, r, hxr⟩ : ∃ x r, l.drop k = x :: r := by
        cases hd : l.drop k with
        | nil => have := congrArg List.length hd; rw [HDL.out] at this; simp at this; omega
        | cons x r => exact ⟨x, r, rfl⟩
      have hrc : rightC 3 l k = ⟨.slice none 0 0, x.vv, noKey x.c⟩ :: r := by unfold rightC; rw [if_pos rfl, hxr]
      rw [hxr] at hS3
      have ho4 : Own w3 0 43 5 (.slice R (n - k) rc) (n - k) (flatC (x :: r)) := hS3.head
      obtain ⟨gr, rfl⟩ : ∃ gr, R = some ⟨gr, 0, none⟩ := by
        rcases ho4.form with ⟨_, h⟩ | ⟨gq, c', h, _⟩
        · omega
        · injection h with h; exact ⟨gq, h⟩
      have y0 : w3.cell? ⟨gr, 0, none⟩ = some x.kv := ho4.cells 0 _ rfl
      have f0 : w3.frozen? ⟨gr, 0, none⟩ = false := ho4.frozen (by have := ho4.1; omega)
      have hgw := grownBy_setCell w3 ⟨gr, 0, none⟩ (.slice none 0 0)
      have ho5 : Own (w3.setCell ⟨gr, 0, none⟩ (.slice none 0 0)) 0 43 5 (.slice (some ⟨gr, 0, none⟩) (n - k) rc) (n - k) (flatC (rightC 3 l k)) := by rw [hrc]; exact ho4.set 0 (.slice none 0 0)
      have hS4 : Sep w (w3.setCell ⟨gr, 0, none⟩ (.slice none 0 0)) (ownE 43 5 (.slice (some ⟨gr, 0, none⟩) (n - k) rc) (n - k) (flatC (rightC 3 l k)) :: [blkE g 81 [.func (.func 76) #[] #[], .func (.func 79) #[] #[], .func (.func 81) #[] #[], .func (.func 82) #[] #[], .func (.func 83) #[] #[]], oldE w]) := hS3.upd (Turn.of_grown hgw (fun j e => e)) ho5 (fun b hb => ⟨.inl hb, by have h' := hS3.lt b hb; have := hgw.size; omega⟩)
      have i0 : (0 : Int) < ((n - k : Nat) : Int) := by omega
      have i00 : 0 < n - k := by omega
      generalize x.kv = xkv at *
      clear hS3 ho4 ho5 hgw hrc hxr
      go_upto_region 13 with (fail)
      generalize w3.setCell ⟨gr, 0, none⟩ (.slice none 0 0) = w4 at *
      generalize (some ⟨gr, 0, none⟩ : Option Addr) = R at *
      clear y0 f0 i0 i00
      have hl4 := hS4.rdC8 (v := w) (by simp) hl0
      obtain ⟨A2, c2, hs2, hr2⟩ := hl4.run_h k hkl
      have hor : Own w4 0 43 5 (.slice R (n - k) rc) (rightC 3 l k).length (flatC (rightC 3 l k)) := by rw [rightC_length, HNN.out]; exact hS4.head
      have hrr := rightC_rd hor hl4
      have hbt : bigK (pcs (l.take k)) ≤ 1000000000000000000 := by rw [pcs_take]; have := bigK_take (pcs l) k; have := HB.out; omega
      have hbr : bigK (pcs (rightC 3 l k)) ≤ 1000000000000000000 := by rw [pcs_rightC]; have := bigK_right 3 (pcs l) k; have := HB.out; omega
      have hsl := fun W (hW : Below w4.heap.size w4 W) => SizeN_2 3 (.slice A2 k c2) (l.take k) W (hr2.below hW) hbt
      have hsr := fun W (hW : Below w4.heap.size w4 W) => SizeN_2 3 (.slice R (n - k) rc) (rightC 3 l k) W (hrr.below hW) hbr
      have hzl := szN2_le 3 hbt
      have hzr := szN2_le 3 hbr
      have hft := fun W (hW : Below w4.heap.size w4 W) => NdFit_2 3 (.slice A2 k c2) (l.take k) (P : Int) (by unfold i64r; omega) W (hr2.below hW) (by rw [List.length_take, HNN.out]; omega)
      have hfr := fun W (hW : Below w4.heap.size w4 W) => NdFit_2 3 (.slice R (n - k) rc) (rightC 3 l k) (P : Int) (by unfold i64r; omega) W (hrr.below hW) (by rw [rightC_length, HNN.out]; omega)
      have hmo : hMost (szN2 3) 3 (pcs l) k = max (szN2 3 (pcs (l.take k))) (szN2 3 (pcs (rightC 3 l k))) := by unfold hMost; rw [pcs_take, pcs_rightC]
      have hfl1 : fitN2 3 P ((pcs l).take k) = (encKZ 3 (pcs (l.take k)) (P : Int) == 0) := by rw [pcs_take]; rfl
      have hfr1 : fitN2 3 P (rightF 3 (pcs l) k) = (encKZ 3 (pcs (rightC 3 l k)) (P : Int) == 0) := by rw [pcs_rightC]; rfl
      rw [← hfl1] at hft
      rw [← hfr1] at hfr
      have hst : hStep (szN2 3) (fitN2 3 P) 3 (pcs l) k (b, a) = if max (szN2 3 (pcs (l.take k))) (szN2 3 (pcs (rightC 3 l k))) < b ∧ fitN2 3 P ((pcs l).take k) = true ∧ fitN2 3 P (rightF 3 (pcs l) k) = true then (max (szN2 3 (pcs (l.take k))) (szN2 3 (pcs (rightC 3 l k))), k) else (b, a) := by unfold hStep; rw [hmo]
      have hnx : hLoop (szN2 3) (fitN2 3 P) 3 (pcs l) (n - 1 - k) k (b, a) = hLoop (szN2 3) (fitN2 3 P) 3 (pcs l) (n - 1 - (k + 1)) (k + 1) (hStep (szN2 3) (fitN2 3 P) 3 (pcs l) k (b, a)) := by rw [show n - 1 - k = (n - 1 - (k + 1)) + 1 by omega]; rfl
      rw [hst] at hnx
      have HNX := Lib.hid (HL.out.trans hnx)
      have HSL := Lib.hid hsl
      have HSR := Lib.hid hsr
      have HFT := Lib.hid hft
      have HFR := Lib.hid hfr
      clear hl4 hr2 hor hrr hbt hbr hsl hsr hft hfr hmo hfl1 hfr1 hst hnx HL HR1 hf1 hs1
      generalize szN2 3 (pcs (l.take k)) = zl at *
      generalize szN2 3 (pcs (rightC 3 l k)) = zr at *
      generalize fitN2 3 P ((pcs l).take k) = fl at *
      generalize fitN2 3 P (rightF 3 (pcs l) k) = fr at *
      have HS4 := Lib.hid hS4.tail
      obtain ⟨-, -, y2, -, -⟩ := (show OBlk w4 g 81 [.func (.func 76) #[] #[], .func (.func 79) #[] #[], .func (.func 81) #[] #[], .func (.func 82) #[] #[], .func (.func 83) #[] #[]] from hS4.tail.head).cells5'
      have HY := Lib.hid (fun W (hW : Below w4.heap.size w4 W) => (hW.cell (World.block_lt_of_cell? _ _ y2)).trans y2)
      clear hS4
      have hbd : Below w4.heap.size w4 w4.drew := below_drewN (Below.refl _ _) 1
      go_cut [16] (fun mv wx => mv = .int .i64 ((max zl zr : Nat) : Int) ∧ Below w4.heap.size w4 wx)
      case first =>
        go_region_held3 (fun w' => w'.cell? ⟨g, 2, none⟩ = some (.func (.func 81) #[] #[]))
          (first | exact y2 | exact HY.out _ hb6 | exact HY.out _ hb5 | go_keep)
          (first
            | (go_at_call 81; (with_reducible refine (HSL.out _ hbd).mono ?_); rintro e w5 ⟨rfl, hw5⟩; have hb5 := hbd.trans hw5)
            | (go_at_call 81; (with_reducible refine (HSR.out _ hb5).mono ?_); rintro e w6 ⟨rfl, hw6⟩; have hb6 := hb5.trans (hw6.mono hb5.size))
            | fail)
        all_goals go_wp2_with fail
        all_goals go_meet
        all_goals first
          | exact ⟨by rw [show max zl zr = zr by omega], hb6⟩
          | exact ⟨by rw [show max zl zr = zl by omega], hb6⟩
      case rest =>
        obtain ⟨rfl, hwx⟩ := hcut
        have HWX := Lib.hid hwx
        have hft2 := HFT.out _ hwx
        clear hwx HSL HSR HY y2
        by_cases hlb : max zl zr < b
        · have ilb : ((max zl zr : Nat) : Int) < (b : Int) := by omega
          generalize max zl zr = mx at *
          cases fl
          case false =>
            have HN2 := Lib.hid (HNX.out.trans (by rw [if_neg (by simp)]))
            clear HNX
            go_wp2_with (first
              | (go_at_call 26; (with_reducible refine hft2.mono ?_); rintro e w5 ⟨rfl, hw5⟩; have hw5 := HWX.out.trans (hw5.mono HWX.out.size))
              | fail)
            go_roundw
            case rel => exact ⟨k + 1, b, a, by omega, by omega, hbP, han, by go_num, rfl, rfl, HN2, HS4.out.below hw5⟩
            case measure => simp [intOf]; omega
          case true =>
            cases fr
            case false =>
              have HN2 := Lib.hid (HNX.out.trans (by rw [if_neg (by simp)]))
              clear HNX
              go_wp2_with (first
                | (go_at_call 26; (with_reducible refine hft2.mono ?_); rintro e w5 ⟨rfl, hw5⟩; have hw5 := HWX.out.trans (hw5.mono HWX.out.size); have hfr2 := HFR.out _ hw5)
                | (go_at_call 26; (with_reducible refine hfr2.mono ?_); rintro e w6 ⟨rfl, hw6⟩; have hw6 := hw5.trans (hw6.mono hw5.size))
                | fail)
              go_roundw
              case rel => exact ⟨k + 1, b, a, by omega, by omega, hbP, han, by go_num, rfl, rfl, HN2, HS4.out.below hw6⟩
              case measure => simp [intOf]; omega
            case true =>
              have HN2 := Lib.hid (HNX.out.trans (by rw [if_pos ⟨hlb, rfl, rfl⟩]))
              clear HNX
              go_wp2_with (first
                | (go_at_call 26; (with_reducible refine hft2.mono ?_); rintro e w5 ⟨rfl, hw5⟩; have hw5 := HWX.out.trans (hw5.mono HWX.out.size); have hfr2 := HFR.out _ hw5)
                | (go_at_call 26; (with_reducible refine hfr2.mono ?_); rintro e w6 ⟨rfl, hw6⟩; have hw6 := hw5.trans (hw6.mono hw5.size))
                | fail)
              go_roundw
              case rel => exact ⟨k + 1, mx, k, by omega, by omega, by omega, by omega, by go_num, rfl, rfl, HN2, HS4.out.below hw6⟩
              case measure => simp [intOf]; omega
        · have ilb : (b : Int) ≤ ((max zl zr : Nat) : Int) := by omega
          have HN2 := Lib.hid (HNX.out.trans (by rw [if_neg (by omega)]))
          clear HNX
          generalize max zl zr = mx at *
          have HW5 := Lib.hid (HS4.out.below HWX.out)
          go_wp2_with (fail)
          go_roundw
          case rel => exact ⟨k + 1, b, a, by omega, by omega, hbP, han, by go_num, rfl, rfl, HN2, HW5.out⟩
          case measure => simp [intOf]; omega
    · have hfin : halfA (szN2 3) (fitN2 3 P) 3 (pcs l) P = a := by unfold halfA; rw [HL.out, show n - 1 - k = 0 by omega]; rfl
      have HFIN := Lib.hid hfin
      have HBO := Lib.hid (hS.belowOld (_v := w) (by simp))
      clear hS HL hfin
      have ik : (n : Int) - 2 < (k : Int) := by omega
      rcases Nat.eq_zero_or_pos a with h | h
      · subst h
        go_wp2_with (fail)
        go_ret2
        exact ⟨by unfold halfZ; rw [HFIN.out]; rfl, HBO.out⟩
      · have ia : ((a : Int) == 0) = false := beq_eq_false_iff_ne.2 (by omega)
        go_wp2_with (fail)
        go_ret2
        exact ⟨by unfold halfZ; rw [HFIN.out, if_neg (by omega)]; rfl, HBO.out⟩
set_option maxRecDepth 100000 in
set_option maxHeartbeats 4000000 in
theorem NdHalf_bad_2 (kind P : Int) (A : Option Addr) (m c : Nat) (hbad : (kind ≠ 2 ∧ kind ≠ 3) ∨ isPowB P = false) (hPr : i64r P) (w : World) :
    Calls Tryz.prog 28 #[.int .i64 2, .int .i64 kind, .slice A m c, .int .i64 P] w fun e w' => e = .returned (.tuple #[.int .i64 0, .int .i64 1]) ∧ Below w.heap.size w w' := by
  have hsf := st_func
  have hi := fun W => NdIsPage_any P hPr W
  by_cases hk : kind ≠ 2 ∧ kind ≠ 3
  · obtain ⟨h2, h3⟩ := hk
    have k2 : (kind != 2) = true := bne_iff_ne.2 h2
    have k3 : (kind != 3) = true := bne_iff_ne.2 h3
    clear hbad h2 h3
    go_enter Tryz.func28, Tryz.ntmps28
    go_wp2_with (first
      | (go_at_call 38; (with_reducible refine (of_2 _).mono ?_); rintro e w1 ⟨rfl, hw1⟩)
      | fail)
    go_ret2
    exact ⟨rfl, hw1.alloc hw1.size _⟩
  · have hP : isPowB P = false := by rcases hbad with h | h; exact absurd h hk; exact h
    rw [hP] at hi
    have hk2 : kind = 2 ∨ kind = 3 := by omega
    clear hbad hk hP
    rcases hk2 with rfl | rfl
    all_goals
      go_enter Tryz.func28, Tryz.ntmps28
      go_wp2_with (first
        | (go_at_call 38; (with_reducible refine (of_2 _).mono ?_); rintro e w1 ⟨rfl, hw1⟩)
        | (go_at_call 62; (with_reducible refine (hi _).mono ?_); rintro e w3 ⟨rfl, rfl⟩)
        | fail)
      go_ret2
      exact ⟨rfl, hw1.alloc hw1.size _⟩
set_option maxRecDepth 20000 in
set_option maxHeartbeats 1000000 in
theorem NdHalf_no (n kind : Int) (h1 : n ≠ 1) (h2 : n ≠ 2) (A : Option Addr) (m c : Nat) (P : Int) (w : World) :
    Calls Tryz.prog 28 #[.int .i64 n, .int .i64 kind, .slice A m c, .int .i64 P] w fun e w' => e = .returned (.tuple #[.int .i64 0, .int .i64 80]) ∧ Below w.heap.size w w' := by
  have hf := of_no n h1 h2 w
  have hsn := st_nilFunc
  clear h1 h2
  go_enter Tryz.func28, Tryz.ntmps28
  go_wp2_with (first
    | (go_at_call 38; (with_reducible refine hf.mono ?_); rintro e w1 ⟨rfl, hw1⟩)
    | fail)
  go_ret2
  exact ⟨rfl, hw1.alloc hw1.size _⟩
end Go.Proofs.YtfcnkpofcekmgaaGreat

-- espalierref08.Encode, Fits, Size: the dispatch.
namespace Go.Proofs.YtfcnkpofcekmgaaGreat
open Go.RowKit
set_option maxRecDepth 100000 in
set_option maxHeartbeats 2000000 in
theorem RNEnc_1 (kind : Int) (v : Value) (l : List CV) (P : Int) (w : World) (hl : RdCs w v l) (hn : l.length ≤ 2000000000000) :
    Calls Tryz.prog 30 #[.int .i64 1, .int .i64 kind, v, .int .i64 P] w (REncAt w kind (pcs l) P) := by
  have hE := REncode_any kind v l P w hl hn
  obtain ⟨A, c, rfl, hm, hc⟩ := hl.slice
  unfold REncAt at *
  go_enter Tryz.func30, Tryz.ntmps30
  go_wp2_with (first
    | (go_at_call 63; (with_reducible refine hE.mono ?_); rintro e w1 ⟨hb, h⟩; rcases h with ⟨h1, rfl⟩ | ⟨h1, ⟨h2, rfl⟩ | ⟨h2, u, rfl, ho⟩⟩)
    | fail)
  all_goals go_ret2
  · exact ⟨hb, .inl ⟨h1, rfl⟩⟩
  · exact ⟨hb, .inr ⟨h1, .inl ⟨h2, rfl⟩⟩⟩
  · exact ⟨hb, .inr ⟨h1, .inr ⟨h2, u, rfl, ho⟩⟩⟩
set_option maxRecDepth 100000 in
set_option maxHeartbeats 2000000 in
theorem RNFit_1 (kind : Int) (v : Value) (l : List CV) (P : Int) (w : World) (hl : RdCs w v l) (hn : l.length ≤ 2000000000000) :
    Calls Tryz.prog 67 #[.int .i64 1, .int .i64 kind, v, .int .i64 P] w fun e w' => e = .returned (.bool (encZ kind (pcs l) P == 0)) ∧ Below w.heap.size w w' := by
  have hE := RNEnc_1 kind v l P w hl hn
  obtain ⟨A, c, rfl, hm, hc⟩ := hl.slice
  unfold REncAt at hE
  have hz1 : (isKindB kind && isPowB P) = false → encZ kind (pcs l) P = 1 := fun h => by unfold encZ; rw [if_neg (by rw [h]; decide)]
  have hz2 : (isKindB kind && isPowB P) = true → encZ kind (pcs l) P = encE kind (pcs l) P.toNat := fun h => by unfold encZ; rw [if_pos h]
  have HZ1 := Lib.hid hz1
  have HZ2 := Lib.hid hz2
  clear hz1 hz2
  generalize encZ kind (pcs l) P = z at *
  go_enter Tryz.func67, Tryz.ntmps67
  go_wp2_with (first
    | (go_at_call 30; (with_reducible refine hE.mono ?_); rintro e w1 ⟨hb, h⟩; rcases h with ⟨h1, rfl⟩ | ⟨h1, ⟨h2, rfl⟩ | ⟨h2, u, rfl, ho⟩⟩)
    | fail)
  all_goals go_ret
  · exact ⟨by rw [HZ1.out h1]; rfl, hb⟩
  · exact ⟨by rw [HZ2.out h1]; rfl, hb⟩
  · exact ⟨by rw [HZ2.out h1, h2]; rfl, hb⟩
set_option maxRecDepth 100000 in
set_option maxHeartbeats 2000000 in
theorem RNEnc_2 (kind : Int) (v : Value) (l : List CV) (P : Int) (w : World) (hl : RdCs w v l) (hn : l.length ≤ 2000000000000) :
    Calls Tryz.prog 30 #[.int .i64 2, .int .i64 kind, v, .int .i64 P] w (REncKAt w kind (pcs l) P) := by
  have hE := RKEncode_any kind v l P w hl hn
  obtain ⟨A, c, rfl, hm, hc⟩ := hl.slice
  unfold REncKAt at *
  go_enter Tryz.func30, Tryz.ntmps30
  go_wp2_with (first
    | (go_at_call 64; (with_reducible refine hE.mono ?_); rintro e w1 ⟨hb, h⟩; rcases h with ⟨h1, rfl⟩ | ⟨h1, ⟨h2, rfl⟩ | ⟨h2, u, rfl, ho⟩⟩)
    | fail)
  all_goals go_ret2
  · exact ⟨hb, .inl ⟨h1, rfl⟩⟩
  · exact ⟨hb, .inr ⟨h1, .inl ⟨h2, rfl⟩⟩⟩
  · exact ⟨hb, .inr ⟨h1, .inr ⟨h2, u, rfl, ho⟩⟩⟩
set_option maxRecDepth 100000 in
set_option maxHeartbeats 2000000 in
theorem RNFit_2 (kind : Int) (v : Value) (l : List CV) (P : Int) (w : World) (hl : RdCs w v l) (hn : l.length ≤ 2000000000000) :
    Calls Tryz.prog 67 #[.int .i64 2, .int .i64 kind, v, .int .i64 P] w fun e w' => e = .returned (.bool (encKZ kind (pcs l) P == 0)) ∧ Below w.heap.size w w' := by
  have hE := RNEnc_2 kind v l P w hl hn
  obtain ⟨A, c, rfl, hm, hc⟩ := hl.slice
  unfold REncKAt at hE
  have hz1 : (isKindB kind && isPowB P) = false → encKZ kind (pcs l) P = 1 := fun h => by unfold encKZ; rw [if_neg (by rw [h]; decide)]
  have hz2 : (isKindB kind && isPowB P) = true → encKZ kind (pcs l) P = encK kind (pcs l) P.toNat := fun h => by unfold encKZ; rw [if_pos h]
  have HZ1 := Lib.hid hz1
  have HZ2 := Lib.hid hz2
  clear hz1 hz2
  generalize encKZ kind (pcs l) P = z at *
  go_enter Tryz.func67, Tryz.ntmps67
  go_wp2_with (first
    | (go_at_call 30; (with_reducible refine hE.mono ?_); rintro e w1 ⟨hb, h⟩; rcases h with ⟨h1, rfl⟩ | ⟨h1, ⟨h2, rfl⟩ | ⟨h2, u, rfl, ho⟩⟩)
    | fail)
  all_goals go_ret
  · exact ⟨by rw [HZ1.out h1]; rfl, hb⟩
  · exact ⟨by rw [HZ2.out h1]; rfl, hb⟩
  · exact ⟨by rw [HZ2.out h1, h2]; rfl, hb⟩
end Go.Proofs.YtfcnkpofcekmgaaGreat
