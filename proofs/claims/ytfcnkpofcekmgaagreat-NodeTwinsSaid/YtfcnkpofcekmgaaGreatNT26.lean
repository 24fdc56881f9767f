/- Texts joined: espalierlaw08.halves; espalierlaw08.halves, called where a call told that there is no room.; A cell put behind a list that is a piece.; node.Cells; node.New, node.Open, in words of pieces.; The example of chapter 08 -/
import Derived.Test.YtfcnkpofcekmgaaGreatNT8
import Derived.Test.YtfcnkpofcekmgaaGreatNT9
import Derived.Test.YtfcnkpofcekmgaaGreatNT18
import Derived.Test.YtfcnkpofcekmgaaGreatNT19
import Derived.Test.YtfcnkpofcekmgaaGreatNT25
-- espalierlaw08.halves: the walk, for either engine.
namespace Go.Proofs.YtfcnkpofcekmgaaGreat
open Go.RowKit
def withC (l : List CV) (i : Nat) (x : CV) : List CV := l.take i ++ [x] ++ l.drop i
theorem pcs_withC (l : List CV) (i : Nat) (x : CV) : pcs (withC l i x) = withF (pcs l) i 0 x.c := by
  unfold withC withF
  rw [pcs_append, pcs_append, pcs_take, pcs_drop, List.append_assoc]
  rfl
theorem withC_length (l : List CV) {i : Nat} (hi : i ≤ l.length) (x : CV) : (withC l i x).length = l.length + 1 := by
  unfold withC
  simp only [List.length_append, List.length_take, List.length_drop, List.length_singleton]; omega
theorem Sep.ok8 {w0 w v : World} {L : List Ent} {x : CV} (h : Sep w0 w L) (hm : oldE v ∈ L) (hx : x.ok v) : x.ok w := { hx with k := h.rd hm hx.k, v := h.rd hm hx.v }
set_option maxRecDepth 100000 in
set_option maxHeartbeats 16000000 in
theorem Halves_1_2 (P : Nat) (hp : isPowB (P : Int) = true) (v : Value) (l : List CV) (q : OpX) (i : Nat) (hq : q.at_ = (i : Int)) (hi : i ≤ l.length) (w : World) (hl : RdCs w v l) (hx : q.x.ok w) (hkr : RdB w q.kv q.key) (hn : l.length ≤ 1000000) (hb : bigK (withF (pcs l) i 0 q.x.c) ≤ 1000000000000000000)
    (hw : fitN1 2 P (withF (pcs l) i 0 q.x.c) = false) (he : ∃ k, 2 ≤ k ∧ k + 2 ≤ (withF (pcs l) i 0 q.x.c).length ∧ fitN1 2 P ((withF (pcs l) i 0 q.x.c).take k) = true ∧ fitN1 2 P (rightF 2 (withF (pcs l) i 0 q.x.c) k) = true) :
    Calls Tryz.prog 18 #[.int .i64 1, .int .i64 2, .int .i64 (P : Int), v, opV q] w fun e w' => e = .returned (.bool true) ∧ Below w.heap.size w w' := by
  have hf := half_found (szN1 2) (fitN1 2 P) 2 (withF (pcs l) i 0 q.x.c) (P := P) (fun x hx => ((fit1_iff (by decide) hp).1 hx).2) he
  have hH := fun (U : Value) (W : World) (hU : RdCs W U (withC l i q.x)) => NdHalf_1_2 U (withC l i q.x) P hp W hU (by rw [withC_length l hi]; omega) (by rw [pcs_withC]; exact hb)
  have hr := isPowB_range hp
  rw [pcs_withC] at hH
  obtain ⟨a2, an, f1, f2, hz⟩ := hf
  rw [hz] at hH
  generalize halfA (szN1 2) (fitN1 2 P) 2 (withF (pcs l) i 0 q.x.c) P = a at *
  have han : a + 2 ≤ l.length + 1 := by rw [withF_length (pcs l) q.x.c (by rw [pcs_length]; exact hi), pcs_length] at an; exact an
  have hwl := withC_length l hi q.x
  have hF := fun (U : Value) (M : List CV) (hM : M.length ≤ 1000001) (W : World) (hU : RdCs W U M) => NdFit_1 2 U M (P : Int) (by unfold i64r; omega) W hU (by omega)
  have hR := fun (U : Value) (W : World) (hU : RdCs W U (withC l i q.x)) => Right_2 U (withC l i q.x) a (by omega) W hU (by omega)
  have e1 : (encZ 2 (pcs ((withC l i q.x).take a)) (P : Int) == 0) = true := by rw [pcs_take, pcs_withC]; exact f1
  have e2 : (encZ 2 (pcs (rightC 2 (withC l i q.x) a)) (P : Int) == 0) = true := by rw [pcs_rightC, pcs_withC]; exact f2
  have e3 : (encZ 2 (pcs (withC l i q.x)) (P : Int) == 0) = false := by rw [pcs_withC]; exact hw
  have HF1 := Lib.hid (fun U W hU => e1 ▸ hF U ((withC l i q.x).take a) (by rw [List.length_take]; omega) W hU)
  have HF2 := Lib.hid (fun U W hU => e2 ▸ hF U (rightC 2 (withC l i q.x) a) (by rw [rightC_length]; omega) W hU)
  have HF3 := Lib.hid (fun U W hU => e3 ▸ hF U (withC l i q.x) (by omega) W hU)
  have HH := Lib.hid hH
  have HR := Lib.hid hR
  have HWL := Lib.hid hwl
  have HMD : Hid (withC l i q.x = l.take i ++ [q.x] ++ l.drop i) := Lib.hid rfl
  clear hH hR hF e1 e2 e3 f1 f2 hz he hw hb an hwl hp
  obtain ⟨K, at_, x, kv, okey⟩ := q
  simp only at hq hx hkr HF1 HF2 HF3 HH HR HWL HMD ⊢
  subst hq
  obtain ⟨n, hnn⟩ : ∃ n, l.length = n := ⟨_, rfl⟩
  have HNN := Lib.hid hnn
  have hl0 := hl
  have HX := Lib.hid hx
  obtain ⟨D, cd, rfl, -⟩ := hkr.form
  obtain ⟨xA, xa, xB, xb, key, ck, val, pg, ct, rfl, -, -⟩ := CV.form hx
  generalize withC l i _ = M at *
  obtain ⟨A, c, rfl, hm, hc⟩ := hl.slice
  obtain ⟨A1, c1, hs1, hr1⟩ := hl.run_h i hi
  obtain ⟨A3, c3, hs3, hr3⟩ := hl.run_l i hi
  rw [hnn] at hs1 hs3 hr3 han hi hl0 HWL hn
  have HL0 := Lib.hid hl0
  have HR1 := Lib.hid hr1
  have HR3 := Lib.hid hr3
  have hti : (l.take i).length = i := by rw [List.length_take]; omega
  have HTI := Lib.hid hti
  have hdi : (l.drop i).length = n - i := by rw [List.length_drop]; omega
  have HDI := Lib.hid hdi
  have hS := (((Sep.start w).alloc 45 [.int .i64 K, .int .i64 (i : Int), .slice xA key.length xa, .int .i64 ck, .slice xB val.length xb, .int .i64 pg, .int .i64 ct, .slice D okey.length cd])).nilC
  clear hl hc hx hkr hl0 hr1 hr3 hti hdi hm
  rw [hnn]
  clear hnn
  unfold opV
  simp only
  go_enter Tryz.func18, Tryz.ntmps18
  go_upto_region 4 with (fail)
  generalize hW : w.alloc (.cells #[.int .i64 K, .int .i64 (i : Int), .slice xA key.length xa, .int .i64 ck, .slice xB val.length xb, .int .i64 pg, .int .i64 ct, .slice D okey.length cd] 45) = w1 at *
  generalize w.heap.size = b1 at *
  clear hW
  obtain ⟨c0, c1', c2, c3', c4, c5, c6, c7⟩ := cells8 hS.tail.blk
  have hO1 := (show Own w1 0 43 5 (.slice none 0 0) ([] : List CV).length (flatC []) from hS.head)
  have hr1 := (hS.rdC8 (v := w) (by simp) HR1.out).form
  have hf1 := flatC_one HR1.out.ok
  go_upto_region 5 with (first
    | (at_builtin; refine wp_append_C rfl (.tmp 27) (.tmp 31) rfl 0 (.slice none 0 0) [] rfl hO1 (.slice A1 i c1) (l.take i) rfl hr1 hf1 (by rw [HTI.out]; simp only [List.length_nil]; omega) (Nat.zero_le _) ?_; intro v3 w3 ho3 hg3 hk3; rw [List.nil_append] at ho3)
    | fail)
  have hS3 := hS.appC ho3 hg3 (by rcases hk3 with e | e; exact .inl e; exact .inr ⟨_, e, Nat.le_refl _⟩)
  obtain ⟨R, rc, rfl⟩ := Own.slice ho3
  rw [HTI.out] at hS3
  rw [HTI.out]
  clear hS hO1 hr1 hf1 ho3 hg3 hk3 c0 c1' c2 c3' c4 c5 c6 c7
  obtain ⟨c0, c1', c2, c3', c4, c5, c6, c7⟩ := cells8 hS3.tail.blk
  have hS4 := hS3.alloc 43 [.slice xA key.length xa, .int .i64 ck, .slice xB val.length xb, .int .i64 pg, .int .i64 ct]
  have hown2 := (show Own _ 0 43 5 (.slice R i rc) i (flatC (l.take i)) from hS4.tail.head)
  have hfive := Rd.five w3 (.slice xA key.length xa) (.int .i64 ck) (.slice xB val.length xb) (.int .i64 pg) (.int .i64 ct) 43
  have hone := flatC_one (l := [⟨.slice xA key.length xa, .slice xB val.length xb, ⟨key, ck, val, pg, ct⟩⟩]) (fun x hx => by obtain rfl := List.mem_singleton.1 hx; exact HX.out)
  go_upto_region 6 with (first
    | (at_builtin; refine wp_append_C rfl (.tmp 33) (.tmp 36) rfl 0 (.slice R i rc) (l.take i) rfl (by rw [HTI.out]; exact hown2) (.slice (some ⟨w3.heap.size, 0, none⟩) 1 1) [⟨.slice xA key.length xa, .slice xB val.length xb, ⟨key, ck, val, pg, ct⟩⟩] rfl hfive hone (by rw [HTI.out]; simp only [List.length_singleton]; omega) (Nat.zero_le _) ?_; intro v5 w5 ho5 hg5 hk5)
    | fail)
  have hS5 := (Sep.pick (L := [_, _, _, _]) [1, 2, 3] (by decide) rfl hS4).appC ho5 hg5 (by rcases hk5 with e | e; exact .inl e; exact .inr ⟨_, e, Nat.le_refl _⟩)
  obtain ⟨R2, rc2, rfl⟩ := Own.slice ho5
  have hm1 : (l.take i ++ [(⟨.slice xA key.length xa, .slice xB val.length xb, ⟨key, ck, val, pg, ct⟩⟩ : CV)]).length = i + 1 := by rw [List.length_append, HTI.out]; rfl
  rw [hm1] at hS5
  rw [hm1]
  have HOK1 : Hid (∀ y ∈ l.take i ++ [(⟨.slice xA key.length xa, .slice xB val.length xb, ⟨key, ck, val, pg, ct⟩⟩ : CV)] ++ l.drop i, y.ok w) := Lib.hid (fun y hy => by
    rcases List.mem_append.1 hy with hy | hy
    · rcases List.mem_append.1 hy with hy | hy
      · exact HR1.out.ok y hy
      · obtain rfl := List.mem_singleton.1 hy; exact HX.out
    · exact HR3.out.ok y hy)
  generalize (l.take i ++ [(⟨.slice xA key.length xa, .slice xB val.length xb, ⟨key, ck, val, pg, ct⟩⟩ : CV)]) = M1 at *
  have HM1 := Lib.hid hm1
  clear hS3 hS4 hown2 hfive hone ho5 hg5 hk5 c0 c1' c2 c3' c4 c5 c6 c7 hm1
  obtain ⟨c0, c1', c2, c3', c4, c5, c6, c7⟩ := cells8 hS5.tail.blk
  have hown3 := (show Own _ 0 43 5 (.slice R2 (i + 1) rc2) (i + 1) (flatC M1) from hS5.head)
  have hr3 := (hS5.rdC8 (v := w) (by simp) HR3.out).form
  have hf3 := flatC_one HR3.out.ok
  go_upto_region 7 with (first
    | (at_builtin; refine wp_append_C rfl (.tmp 38) (.tmp 42) rfl 0 (.slice R2 (i + 1) rc2) M1 rfl (by rw [HM1.out]; exact hown3) (.slice A3 (n - i) c3) (l.drop i) rfl (by rw [HDI.out] at hr3 ⊢; exact hr3) hf3 (by rw [HM1.out, HDI.out]; omega) (Nat.zero_le _) ?_; intro v7 w7 ho7 hg7 hk7; rw [← HMD.out] at ho7)
    | fail)
  have hS7 := hS5.appC ho7 hg7 (by rcases hk7 with e | e; exact .inl e; exact .inr ⟨_, e, Nat.le_refl _⟩)
  obtain ⟨R3, rc3, rfl⟩ := Own.slice ho7
  rw [HWL.out]
  rw [HWL.out] at hS7
  have hMr : RdCs w7 (.slice R3 (n + 1) rc3) M := ⟨by have := Own.rd ho7; rw [HWL.out] at this ⊢; exact this, fun y hy => hS7.ok8 (v := w) (by simp) (HOK1.out y (by rw [← HMD.out]; exact hy))⟩
  have hB7 := hS7.belowOld (_v := w) (by simp)
  have HMR := Lib.hid hMr
  obtain ⟨A4, c4', hs4, hr4⟩ := hMr.run_h a (by rw [HWL.out]; omega)
  have HR4 := Lib.hid hr4
  have hh := HH.out _ w7 hMr
  have HB7 := Lib.hid hB7
  have j1 : (2 : Int) ≤ (a : Int) := by omega
  have j2 : (a : Int) + 2 ≤ ((n + 1 : Nat) : Int) := by omega
  have j3 : IntKind.i64.wrap ((a : Int) + 2) = (a : Int) + 2 := by rw [IntKind.wrap_i64]; omega
  clear hS5 hS7 hown3 hr3 hf3 ho7 hg7 hk7 c0 c1' c2 c3' c4 c5 c6 c7 hMr hr4 hB7 hs1 hs3
  go_upto_region 10 with (first
    | (go_at_call 28; (with_reducible refine hh.mono ?_); rintro e w8 ⟨rfl, hw8⟩)
    | fail)
  have hB8 := HB7.out.trans (hw8.mono HB7.out.size)
  have HB8 := Lib.hid hB8
  have hMr8 := HMR.out.below hw8
  have HMR8 := Lib.hid hMr8
  have hF1 := HF1.out _ w8 (HR4.out.below hw8)
  clear hh hw8 hB8 hMr8
  go_upto_region 11 with (first
    | (go_at_call 26; (with_reducible refine hF1.mono ?_); rintro e w9 ⟨rfl, hw9⟩)
    | fail)
  have hB9 := HB8.out.trans (hw9.mono HB8.out.size)
  have HB9 := Lib.hid hB9
  have hMr9 := HMR8.out.below hw9
  have HMR9 := Lib.hid hMr9
  have hRR := HR.out _ w9 hMr9
  clear hF1 hw9 hB9 hMr9
  go_upto_region 12 with (first
    | (go_at_call 59; (with_reducible refine hRR.mono ?_); rintro e w10 ⟨Ar, cr, rfl, hS10⟩; have hw10 := hS10.belowOld (_v := w9) (by simp); have hM10 := HMR9.out.below hw10; have hF2 := HF2.out _ w10 (rightC_rd hS10.head hM10))
    | (go_at_call 26; (with_reducible refine hF2.mono ?_); rintro e w11 ⟨rfl, hw11⟩)
    | fail)
  have hB10 := HB9.out.trans (hw10.mono HB9.out.size)
  have hB11 := hB10.trans (hw11.mono hB10.size)
  have HB11 := Lib.hid hB11
  have hF3 := HF3.out _ w11 (hM10.below hw11)
  clear hRR hS10 hw10 hM10 hF2 hw11 hB10 hB11
  go_wp2_with (first
    | (go_at_call 26; (with_reducible refine hF3.mono ?_); rintro e w12 ⟨rfl, hw12⟩)
    | fail)
  go_ret
  exact ⟨rfl, HB11.out.trans (hw12.mono HB11.out.size)⟩
set_option maxRecDepth 100000 in
set_option maxHeartbeats 16000000 in
theorem Halves_1_3 (P : Nat) (hp : isPowB (P : Int) = true) (v : Value) (l : List CV) (q : OpX) (i : Nat) (hq : q.at_ = (i : Int)) (hi : i ≤ l.length) (w : World) (hl : RdCs w v l) (hx : q.x.ok w) (hkr : RdB w q.kv q.key) (hn : l.length ≤ 1000000) (hb : bigK (withF (pcs l) i 0 q.x.c) ≤ 1000000000000000000)
    (hw : fitN1 3 P (withF (pcs l) i 0 q.x.c) = false) (he : ∃ k, 2 ≤ k ∧ k + 2 ≤ (withF (pcs l) i 0 q.x.c).length ∧ fitN1 3 P ((withF (pcs l) i 0 q.x.c).take k) = true ∧ fitN1 3 P (rightF 3 (withF (pcs l) i 0 q.x.c) k) = true) :
    Calls Tryz.prog 18 #[.int .i64 1, .int .i64 3, .int .i64 (P : Int), v, opV q] w fun e w' => e = .returned (.bool true) ∧ Below w.heap.size w w' := by
  have hf := half_found (szN1 3) (fitN1 3 P) 3 (withF (pcs l) i 0 q.x.c) (P := P) (fun x hx => ((fit1_iff (by decide) hp).1 hx).2) he
  have hH := fun (U : Value) (W : World) (hU : RdCs W U (withC l i q.x)) => NdHalf_1_3 U (withC l i q.x) P hp W hU (by rw [withC_length l hi]; omega) (by rw [pcs_withC]; exact hb)
  have hr := isPowB_range hp
  rw [pcs_withC] at hH
  obtain ⟨a2, an, f1, f2, hz⟩ := hf
  rw [hz] at hH
  generalize halfA (szN1 3) (fitN1 3 P) 3 (withF (pcs l) i 0 q.x.c) P = a at *
  have han : a + 2 ≤ l.length + 1 := by rw [withF_length (pcs l) q.x.c (by rw [pcs_length]; exact hi), pcs_length] at an; exact an
  have hwl := withC_length l hi q.x
  have hF := fun (U : Value) (M : List CV) (hM : M.length ≤ 1000001) (W : World) (hU : RdCs W U M) => NdFit_1 3 U M (P : Int) (by unfold i64r; omega) W hU (by omega)
  have hR := fun (U : Value) (W : World) (hU : RdCs W U (withC l i q.x)) => Right_3 U (withC l i q.x) a (by omega) W hU (by omega)
  have e1 : (encZ 3 (pcs ((withC l i q.x).take a)) (P : Int) == 0) = true := by rw [pcs_take, pcs_withC]; exact f1
  have e2 : (encZ 3 (pcs (rightC 3 (withC l i q.x) a)) (P : Int) == 0) = true := by rw [pcs_rightC, pcs_withC]; exact f2
  have e3 : (encZ 3 (pcs (withC l i q.x)) (P : Int) == 0) = false := by rw [pcs_withC]; exact hw
  have HF1 := Lib.hid (fun U W hU => e1 ▸ hF U ((withC l i q.x).take a) (by rw [List.length_take]; omega) W hU)
  have HF2 := Lib.hid (fun U W hU => e2 ▸ hF U (rightC 3 (withC l i q.x) a) (by rw [rightC_length]; omega) W hU)
  have HF3 := Lib.hid (fun U W hU => e3 ▸ hF U (withC l i q.x) (by omega) W hU)
  have HH := Lib.hid hH
  have HR := Lib.hid hR
  have HWL := Lib.hid hwl
  have HMD : Hid (withC l i q.x = l.take i ++ [q.x] ++ l.drop i) := Lib.hid rfl
  clear hH hR hF e1 e2 e3 f1 f2 hz he hw hb an hwl hp
  obtain ⟨K, at_, x, kv, okey⟩ := q
  simp only at hq hx hkr HF1 HF2 HF3 HH HR HWL HMD ⊢
  subst hq
  obtain ⟨n, hnn⟩ : ∃ n, l.length = n := ⟨_, rfl⟩
  have HNN := Lib.hid hnn
  have hl0 := hl
  have HX := Lib.hid hx
  obtain ⟨D, cd, rfl, -⟩ := hkr.form
  obtain ⟨xA, xa, xB, xb, key, ck, val, pg, ct, rfl, -, -⟩ := CV.form hx
  generalize withC l i _ = M at *
  obtain ⟨A, c, rfl, hm, hc⟩ := hl.slice
  obtain ⟨A1, c1, hs1, hr1⟩ := hl.run_h i hi
  obtain ⟨A3, c3, hs3, hr3⟩ := hl.run_l i hi
  rw [hnn] at hs1 hs3 hr3 han hi hl0 HWL hn
  have HL0 := Lib.hid hl0
  have HR1 := Lib.hid hr1
  have HR3 := Lib.hid hr3
  have hti : (l.take i).length = i := by rw [List.length_take]; omega
  have HTI := Lib.hid hti
  have hdi : (l.drop i).length = n - i := by rw [List.length_drop]; omega
  have HDI := Lib.hid hdi
  have hS := (((Sep.start w).alloc 45 [.int .i64 K, .int .i64 (i : Int), .slice xA key.length xa, .int .i64 ck, .slice xB val.length xb, .int .i64 pg, .int .i64 ct, .slice D okey.length cd])).nilC
  clear hl hc hx hkr hl0 hr1 hr3 hti hdi hm
  rw [hnn]
  clear hnn
  unfold opV
  simp only
  go_enter Tryz.func18, Tryz.ntmps18
  go_upto_region 4 with (fail)
  generalize hW : w.alloc (.cells #[.int .i64 K, .int .i64 (i : Int), .slice xA key.length xa, .int .i64 ck, .slice xB val.length xb, .int .i64 pg, .int .i64 ct, .slice D okey.length cd] 45) = w1 at *
  generalize w.heap.size = b1 at *
  clear hW
  obtain ⟨c0, c1', c2, c3', c4, c5, c6, c7⟩ := cells8 hS.tail.blk
  have hO1 := (show Own w1 0 43 5 (.slice none 0 0) ([] : List CV).length (flatC []) from hS.head)
  have hr1 := (hS.rdC8 (v := w) (by simp) HR1.out).form
  have hf1 := flatC_one HR1.out.ok
  go_upto_region 5 with (first
    | (at_builtin; refine wp_append_C rfl (.tmp 27) (.tmp 31) rfl 0 (.slice none 0 0) [] rfl hO1 (.slice A1 i c1) (l.take i) rfl hr1 hf1 (by rw [HTI.out]; simp only [List.length_nil]; omega) (Nat.zero_le _) ?_; intro v3 w3 ho3 hg3 hk3; rw [List.nil_append] at ho3)
    | fail)
  have hS3 := hS.appC ho3 hg3 (by rcases hk3 with e | e; exact .inl e; exact .inr ⟨_, e, Nat.le_refl _⟩)
  obtain ⟨R, rc, rfl⟩ := Own.slice ho3
  rw [HTI.out] at hS3
  rw [HTI.out]
  clear hS hO1 hr1 hf1 ho3 hg3 hk3 c0 c1' c2 c3' c4 c5 c6 c7
  obtain ⟨c0, c1', c2, c3', c4, c5, c6, c7⟩ := cells8 hS3.tail.blk
  have hS4 := hS3.alloc 43 [.slice xA key.length xa, .int .i64 ck, .slice xB val.length xb, .int .i64 pg, .int .i64 ct]
  have hown2 := (show Own _ 0 43 5 (.slice R i rc) i (flatC (l.take i)) from hS4.tail.head)
  have hfive := Rd.five w3 (.slice xA key.length xa) (.int .i64 ck) (.slice xB val.length xb) (.int .i64 pg) (.int .i64 ct) 43
  have hone := flatC_one (l := [⟨.slice xA key.length xa, .slice xB val.length xb, ⟨key, ck, val, pg, ct⟩⟩]) (fun x hx => by obtain rfl := List.mem_singleton.1 hx; exact HX.out)
  go_upto_region 6 with (first
    | (at_builtin; refine wp_append_C rfl (.tmp 33) (.tmp 36) rfl 0 (.slice R i rc) (l.take i) rfl (by rw [HTI.out]; exact hown2) (.slice (some ⟨w3.heap.size, 0, none⟩) 1 1) [⟨.slice xA key.length xa, .slice xB val.length xb, ⟨key, ck, val, pg, ct⟩⟩] rfl hfive hone (by rw [HTI.out]; simp only [List.length_singleton]; omega) (Nat.zero_le _) ?_; intro v5 w5 ho5 hg5 hk5)
    | fail)
  have hS5 := (Sep.pick (L := [_, _, _, _]) [1, 2, 3] (by decide) rfl hS4).appC ho5 hg5 (by rcases hk5 with e | e; exact .inl e; exact .inr ⟨_, e, Nat.le_refl _⟩)
  obtain ⟨R2, rc2, rfl⟩ := Own.slice ho5
  have hm1 : (l.take i ++ [(⟨.slice xA key.length xa, .slice xB val.length xb, ⟨key, ck, val, pg, ct⟩⟩ : CV)]).length = i + 1 := by rw [List.length_append, HTI.out]; rfl
  rw [hm1] at hS5
  rw [hm1]
  have HOK1 : Hid (∀ y ∈ l.take i ++ [(⟨.slice xA key.length xa, .slice xB val.length xb, ⟨key, ck, val, pg, ct⟩⟩ : CV)] ++ l.drop i, y.ok w) := Lib.hid (fun y hy => by
    rcases List.mem_append.1 hy with hy | hy
    · rcases List.mem_append.1 hy with hy | hy
      · exact HR1.out.ok y hy
      · obtain rfl := List.mem_singleton.1 hy; exact HX.out
    · exact HR3.out.ok y hy)
  generalize (l.take i ++ [(⟨.slice xA key.length xa, .slice xB val.length xb, ⟨key, ck, val, pg, ct⟩⟩ : CV)]) = M1 at *
  have HM1 := Lib.hid hm1
  clear hS3 hS4 hown2 hfive hone ho5 hg5 hk5 c0 c1' c2 c3' c4 c5 c6 c7 hm1
  obtain ⟨c0, c1', c2, c3', c4, c5, c6, c7⟩ := cells8 hS5.tail.blk
  have hown3 := (show Own _ 0 43 5 (.slice R2 (i + 1) rc2) (i + 1) (flatC M1) from hS5.head)
  have hr3 := (hS5.rdC8 (v := w) (by simp) HR3.out).form
  have hf3 := flatC_one HR3.out.ok
  go_upto_region 7 with (first
    | (at_builtin; refine wp_append_C rfl (.tmp 38) (.tmp 42) rfl 0 (.slice R2 (i + 1) rc2) M1 rfl (by rw [HM1.out]; exact hown3) (.slice A3 (n - i) c3) (l.drop i) rfl (by rw [HDI.out] at hr3 ⊢; exact hr3) hf3 (by rw [HM1.out, HDI.out]; omega) (Nat.zero_le _) ?_; intro v7 w7 ho7 hg7 hk7; rw [← HMD.out] at ho7)
    | fail)
  have hS7 := hS5.appC ho7 hg7 (by rcases hk7 with e | e; exact .inl e; exact .inr ⟨_, e, Nat.le_refl _⟩)
  obtain ⟨R3, rc3, rfl⟩ := Own.slice ho7
  rw [HWL.out]
  rw [HWL.out] at hS7
  have hMr : RdCs w7 (.slice R3 (n + 1) rc3) M := ⟨by have := Own.rd ho7; rw [HWL.out] at this ⊢; exact this, fun y hy => hS7.ok8 (v := w) (by simp) (HOK1.out y (by rw [← HMD.out]; exact hy))⟩
  have hB7 := hS7.belowOld (_v := w) (by simp)
  have HMR := Lib.hid hMr
  obtain ⟨A4, c4', hs4, hr4⟩ := hMr.run_h a (by rw [HWL.out]; omega)
  have HR4 := Lib.hid hr4
  have hh := HH.out _ w7 hMr
  have HB7 := Lib.hid hB7
  have j1 : (2 : Int) ≤ (a : Int) := by omega
  have j2 : (a : Int) + 2 ≤ ((n + 1 : Nat) : Int) := by omega
  have j3 : IntKind.i64.wrap ((a : Int) + 2) = (a : Int) + 2 := by rw [IntKind.wrap_i64]; omega
  clear hS5 hS7 hown3 hr3 hf3 ho7 hg7 hk7 c0 c1' c2 c3' c4 c5 c6 c7 hMr hr4 hB7 hs1 hs3
  go_upto_region 10 with (first
    | (go_at_call 28; (with_reducible refine hh.mono ?_); rintro e w8 ⟨rfl, hw8⟩)
    | fail)
  have hB8 := HB7.out.trans (hw8.mono HB7.out.size)
  have HB8 := Lib.hid hB8
  have hMr8 := HMR.out.below hw8
  have HMR8 := Lib.hid hMr8
  have hF1 := HF1.out _ w8 (HR4.out.below hw8)
  clear hh hw8 hB8 hMr8
  go_upto_region 11 with (first
    | (go_at_call 26; (with_reducible refine hF1.mono ?_); rintro e w9 ⟨rfl, hw9⟩)
    | fail)
  have hB9 := HB8.out.trans (hw9.mono HB8.out.size)
  have HB9 := Lib.hid hB9
  have hMr9 := HMR8.out.below hw9
  have HMR9 := Lib.hid hMr9
  have hRR := HR.out _ w9 hMr9
  clear hF1 hw9 hB9 hMr9
  go_upto_region 12 with (first
    | (go_at_call 59; (with_reducible refine hRR.mono ?_); rintro e w10 ⟨Ar, cr, rfl, hS10⟩; have hw10 := hS10.belowOld (_v := w9) (by simp); have hM10 := HMR9.out.below hw10; have hF2 := HF2.out _ w10 (rightC_rd hS10.head hM10))
    | (go_at_call 26; (with_reducible refine hF2.mono ?_); rintro e w11 ⟨rfl, hw11⟩)
    | fail)
  have hB10 := HB9.out.trans (hw10.mono HB9.out.size)
  have hB11 := hB10.trans (hw11.mono hB10.size)
  have HB11 := Lib.hid hB11
  have hF3 := HF3.out _ w11 (hM10.below hw11)
  clear hRR hS10 hw10 hM10 hF2 hw11 hB10 hB11
  go_wp2_with (first
    | (go_at_call 26; (with_reducible refine hF3.mono ?_); rintro e w12 ⟨rfl, hw12⟩)
    | fail)
  go_ret
  exact ⟨rfl, HB11.out.trans (hw12.mono HB11.out.size)⟩
set_option maxRecDepth 100000 in
set_option maxHeartbeats 16000000 in
theorem Halves_2_2 (P : Nat) (hp : isPowB (P : Int) = true) (v : Value) (l : List CV) (q : OpX) (i : Nat) (hq : q.at_ = (i : Int)) (hi : i ≤ l.length) (w : World) (hl : RdCs w v l) (hx : q.x.ok w) (hkr : RdB w q.kv q.key) (hn : l.length ≤ 1000000) (hb : bigK (withF (pcs l) i 0 q.x.c) ≤ 1000000000000000000)
    (hw : fitN2 2 P (withF (pcs l) i 0 q.x.c) = false) (he : ∃ k, 2 ≤ k ∧ k + 2 ≤ (withF (pcs l) i 0 q.x.c).length ∧ fitN2 2 P ((withF (pcs l) i 0 q.x.c).take k) = true ∧ fitN2 2 P (rightF 2 (withF (pcs l) i 0 q.x.c) k) = true) :
    Calls Tryz.prog 18 #[.int .i64 2, .int .i64 2, .int .i64 (P : Int), v, opV q] w fun e w' => e = .returned (.bool true) ∧ Below w.heap.size w w' := by
  have hf := half_found (szN2 2) (fitN2 2 P) 2 (withF (pcs l) i 0 q.x.c) (P := P) (fun x hx => ((fit2_iff (by decide) hp).1 hx).2) he
  have hH := fun (U : Value) (W : World) (hU : RdCs W U (withC l i q.x)) => NdHalf_2_2 U (withC l i q.x) P hp W hU (by rw [withC_length l hi]; omega) (by rw [pcs_withC]; exact hb)
  have hr := isPowB_range hp
  rw [pcs_withC] at hH
  obtain ⟨a2, an, f1, f2, hz⟩ := hf
  rw [hz] at hH
  generalize halfA (szN2 2) (fitN2 2 P) 2 (withF (pcs l) i 0 q.x.c) P = a at *
  have han : a + 2 ≤ l.length + 1 := by rw [withF_length (pcs l) q.x.c (by rw [pcs_length]; exact hi), pcs_length] at an; exact an
  have hwl := withC_length l hi q.x
  have hF := fun (U : Value) (M : List CV) (hM : M.length ≤ 1000001) (W : World) (hU : RdCs W U M) => NdFit_2 2 U M (P : Int) (by unfold i64r; omega) W hU (by omega)
  have hR := fun (U : Value) (W : World) (hU : RdCs W U (withC l i q.x)) => Right_2 U (withC l i q.x) a (by omega) W hU (by omega)
  have e1 : (encKZ 2 (pcs ((withC l i q.x).take a)) (P : Int) == 0) = true := by rw [pcs_take, pcs_withC]; exact f1
  have e2 : (encKZ 2 (pcs (rightC 2 (withC l i q.x) a)) (P : Int) == 0) = true := by rw [pcs_rightC, pcs_withC]; exact f2
  have e3 : (encKZ 2 (pcs (withC l i q.x)) (P : Int) == 0) = false := by rw [pcs_withC]; exact hw
  have HF1 := Lib.hid (fun U W hU => e1 ▸ hF U ((withC l i q.x).take a) (by rw [List.length_take]; omega) W hU)
  have HF2 := Lib.hid (fun U W hU => e2 ▸ hF U (rightC 2 (withC l i q.x) a) (by rw [rightC_length]; omega) W hU)
  have HF3 := Lib.hid (fun U W hU => e3 ▸ hF U (withC l i q.x) (by omega) W hU)
  have HH := Lib.hid hH
  have HR := Lib.hid hR
  have HWL := Lib.hid hwl
  have HMD : Hid (withC l i q.x = l.take i ++ [q.x] ++ l.drop i) := Lib.hid rfl
  clear hH hR hF e1 e2 e3 f1 f2 hz he hw hb an hwl hp
  obtain ⟨K, at_, x, kv, okey⟩ := q
  simp only at hq hx hkr HF1 HF2 HF3 HH HR HWL HMD ⊢
  subst hq
  obtain ⟨n, hnn⟩ : ∃ n, l.length = n := ⟨_, rfl⟩
  have HNN := Lib.hid hnn
  have hl0 := hl
  have HX := Lib.hid hx
  obtain ⟨D, cd, rfl, -⟩ := hkr.form
  obtain ⟨xA, xa, xB, xb, key, ck, val, pg, ct, rfl, -, -⟩ := CV.form hx
  generalize withC l i _ = M at *
  obtain ⟨A, c, rfl, hm, hc⟩ := hl.slice
  obtain ⟨A1, c1, hs1, hr1⟩ := hl.run_h i hi
  obtain ⟨A3, c3, hs3, hr3⟩ := hl.run_l i hi
  rw [hnn] at hs1 hs3 hr3 han hi hl0 HWL hn
  have HL0 := Lib.hid hl0
  have HR1 := Lib.hid hr1
  have HR3 := Lib.hid hr3
  have hti : (l.take i).length = i := by rw [List.length_take]; omega
  have HTI := Lib.hid hti
  have hdi : (l.drop i).length = n - i := by rw [List.length_drop]; omega
  have HDI := Lib.hid hdi
  have hS := (((Sep.start w).alloc 45 [.int .i64 K, .int .i64 (i : Int), .slice xA key.length xa, .int .i64 ck, .slice xB val.length xb, .int .i64 pg, .int .i64 ct, .slice D okey.length cd])).nilC
  clear hl hc hx hkr hl0 hr1 hr3 hti hdi hm
  rw [hnn]
  clear hnn
  unfold opV
  simp only
  go_enter Tryz.func18, Tryz.ntmps18
  go_upto_region 4 with (fail)
  generalize hW : w.alloc (.cells #[.int .i64 K, .int .i64 (i : Int), .slice xA key.length xa, .int .i64 ck, .slice xB val.length xb, .int .i64 pg, .int .i64 ct, .slice D okey.length cd] 45) = w1 at *
  generalize w.heap.size = b1 at *
  clear hW
  obtain ⟨c0, c1', c2, c3', c4, c5, c6, c7⟩ := cells8 hS.tail.blk
  have hO1 := (show Own w1 0 43 5 (.slice none 0 0) ([] : List CV).length (flatC []) from hS.head)
  have hr1 := (hS.rdC8 (v := w) (by simp) HR1.out).form
  have hf1 := flatC_one HR1.out.ok
  go_upto_region 5 with (first
    | (at_builtin; refine wp_append_C rfl (.tmp 27) (.tmp 31) rfl 0 (.slice none 0 0) [] rfl hO1 (.slice A1 i c1) (l.take i) rfl hr1 hf1 (by rw [HTI.out]; simp only [List.length_nil]; omega) (Nat.zero_le _) ?_; intro v3 w3 ho3 hg3 hk3; rw [List.nil_append] at ho3)
    | fail)
  have hS3 := hS.appC ho3 hg3 (by rcases hk3 with e | e; exact .inl e; exact .inr ⟨_, e, Nat.le_refl _⟩)
  obtain ⟨R, rc, rfl⟩ := Own.slice ho3
  rw [HTI.out] at hS3
  rw [HTI.out]
  clear hS hO1 hr1 hf1 ho3 hg3 hk3 c0 c1' c2 c3' c4 c5 c6 c7
  obtain ⟨c0, c1', c2, c3', c4, c5, c6, c7⟩ := cells8 hS3.tail.blk
  have hS4 := hS3.alloc 43 [.slice xA key.length xa, .int .i64 ck, .slice xB val.length xb, .int .i64 pg, .int .i64 ct]
  have hown2 := (show Own _ 0 43 5 (.slice R i rc) i (flatC (l.take i)) from hS4.tail.head)
  have hfive := Rd.five w3 (.slice xA key.length xa) (.int .i64 ck) (.slice xB val.length xb) (.int .i64 pg) (.int .i64 ct) 43
  have hone := flatC_one (l := [⟨.slice xA key.length xa, .slice xB val.length xb, ⟨key, ck, val, pg, ct⟩⟩]) (fun x hx => by obtain rfl := List.mem_singleton.1 hx; exact HX.out)
  go_upto_region 6 with (first
    | (at_builtin; refine wp_append_C rfl (.tmp 33) (.tmp 36) rfl 0 (.slice R i rc) (l.take i) rfl (by rw [HTI.out]; exact hown2) (.slice (some ⟨w3.heap.size, 0, none⟩) 1 1) [⟨.slice xA key.length xa, .slice xB val.length xb, ⟨key, ck, val, pg, ct⟩⟩] rfl hfive hone (by rw [HTI.out]; simp only [List.length_singleton]; omega) (Nat.zero_le _) ?_; intro v5 w5 ho5 hg5 hk5)
    | fail)
  have hS5 := (Sep.pick (L := [_, _, _, _]) [1, 2, 3] (by decide) rfl hS4).appC ho5 hg5 (by rcases hk5 with e | e; exact .inl e; exact .inr ⟨_, e, Nat.le_refl _⟩)
  obtain ⟨R2, rc2, rfl⟩ := Own.slice ho5
  have hm1 : (l.take i ++ [(⟨.slice xA key.length xa, .slice xB val.length xb, ⟨key, ck, val, pg, ct⟩⟩ : CV)]).length = i + 1 := by rw [List.length_append, HTI.out]; rfl
  rw [hm1] at hS5
  rw [hm1]
  have HOK1 : Hid (∀ y ∈ l.take i ++ [(⟨.slice xA key.length xa, .slice xB val.length xb, ⟨key, ck, val, pg, ct⟩⟩ : CV)] ++ l.drop i, y.ok w) := Lib.hid (fun y hy => by
    rcases List.mem_append.1 hy with hy | hy
    · rcases List.mem_append.1 hy with hy | hy
      · exact HR1.out.ok y hy
      · obtain rfl := List.mem_singleton.1 hy; exact HX.out
    · exact HR3.out.ok y hy)
  generalize (l.take i ++ [(⟨.slice xA key.length xa, .slice xB val.length xb, ⟨key, ck, val, pg, ct⟩⟩ : CV)]) = M1 at *
  have HM1 := Lib.hid hm1
  clear hS3 hS4 hown2 hfive hone ho5 hg5 hk5 c0 c1' c2 c3' c4 c5 c6 c7 hm1
  obtain ⟨c0, c1', c2, c3', c4, c5, c6, c7⟩ := cells8 hS5.tail.blk
  have hown3 := (show Own _ 0 43 5 (.slice R2 (i + 1) rc2) (i + 1) (flatC M1) from hS5.head)
  have hr3 := (hS5.rdC8 (v := w) (by simp) HR3.out).form
  have hf3 := flatC_one HR3.out.ok
  go_upto_region 7 with (first
    | (at_builtin; refine wp_append_C rfl (.tmp 38) (.tmp 42) rfl 0 (.slice R2 (i + 1) rc2) M1 rfl (by rw [HM1.out]; exact hown3) (.slice A3 (n - i) c3) (l.drop i) rfl (by rw [HDI.out] at hr3 ⊢; exact hr3) hf3 (by rw [HM1.out, HDI.out]; omega) (Nat.zero_le _) ?_; intro v7 w7 ho7 hg7 hk7; rw [← HMD.out] at ho7)
    | fail)
  have hS7 := hS5.appC ho7 hg7 (by rcases hk7 with e | e; exact .inl e; exact .inr ⟨_, e, Nat.le_refl _⟩)
  obtain ⟨R3, rc3, rfl⟩ := Own.slice ho7
  rw [HWL.out]
  rw [HWL.out] at hS7
  have hMr : RdCs w7 (.slice R3 (n + 1) rc3) M := ⟨by have := Own.rd ho7; rw [HWL.out] at this ⊢; exact this, fun y hy => hS7.ok8 (v := w) (by simp) (HOK1.out y (by rw [← HMD.out]; exact hy))⟩
  have hB7 := hS7.belowOld (_v := w) (by simp)
  have HMR := Lib.hid hMr
  obtain ⟨A4, c4', hs4, hr4⟩ := hMr.run_h a (by rw [HWL.out]; omega)
  have HR4 := Lib.hid hr4
  have hh := HH.out _ w7 hMr
  have HB7 := Lib.hid hB7
  have j1 : (2 : Int) ≤ (a : Int) := by omega
  have j2 : (a : Int) + 2 ≤ ((n + 1 : Nat) : Int) := by omega
  have j3 : IntKind.i64.wrap ((a : Int) + 2) = (a : Int) + 2 := by rw [IntKind.wrap_i64]; omega
  clear hS5 hS7 hown3 hr3 hf3 ho7 hg7 hk7 c0 c1' c2 c3' c4 c5 c6 c7 hMr hr4 hB7 hs1 hs3
  go_upto_region 10 with (first
    | (go_at_call 28; (with_reducible refine hh.mono ?_); rintro e w8 ⟨rfl, hw8⟩)
    | fail)
  have hB8 := HB7.out.trans (hw8.mono HB7.out.size)
  have HB8 := Lib.hid hB8
  have hMr8 := HMR.out.below hw8
  have HMR8 := Lib.hid hMr8
  have hF1 := HF1.out _ w8 (HR4.out.below hw8)
  clear hh hw8 hB8 hMr8
  go_upto_region 11 with (first
    | (go_at_call 26; (with_reducible refine hF1.mono ?_); rintro e w9 ⟨rfl, hw9⟩)
    | fail)
  have hB9 := HB8.out.trans (hw9.mono HB8.out.size)
  have HB9 := Lib.hid hB9
  have hMr9 := HMR8.out.below hw9
  have HMR9 := Lib.hid hMr9
  have hRR := HR.out _ w9 hMr9
  clear hF1 hw9 hB9 hMr9
  go_upto_region 12 with (first
    | (go_at_call 59; (with_reducible refine hRR.mono ?_); rintro e w10 ⟨Ar, cr, rfl, hS10⟩; have hw10 := hS10.belowOld (_v := w9) (by simp); have hM10 := HMR9.out.below hw10; have hF2 := HF2.out _ w10 (rightC_rd hS10.head hM10))
    | (go_at_call 26; (with_reducible refine hF2.mono ?_); rintro e w11 ⟨rfl, hw11⟩)
    | fail)
  have hB10 := HB9.out.trans (hw10.mono HB9.out.size)
  have hB11 := hB10.trans (hw11.mono hB10.size)
  have HB11 := Lib.hid hB11
  have hF3 := HF3.out _ w11 (hM10.below hw11)
  clear hRR hS10 hw10 hM10 hF2 hw11 hB10 hB11
  go_wp2_with (first
    | (go_at_call 26; (with_reducible refine hF3.mono ?_); rintro e w12 ⟨rfl, hw12⟩)
    | fail)
  go_ret
  exact ⟨rfl, HB11.out.trans (hw12.mono HB11.out.size)⟩
set_option maxRecDepth 100000 in
set_option maxHeartbeats 16000000 in
theorem Halves_2_3 (P : Nat) (hp : isPowB (P : Int) = true) (v : Value) (l : List CV) (q : OpX) (i : Nat) (hq : q.at_ = (i : Int)) (hi : i ≤ l.length) (w : World) (hl : RdCs w v l) (hx : q.x.ok w) (hkr : RdB w q.kv q.key) (hn : l.length ≤ 1000000) (hb : bigK (withF (pcs l) i 0 q.x.c) ≤ 1000000000000000000)
    (hw : fitN2 3 P (withF (pcs l) i 0 q.x.c) = false) (he : ∃ k, 2 ≤ k ∧ k + 2 ≤ (withF (pcs l) i 0 q.x.c).length ∧ fitN2 3 P ((withF (pcs l) i 0 q.x.c).take k) = true ∧ fitN2 3 P (rightF 3 (withF (pcs l) i 0 q.x.c) k) = true) :
    Calls Tryz.prog 18 #[.int .i64 2, .int .i64 3, .int .i64 (P : Int), v, opV q] w fun e w' => e = .returned (.bool true) ∧ Below w.heap.size w w' := by
  have hf := half_found (szN2 3) (fitN2 3 P) 3 (withF (pcs l) i 0 q.x.c) (P := P) (fun x hx => ((fit2_iff (by decide) hp).1 hx).2) he
  have hH := fun (U : Value) (W : World) (hU : RdCs W U (withC l i q.x)) => NdHalf_2_3 U (withC l i q.x) P hp W hU (by rw [withC_length l hi]; omega) (by rw [pcs_withC]; exact hb)
  have hr := isPowB_range hp
  rw [pcs_withC] at hH
  obtain ⟨a2, an, f1, f2, hz⟩ := hf
  rw [hz] at hH
  generalize halfA (szN2 3) (fitN2 3 P) 3 (withF (pcs l) i 0 q.x.c) P = a at *
  have han : a + 2 ≤ l.length + 1 := by rw [withF_length (pcs l) q.x.c (by rw [pcs_length]; exact hi), pcs_length] at an; exact an
  have hwl := withC_length l hi q.x
  have hF := fun (U : Value) (M : List CV) (hM : M.length ≤ 1000001) (W : World) (hU : RdCs W U M) => NdFit_2 3 U M (P : Int) (by unfold i64r; omega) W hU (by omega)
  have hR := fun (U : Value) (W : World) (hU : RdCs W U (withC l i q.x)) => Right_3 U (withC l i q.x) a (by omega) W hU (by omega)
  have e1 : (encKZ 3 (pcs ((withC l i q.x).take a)) (P : Int) == 0) = true := by rw [pcs_take, pcs_withC]; exact f1
  have e2 : (encKZ 3 (pcs (rightC 3 (withC l i q.x) a)) (P : Int) == 0) = true := by rw [pcs_rightC, pcs_withC]; exact f2
  have e3 : (encKZ 3 (pcs (withC l i q.x)) (P : Int) == 0) = false := by rw [pcs_withC]; exact hw
  have HF1 := Lib.hid (fun U W hU => e1 ▸ hF U ((withC l i q.x).take a) (by rw [List.length_take]; omega) W hU)
  have HF2 := Lib.hid (fun U W hU => e2 ▸ hF U (rightC 3 (withC l i q.x) a) (by rw [rightC_length]; omega) W hU)
  have HF3 := Lib.hid (fun U W hU => e3 ▸ hF U (withC l i q.x) (by omega) W hU)
  have HH := Lib.hid hH
  have HR := Lib.hid hR
  have HWL := Lib.hid hwl
  have HMD : Hid (withC l i q.x = l.take i ++ [q.x] ++ l.drop i) := Lib.hid rfl
  clear hH hR hF e1 e2 e3 f1 f2 hz he hw hb an hwl hp
  obtain ⟨K, at_, x, kv, okey⟩ := q
  simp only at hq hx hkr HF1 HF2 HF3 HH HR HWL HMD ⊢
  subst hq
  obtain ⟨n, hnn⟩ : ∃ n, l.length = n := ⟨_, rfl⟩
  have HNN := Lib.hid hnn
  have hl0 := hl
  have HX := Lib.hid hx
  obtain ⟨D, cd, rfl, -⟩ := hkr.form
  obtain ⟨xA, xa, xB, xb, key, ck, val, pg, ct, rfl, -, -⟩ := CV.form hx
  generalize withC l i _ = M at *
  obtain ⟨A, c, rfl, hm, hc⟩ := hl.slice
  obtain ⟨A1, c1, hs1, hr1⟩ := hl.run_h i hi
  obtain ⟨A3, c3, hs3, hr3⟩ := hl.run_l i hi
  rw [hnn] at hs1 hs3 hr3 han hi hl0 HWL hn
  have HL0 := Lib.hid hl0
  have HR1 := Lib.hid hr1
  have HR3 := Lib.hid hr3
  have hti : (l.take i).length = i := by rw [List.length_take]; omega
  have HTI := Lib.hid hti
  have hdi : (l.drop i).length = n - i := by rw [List.length_drop]; omega
  have HDI := Lib.hid hdi
  have hS := (((Sep.start w).alloc 45 [.int .i64 K, .int .i64 (i : Int), .slice xA key.length xa, .int .i64 ck, .slice xB val.length xb, .int .i64 pg, .int .i64 ct, .slice D okey.length cd])).nilC
  clear hl hc hx hkr hl0 hr1 hr3 hti hdi hm
  rw [hnn]
  clear hnn
  unfold opV
  simp only
  go_enter Tryz.func18, Tryz.ntmps18
  go_upto_region 4 with (fail)
  generalize hW : w.alloc (.cells #[.int .i64 K, .int .i64 (i : Int), .slice xA key.length xa, .int .i64 ck, .slice xB val.length xb, .int .i64 pg, .int .i64 ct, .slice D okey.length cd] 45) = w1 at *
  generalize w.heap.size = b1 at *
  clear hW
  obtain ⟨c0, c1', c2, c3', c4, c5, c6, c7⟩ := cells8 hS.tail.blk
  have hO1 := (show Own w1 0 43 5 (.slice none 0 0) ([] : List CV).length (flatC []) from hS.head)
  have hr1 := (hS.rdC8 (v := w) (by simp) HR1.out).form
  have hf1 := flatC_one HR1.out.ok
  go_upto_region 5 with (first
    | (at_builtin; refine wp_append_C rfl (.tmp 27) (.tmp 31) rfl 0 (.slice none 0 0) [] rfl hO1 (.slice A1 i c1) (l.take i) rfl hr1 hf1 (by rw [HTI.out]; simp only [List.length_nil]; omega) (Nat.zero_le _) ?_; intro v3 w3 ho3 hg3 hk3; rw [List.nil_append] at ho3)
    | fail)
  have hS3 := hS.appC ho3 hg3 (by rcases hk3 with e | e; exact .inl e; exact .inr ⟨_, e, Nat.le_refl _⟩)
  obtain ⟨R, rc, rfl⟩ := Own.slice ho3
  rw [HTI.out] at hS3
  rw [HTI.out]
  clear hS hO1 hr1 hf1 ho3 hg3 hk3 c0 c1' c2 c3' c4 c5 c6 c7
  obtain ⟨c0, c1', c2, c3', c4, c5, c6, c7⟩ := cells8 hS3.tail.blk
  have hS4 := hS3.alloc 43 [.slice xA key.length xa, .int .i64 ck, .slice xB val.length xb, .int .i64 pg, .int .i64 ct]
  have hown2 := (show Own _ 0 43 5 (.slice R i rc) i (flatC (l.take i)) from hS4.tail.head)
  have hfive := Rd.five w3 (.slice xA key.length xa) (.int .i64 ck) (.slice xB val.length xb) (.int .i64 pg) (.int .i64 ct) 43
  have hone := flatC_one (l := [⟨.slice xA key.length xa, .slice xB val.length xb, ⟨key, ck, val, pg, ct⟩⟩]) (fun x hx => by obtain rfl := List.mem_singleton.1 hx; exact HX.out)
  go_upto_region 6 with (first
    | (at_builtin; refine wp_append_C rfl (.tmp 33) (.tmp 36) rfl 0 (.slice R i rc) (l.take i) rfl (by rw [HTI.out]; exact hown2) (.slice (some ⟨w3.heap.size, 0, none⟩) 1 1) [⟨.slice xA key.length xa, .slice xB val.length xb, ⟨key, ck, val, pg, ct⟩⟩] rfl hfive hone (by rw [HTI.out]; simp only [List.length_singleton]; omega) (Nat.zero_le _) ?_; intro v5 w5 ho5 hg5 hk5)
    | fail)
  have hS5 := (Sep.pick (L := [_, _, _, _]) [1, 2, 3] (by decide) rfl hS4).appC ho5 hg5 (by rcases hk5 with e | e; exact .inl e; exact .inr ⟨_, e, Nat.le_refl _⟩)
  obtain ⟨R2, rc2, rfl⟩ := Own.slice ho5
  have hm1 : (l.take i ++ [(⟨.slice xA key.length xa, .slice xB val.length xb, ⟨key, ck, val, pg, ct⟩⟩ : CV)]).length = i + 1 := by rw [List.length_append, HTI.out]; rfl
  rw [hm1] at hS5
  rw [hm1]
  have HOK1 : Hid (∀ y ∈ l.take i ++ [(⟨.slice xA key.length xa, .slice xB val.length xb, ⟨key, ck, val, pg, ct⟩⟩ : CV)] ++ l.drop i, y.ok w) := Lib.hid (fun y hy => by
    rcases List.mem_append.1 hy with hy | hy
    · rcases List.mem_append.1 hy with hy | hy
      · exact HR1.out.ok y hy
      · obtain rfl := List.mem_singleton.1 hy; exact HX.out
    · exact HR3.out.ok y hy)
  generalize (l.take i ++ [(⟨.slice xA key.length xa, .slice xB val.length xb, ⟨key, ck, val, pg, ct⟩⟩ : CV)]) = M1 at *
  have HM1 := Lib.hid hm1
  clear hS3 hS4 hown2 hfive hone ho5 hg5 hk5 c0 c1' c2 c3' c4 c5 c6 c7 hm1
  obtain ⟨c0, c1', c2, c3', c4, c5, c6, c7⟩ := cells8 hS5.tail.blk
  have hown3 := (show Own _ 0 43 5 (.slice R2 (i + 1) rc2) (i + 1) (flatC M1) from hS5.head)
  have hr3 := (hS5.rdC8 (v := w) (by simp) HR3.out).form
  have hf3 := flatC_one HR3.out.ok
  go_upto_region 7 with (first
    | (at_builtin; refine wp_append_C rfl (.tmp 38) (.tmp 42) rfl 0 (.slice R2 (i + 1) rc2) M1 rfl (by rw [HM1.out]; exact hown3) (.slice A3 (n - i) c3) (l.drop i) rfl (by rw [HDI.out] at hr3 ⊢; exact hr3) hf3 (by rw [HM1.out, HDI.out]; omega) (Nat.zero_le _) ?_; intro v7 w7 ho7 hg7 hk7; rw [← HMD.out] at ho7)
    | fail)
  have hS7 := hS5.appC ho7 hg7 (by rcases hk7 with e | e; exact .inl e; exact .inr ⟨_, e, Nat.le_refl _⟩)
  obtain ⟨R3, rc3, rfl⟩ := Own.slice ho7
  rw [HWL.out]
  rw [HWL.out] at hS7
  have hMr : RdCs w7 (.slice R3 (n + 1) rc3) M := ⟨by have := Own.rd ho7; rw [HWL.out] at this ⊢; exact this, fun y hy => hS7.ok8 (v := w) (by simp) (HOK1.out y (by rw [← HMD.out]; exact hy))⟩
  have hB7 := hS7.belowOld (_v := w) (by simp)
  have HMR := Lib.hid hMr
  obtain ⟨A4, c4', hs4, hr4⟩ := hMr.run_h a (by rw [HWL.out]; omega)
  have HR4 := Lib.hid hr4
  have hh := HH.out _ w7 hMr
  have HB7 := Lib.hid hB7
  have j1 : (2 : Int) ≤ (a : Int) := by omega
  have j2 : (a : Int) + 2 ≤ ((n + 1 : Nat) : Int) := by omega
  have j3 : IntKind.i64.wrap ((a : Int) + 2) = (a : Int) + 2 := by rw [IntKind.wrap_i64]; omega
  clear hS5 hS7 hown3 hr3 hf3 ho7 hg7 hk7 c0 c1' c2 c3' c4 c5 c6 c7 hMr hr4 hB7 hs1 hs3
  go_upto_region 10 with (first
    | (go_at_call 28; (with_reducible refine hh.mono ?_); rintro e w8 ⟨rfl, hw8⟩)
    | fail)
  have hB8 := HB7.out.trans (hw8.mono HB7.out.size)
  have HB8 := Lib.hid hB8
  have hMr8 := HMR.out.below hw8
  have HMR8 := Lib.hid hMr8
  have hF1 := HF1.out _ w8 (HR4.out.below hw8)
  clear hh hw8 hB8 hMr8
  go_upto_region 11 with (first
    | (go_at_call 26; (with_reducible refine hF1.mono ?_); rintro e w9 ⟨rfl, hw9⟩)
    | fail)
  have hB9 := HB8.out.trans (hw9.mono HB8.out.size)
  have HB9 := Lib.hid hB9
  have hMr9 := HMR8.out.below hw9
  have HMR9 := Lib.hid hMr9
  have hRR := HR.out _ w9 hMr9
  clear hF1 hw9 hB9 hMr9
  go_upto_region 12 with (first
    | (go_at_call 59; (with_reducible refine hRR.mono ?_); rintro e w10 ⟨Ar, cr, rfl, hS10⟩; have hw10 := hS10.belowOld (_v := w9) (by simp); have hM10 := HMR9.out.below hw10; have hF2 := HF2.out _ w10 (rightC_rd hS10.head hM10))
    | (go_at_call 26; (with_reducible refine hF2.mono ?_); rintro e w11 ⟨rfl, hw11⟩)
    | fail)
  have hB10 := HB9.out.trans (hw10.mono HB9.out.size)
  have hB11 := hB10.trans (hw11.mono hB10.size)
  have HB11 := Lib.hid hB11
  have hF3 := HF3.out _ w11 (hM10.below hw11)
  clear hRR hS10 hw10 hM10 hF2 hw11 hB10 hB11
  go_wp2_with (first
    | (go_at_call 26; (with_reducible refine hF3.mono ?_); rintro e w12 ⟨rfl, hw12⟩)
    | fail)
  go_ret
  exact ⟨rfl, HB11.out.trans (hw12.mono HB11.out.size)⟩
end Go.Proofs.YtfcnkpofcekmgaaGreat

-- espalierlaw08.halves, called where a call told that there is no room.
namespace Go.Proofs.YtfcnkpofcekmgaaGreat
open Go.RowKit
theorem HalvesC_1 {kind : Int} {P : Nat} {s : KP} (hkd : kind = 2 ∨ kind = 3) (hkb : isKindB kind = true) (hpb : isPowB (P : Int) = true) (hI : NdI1 kind P s) (q : OpX) (hz : insZ1 kind P s q.at_ 0 q.x.c = 61) (m : List CV) (hm : pcs m = s.l) (v : Value) (w : World) (hr : RdCs w v m) (hx : q.x.ok w) (hk : RdB w q.kv q.key) (hn : m.length ≤ 1000000) :
    Calls Tryz.prog 18 #[.int .i64 1, .int .i64 kind, .int .i64 (P : Int), v, opV q] w fun e w' => e = .returned (.bool true) ∧ Below w.heap.size w w' := by
  obtain ⟨h0, h1, h2, h3⟩ := halves_1 hkb hpb hI hz
  obtain ⟨p1, p2, p3⟩ := pow_512 hpb
  have hmay : mayP kind P q.x.c = true := by
    unfold insZ1 insZ putE at hz
    split at hz
    · cases hz
    · exact may_61 hz
  have hln : m.length = s.l.length := by rw [← hm, pcs_length]
  have hi : q.at_.toNat ≤ s.l.length := by omega
  have hbg := halves_big (i := q.at_.toNat) p2 hi (by omega) hI.may hmay
  rw [← hm] at h2 h3 hbg hi
  rw [pcs_length] at hi
  rcases hkd with rfl | rfl
  · exact Halves_1_2 P hpb v m q q.at_.toNat (by omega) hi w hr hx hk hn hbg h2 h3
  · exact Halves_1_3 P hpb v m q q.at_.toNat (by omega) hi w hr hx hk hn hbg h2 h3
theorem HalvesC_2 {kind : Int} {P : Nat} {s : KP} (hkd : kind = 2 ∨ kind = 3) (hkb : isKindB kind = true) (hpb : isPowB (P : Int) = true) (hI : NdI2 kind P s) (q : OpX) (hz : insZ2 kind P s q.at_ 0 q.x.c = 61) (m : List CV) (hm : pcs m = s.l) (v : Value) (w : World) (hr : RdCs w v m) (hx : q.x.ok w) (hk : RdB w q.kv q.key) (hn : m.length ≤ 1000000) :
    Calls Tryz.prog 18 #[.int .i64 2, .int .i64 kind, .int .i64 (P : Int), v, opV q] w fun e w' => e = .returned (.bool true) ∧ Below w.heap.size w w' := by
  obtain ⟨h0, h1, h2, h3⟩ := halves_2 hkb hpb hI hz
  obtain ⟨p1, p2, p3⟩ := pow_512 hpb
  have hmay : mayP kind P q.x.c = true := by
    unfold insZ2 insKZ putK at hz
    split at hz
    · cases hz
    · exact may_61 hz
  have hln : m.length = s.l.length := by rw [← hm, pcs_length]
  have hi : q.at_.toNat ≤ s.l.length := by omega
  have hbg := halves_big (i := q.at_.toNat) p2 hi (by omega) hI.may hmay
  rw [← hm] at h2 h3 hbg hi
  rw [pcs_length] at hi
  rcases hkd with rfl | rfl
  · exact Halves_2_2 P hpb v m q q.at_.toNat (by omega) hi w hr hx hk hn hbg h2 h3
  · exact Halves_2_3 P hpb v m q q.at_.toNat (by omega) hi w hr hx hk hn hbg h2 h3
end Go.Proofs.YtfcnkpofcekmgaaGreat

-- A cell put behind a list that is a piece.
namespace Go.Proofs.YtfcnkpofcekmgaaGreat
open Go.RowKit
theorem Sep.snocC' {w0 w : World} {L : List Ent} {E : Ent} {v : Value} {l : List CV} {y : CV} (h : Sep w0 w (E :: ownE 43 5 v (l ++ [y]).length (flatC (l ++ [y])) :: bytesE y.kv y.c.key :: bytesE y.vv y.c.val :: (cellsE l ++ L))) :
    Sep w0 w (E :: ownE 43 5 v (l ++ [y]).length (flatC (l ++ [y])) :: (cellsE (l ++ [y]) ++ L)) := by
  have e2 : cellsE (l ++ [y]) = cellsE l ++ [bytesE y.kv y.c.key, bytesE y.vv y.c.val] := by rw [cellsE_append]; rfl
  rw [e2, List.append_assoc]
  exact h.perm (List.Perm.cons _ (List.Perm.cons _ (List.perm_append_comm_assoc [bytesE y.kv y.c.key, bytesE y.vv y.c.val] (cellsE l) L)))
end Go.Proofs.YtfcnkpofcekmgaaGreat

-- node.Cells: the walk, for either engine.
namespace Go.Proofs.YtfcnkpofcekmgaaGreat
open Go.RowKit
theorem cellC_in {l : List PC} {k : Nat} (h : k < l.length) : cellC l (k : Int) = l[k] := by
  unfold cellC
  rw [if_neg (by omega), Int.toNat_natCast, List.getD_eq_getElem?_getD, List.getElem?_eq_getElem h]; rfl
theorem cellZ_in {l : List PC} {k : Nat} (h : k < l.length) : cellZ l (k : Int) = 0 := by
  unfold cellZ
  rw [if_neg (by omega)]
set_option maxRecDepth 100000 in
set_option maxHeartbeats 8000000 in
theorem NdCells_1 {w0 w : World} {L : List Ent} {p P : Nat} {kind : Int} {s : KP} (hS : NdP1 w0 w L p P kind s) (hI : NdI1 kind P s) (hP : P ≤ 65536) :
    Calls Tryz.prog 10 #[ndV1 p] w fun e w' => ∃ A c m, e = .returned (.slice A m.length c) ∧ pcs m = s.l ∧ RngC m ∧ NdP1 w0 w' (csE (.slice A m.length c) m :: L) p P kind s := by
  have i1 := im1_len
  have i2 := im1_cell
  have hln := hI.len hP
  have hl := NdLen1 hS
  obtain ⟨n, hn⟩ : ∃ n, s.l.length = n := ⟨_, rfl⟩
  rw [hn] at hl hln
  have HN := Lib.hid hn
  have hS0 : NdP1 w0 w (ownE 43 5 (.slice none 0 0) 0 [] :: (cellsE [] ++ L)) p P kind s := by
    obtain ⟨E, h1, B⟩ := NdP1.sep hS
    exact B _ _ (h1.nilC.sw1)
  clear hS hn
  go_enter Tryz.func10, Tryz.ntmps10
  go_upto_region 5 with (first
    | (go_at_call 203; (with_reducible refine hl.mono ?_); rintro e w1 ⟨rfl, rfl⟩)
    | fail)
  clear hl
  go_loopw [3, 11] (fun cv i wr => ∃ (k : Nat) (m : List CV), k ≤ n ∧ i = .int .i64 (k : Int) ∧ Hid (pcs m = s.l.take k) ∧ Hid (m.length = k) ∧ RngC m ∧ NdP1 w0 wr (ownE 43 5 cv m.length (flatC m) :: (cellsE m ++ L)) p P kind s) (fun _ i _ => n - (intOf i).toNat)
  case atStart => exact ⟨0, [], Nat.zero_le _, rfl, Lib.hid (by simp [pcs]), Lib.hid rfl, by simp [RngC], hS0⟩
  case round =>
    clear hS0
    obtain ⟨k, m, hk, rfl, HM, HK, hR, hS⟩ := hrel
    obtain ⟨E0, hS1, B0⟩ := NdP1.sep hS
    obtain ⟨B, cc, rfl⟩ := Own.slice (show Own wr 0 43 5 _ m.length (flatC m) from hS1.tail.head)
    rw [HK.out]
    by_cases hlt : k < n
    · have ik : (k : Int) < (n : Int) := by omega
      have hkl : k < s.l.length := by rw [HN.out]; exact hlt
      have hc := NdCel1 hS hI hP (k : Int) (by unfold i64r; omega)
      rw [cellZ_in hkl, cellC_in hkl] at hc
      have htk : s.l.take (k + 1) = s.l.take k ++ [s.l[k]] := List.take_succ_eq_append_getElem hkl
      have HTK := Lib.hid htk
      clear hS hS1 B0 htk
      go_wp2_with fail
      refine hc.mono ?_
      rintro e w2 ⟨x, rfl, hx, hr, hS2⟩
      obtain ⟨E, hS3, BB⟩ := NdP1.sep hS2
      have HB := Lib.hid BB
      have HX := Lib.hid hx
      rw [← hx] at hr
      obtain ⟨hr1, hr2, hr3⟩ := hr
      obtain ⟨kv, vv, key, ck, val, pg, ct⟩ := x
      simp only at hr1 hr2 hr3 hS3 HX
      have hkO := (show OwB w2 0 kv key from hS3.tail.head)
      have hvO := (show OwB w2 0 vv val from hS3.tail.tail.head)
      obtain ⟨xK, xk, rfl⟩ := Own.slice hkO
      obtain ⟨xV, xv, rfl⟩ := Own.slice hvO
      have hone := cells_one (x := ⟨.slice xK key.length xk, .slice xV val.length xv, ⟨key, ck, val, pg, ct⟩⟩) hkO hvO
      have hS4 := hS3.alloc 43 [.slice xK key.length xk, .int .i64 ck, .slice xV val.length xv, .int .i64 pg, .int .i64 ct]
      clear hc hkO hvO hS2 hS3 BB hx
      unfold cellV
      go_upto_region 8 with (fail)
      generalize hW4 : w2.alloc (.cells #[.slice xK key.length xk, .int .i64 ck, .slice xV val.length xv, .int .i64 pg, .int .i64 ct] 43) = w4 at *
      generalize w2.heap.size = cb at *
      clear hW4
      obtain ⟨y0, y1, y2, y3, y4⟩ := cells5 hS4.blk
      have hS5 := hS4.alloc 43 [.slice xK key.length xk, .int .i64 ck, .slice xV val.length xv, .int .i64 pg, .int .i64 ct]
      have hown2 := (show Own _ 0 43 5 (.slice B m.length cc) m.length (flatC m) from hS5.tail.tail.tail.tail.tail.head)
      have hfive := Rd.five w4 (.slice xK key.length xk) (.int .i64 ck) (.slice xV val.length xv) (.int .i64 pg) (.int .i64 ct) 43
      have hl9 : m.length + 1 ≤ 65536 := by rw [HK.out]; omega
      have HL9 := Lib.hid hl9
      rw [HK.out] at hown2
      clear hl9
      go_upto_region 9 with (first
        | (at_builtin; refine wp_append_C rfl (.tmp 20) (.tmp 22) rfl 0 (.slice B k cc) m rfl (by rw [HK.out]; exact hown2) (.slice (some ⟨w4.heap.size, 0, none⟩) 1 1) [⟨.slice xK key.length xk, .slice xV val.length xv, ⟨key, ck, val, pg, ct⟩⟩] rfl hfive (by simpa [flatC] using hone) (by have := HL9.out; simp only [List.length_singleton]; omega) (Nat.zero_le _) ?_; intro v5 w5 ho5 hg5 hk5)
        | fail)
      rw [HK.out] at hS5
      have hS6 := (hS5.sw [_, _, _, _, _]).appC ho5 hg5 (by rcases hk5 with e | e; exact .inl e; exact .inr ⟨_, e, Nat.le_refl _⟩)
      have hS8 := Sep.snocC' (y := ⟨.slice xK key.length xk, .slice xV val.length xv, ⟨key, ck, val, pg, ct⟩⟩) (L := L) (E := E) (Sep.pick (L := [_, _, _, _, _, _]) [3, 0, 4, 5] (by decide) rfl hS6)
      have HS8 := Lib.hid (HB.out _ _ hS8)
      have hM2 : pcs (m ++ [(⟨.slice xK key.length xk, .slice xV val.length xv, ⟨key, ck, val, pg, ct⟩⟩ : CV)]) = s.l.take (k + 1) := by rw [HTK.out, ← HX.out, pcs_append, HM.out]; rfl
      have HM2 := Lib.hid hM2
      clear hS4 hS5 hS6 hS8 hown2 hfive hone ho5 hg5 hk5 y0 y1 y2 y3 y4 hM2
      go_wp2_with fail
      go_roundw
      case rel => exact ⟨k + 1, _, by omega, by go_num, HM2, Lib.hid (by rw [List.length_append, HK.out]; rfl), fun y hy => by rcases List.mem_append.1 hy with hy | hy; exact hR y hy; obtain rfl := List.mem_singleton.1 hy; exact ⟨hr1, hr2, hr3⟩, HS8.out⟩
      case measure => simp [intOf]; omega
    · obtain rfl : k = n := by omega
      have hM : pcs m = s.l := by rw [HM.out, List.take_of_length_le (by rw [HN.out]; exact Nat.le_refl _)]
      have hS9 : NdP1 w0 wr (csE (.slice B m.length cc) m :: L) p P kind s := B0 _ _ ((Sep.pack (D := ownE 43 5 (.slice B m.length cc) m.length (flatC m) :: cellsE m) (L := E0 :: L) (hS1.perm (List.perm_middle (l₁ := ownE 43 5 (.slice B m.length cc) m.length (flatC m) :: cellsE m)).symm)).sw1)
      have HM9 := Lib.hid hM
      have HS9 := Lib.hid hS9
      clear hM hS hS1 B0 hS9
      go_wp2_with fail
      go_ret
      exact ⟨B, cc, m, by rw [HK.out]; rfl, HM9.out, hR, HS9.out⟩
set_option maxRecDepth 100000 in
set_option maxHeartbeats 8000000 in
theorem NdCells_2 {w0 w : World} {L : List Ent} {p P : Nat} {kind : Int} {s : KP} (hS : NdP2 w0 w L p P kind s) (hI : NdI2 kind P s) (hP : P ≤ 65536) :
    Calls Tryz.prog 10 #[ndV2 p] w fun e w' => ∃ A c m, e = .returned (.slice A m.length c) ∧ pcs m = s.l ∧ RngC m ∧ NdP2 w0 w' (csE (.slice A m.length c) m :: L) p P kind s := by
  have i1 := im2_len
  have i2 := im2_cell
  have hln := hI.len hP
  have hl := NdLen2 hS
  obtain ⟨n, hn⟩ : ∃ n, s.l.length = n := ⟨_, rfl⟩
  rw [hn] at hl hln
  have HN := Lib.hid hn
  have hS0 : NdP2 w0 w (ownE 43 5 (.slice none 0 0) 0 [] :: (cellsE [] ++ L)) p P kind s := by
    obtain ⟨E, h1, B⟩ := NdP2.sep hS
    exact B _ _ (h1.nilC.sw1)
  clear hS hn
  go_enter Tryz.func10, Tryz.ntmps10
  go_upto_region 5 with (first
    | (go_at_call 221; (with_reducible refine hl.mono ?_); rintro e w1 ⟨rfl, rfl⟩)
    | fail)
  clear hl
  go_loopw [3, 11] (fun cv i wr => ∃ (k : Nat) (m : List CV), k ≤ n ∧ i = .int .i64 (k : Int) ∧ Hid (pcs m = s.l.take k) ∧ Hid (m.length = k) ∧ RngC m ∧ NdP2 w0 wr (ownE 43 5 cv m.length (flatC m) :: (cellsE m ++ L)) p P kind s) (fun _ i _ => n - (intOf i).toNat)
  case atStart => exact ⟨0, [], Nat.zero_le _, rfl, Lib.hid (by simp [pcs]), Lib.hid rfl, by simp [RngC], hS0⟩
  case round =>
    clear hS0
    obtain ⟨k, m, hk, rfl, HM, HK, hR, hS⟩ := hrel
    obtain ⟨E0, hS1, B0⟩ := NdP2.sep hS
    obtain ⟨B, cc, rfl⟩ := Own.slice (show Own wr 0 43 5 _ m.length (flatC m) from hS1.tail.head)
    rw [HK.out]
    by_cases hlt : k < n
    · have ik : (k : Int) < (n : Int) := by omega
      have hkl : k < s.l.length := by rw [HN.out]; exact hlt
      have hc := NdCel2 hS hI hP (k : Int) (by unfold i64r; omega)
      rw [cellZ_in hkl, cellC_in hkl] at hc
      have htk : s.l.take (k + 1) = s.l.take k ++ [s.l[k]] := List.take_succ_eq_append_getElem hkl
      have HTK := Lib.hid htk
      clear hS hS1 B0 htk
      go_wp2_with fail
      refine hc.mono ?_
      rintro e w2 ⟨x, rfl, hx, hr, hS2⟩
      obtain ⟨E, hS3, BB⟩ := NdP2.sep hS2
      have HB := Lib.hid BB
      have HX := Lib.hid hx
      rw [← hx] at hr
      obtain ⟨hr1, hr2, hr3⟩ := hr
      obtain ⟨kv, vv, key, ck, val, pg, ct⟩ := x
      simp only at hr1 hr2 hr3 hS3 HX
      have hkO := (show OwB w2 0 kv key from hS3.tail.head)
      have hvO := (show OwB w2 0 vv val from hS3.tail.tail.head)
      obtain ⟨xK, xk, rfl⟩ := Own.slice hkO
      obtain ⟨xV, xv, rfl⟩ := Own.slice hvO
      have hone := cells_one (x := ⟨.slice xK key.length xk, .slice xV val.length xv, ⟨key, ck, val, pg, ct⟩⟩) hkO hvO
      have hS4 := hS3.alloc 43 [.slice xK key.length xk, .int .i64 ck, .slice xV val.length xv, .int .i64 pg, .int .i64 ct]
      clear hc hkO hvO hS2 hS3 BB hx
      unfold cellV
      go_upto_region 8 with (fail)
      generalize hW4 : w2.alloc (.cells #[.slice xK key.length xk, .int .i64 ck, .slice xV val.length xv, .int .i64 pg, .int .i64 ct] 43) = w4 at *
      generalize w2.heap.size = cb at *
      clear hW4
      obtain ⟨y0, y1, y2, y3, y4⟩ := cells5 hS4.blk
      have hS5 := hS4.alloc 43 [.slice xK key.length xk, .int .i64 ck, .slice xV val.length xv, .int .i64 pg, .int .i64 ct]
      have hown2 := (show Own _ 0 43 5 (.slice B m.length cc) m.length (flatC m) from hS5.tail.tail.tail.tail.tail.head)
      have hfive := Rd.five w4 (.slice xK key.length xk) (.int .i64 ck) (.slice xV val.length xv) (.int .i64 pg) (.int .i64 ct) 43
      have hl9 : m.length + 1 ≤ 65536 := by rw [HK.out]; omega
      have HL9 := Lib.hid hl9
      rw [HK.out] at hown2
      clear hl9
      go_upto_region 9 with (first
        | (at_builtin; refine wp_append_C rfl (.tmp 20) (.tmp 22) rfl 0 (.slice B k cc) m rfl (by rw [HK.out]; exact hown2) (.slice (some ⟨w4.heap.size, 0, none⟩) 1 1) [⟨.slice xK key.length xk, .slice xV val.length xv, ⟨key, ck, val, pg, ct⟩⟩] rfl hfive (by simpa [flatC] using hone) (by have := HL9.out; simp only [List.length_singleton]; omega) (Nat.zero_le _) ?_; intro v5 w5 ho5 hg5 hk5)
        | fail)
      rw [HK.out] at hS5
      have hS6 := (hS5.sw [_, _, _, _, _]).appC ho5 hg5 (by rcases hk5 with e | e; exact .inl e; exact .inr ⟨_, e, Nat.le_refl _⟩)
      have hS8 := Sep.snocC' (y := ⟨.slice xK key.length xk, .slice xV val.length xv, ⟨key, ck, val, pg, ct⟩⟩) (L := L) (E := E) (Sep.pick (L := [_, _, _, _, _, _]) [3, 0, 4, 5] (by decide) rfl hS6)
      have HS8 := Lib.hid (HB.out _ _ hS8)
      have hM2 : pcs (m ++ [(⟨.slice xK key.length xk, .slice xV val.length xv, ⟨key, ck, val, pg, ct⟩⟩ : CV)]) = s.l.take (k + 1) := by rw [HTK.out, ← HX.out, pcs_append, HM.out]; rfl
      have HM2 := Lib.hid hM2
      clear hS4 hS5 hS6 hS8 hown2 hfive hone ho5 hg5 hk5 y0 y1 y2 y3 y4 hM2
      go_wp2_with fail
      go_roundw
      case rel => exact ⟨k + 1, _, by omega, by go_num, HM2, Lib.hid (by rw [List.length_append, HK.out]; rfl), fun y hy => by rcases List.mem_append.1 hy with hy | hy; exact hR y hy; obtain rfl := List.mem_singleton.1 hy; exact ⟨hr1, hr2, hr3⟩, HS8.out⟩
      case measure => simp [intOf]; omega
    · obtain rfl : k = n := by omega
      have hM : pcs m = s.l := by rw [HM.out, List.take_of_length_le (by rw [HN.out]; exact Nat.le_refl _)]
      have hS9 : NdP2 w0 wr (csE (.slice B m.length cc) m :: L) p P kind s := B0 _ _ ((Sep.pack (D := ownE 43 5 (.slice B m.length cc) m.length (flatC m) :: cellsE m) (L := E0 :: L) (hS1.perm (List.perm_middle (l₁ := ownE 43 5 (.slice B m.length cc) m.length (flatC m) :: cellsE m)).symm)).sw1)
      have HM9 := Lib.hid hM
      have HS9 := Lib.hid hS9
      clear hM hS hS1 B0 hS9
      go_wp2_with fail
      go_ret
      exact ⟨B, cc, m, by rw [HK.out]; rfl, HM9.out, hR, HS9.out⟩
end Go.Proofs.YtfcnkpofcekmgaaGreat

-- node.New, node.Open, in words of pieces.
namespace Go.Proofs.YtfcnkpofcekmgaaGreat
open Go.RowKit
set_option maxRecDepth 20000 in
set_option maxHeartbeats 1000000 in
theorem PNew_bad3 (kind Q : Int) (hq : -9223372036854775808 ≤ Q ∧ Q ≤ 9223372036854775807) (hk : (isKindB kind && isPowB Q) = false) (w : World) : Calls Tryz.prog 70 #[.int .i64 kind, .int .i64 Q] w fun e w' =>
    e = .returned (.tuple #[.pointer none, .int .i64 1]) ∧ w = w' := by
  cases hk2 : isKindB kind with
  | false => exact PNew_bad kind Q hk2 w
  | true =>
    rw [hk2, Bool.true_and] at hk
    have hKi := fun W => isKind_any kind W
    have hPa := fun W => isPage_any Q hq W
    rw [hk2] at hKi
    rw [hk] at hPa
    clear hk hk2
    go_enter Tryz.func70, Tryz.ntmps70
    go_wp2_with (first | (go_at_call 126; refine (hKi _).mono ?_; rintro e w1 ⟨rfl, rfl⟩) | (go_at_call 127; refine (hPa _).mono ?_; rintro e w1 ⟨rfl, rfl⟩) | fail)
    go_ret2
    exact ⟨rfl, rfl⟩
section
variable {w0 w : World} {L : List Ent} {kind : Int} {P : Nat}
theorem NdNewOk1 (hS : Sep w0 w L) (hk : isKindB kind = true) (hp : isPowB (P : Int) = true) : Calls Tryz.prog 8 #[.int .i64 1, .int .i64 kind, .int .i64 (P : Int)] w fun e w' => ∃ p, e = .returned (.tuple #[ndV1 p, .int .i64 0]) ∧ NdP1 w0 w' L p P kind ⟨[], [], 0⟩ := by
  refine (NdNew_1 kind (P : Int) w (fun p w' => NdP1 w0 w' L p P kind ⟨[], [], 0⟩) (fun _ _ => False) (fun W hW => ?_)).mono ?_
  · refine (PNew_ok kind P hk hp W).mono ?_
    rintro e w' ⟨p, rfl, hpl, hA, hb⟩
    have h1 : Sep w0 w' (blkE p 144 [.int .i64 kind, .int .i64 (P : Int), .int .i64 8, .slice none 0 0] :: L) := (hS.below hW).new hb hA.blk (fun g hg => by have hg' : g = p := hg; subst hg'; exact ⟨hpl, hA.blk.lt⟩)
    exact .inl ⟨p, rfl, .slice none 0 0, [], rfl, by simp [RngC], Sep.pgClose (l := []) (Sep.sw1 (Sep.nilC h1))⟩
  · rintro e w' (⟨p, rfl, h⟩ | ⟨_, _, _, h⟩)
    · exact ⟨p, rfl, h⟩
    · exact h.elim
theorem NdNewOk2 (hS : Sep w0 w L) (hk : isKindB kind = true) (hp : isPowB (P : Int) = true) : Calls Tryz.prog 8 #[.int .i64 2, .int .i64 kind, .int .i64 (P : Int)] w fun e w' => ∃ p, e = .returned (.tuple #[ndV2 p, .int .i64 0]) ∧ NdP2 w0 w' L p P kind ⟨[], [], 0⟩ := by
  refine (NdNew_2 kind (P : Int) w (fun p w' => NdP2 w0 w' L p P kind ⟨[], [], 0⟩) (fun _ _ => False) (fun W hW => ?_)).mono ?_
  · refine (KNew_ok kind P hk hp (hS.below hW)).mono ?_
    rintro e w' ⟨p, rfl, h⟩
    exact .inl ⟨p, rfl, h⟩
  · rintro e w' (⟨p, rfl, h⟩ | ⟨_, _, _, h⟩)
    · exact ⟨p, rfl, h⟩
    · exact h.elim
theorem NdNewBad1 (Q : Int) (hq : i64r Q) (hk : (isKindB kind && isPowB Q) = false) (w : World) : Calls Tryz.prog 8 #[.int .i64 1, .int .i64 kind, .int .i64 Q] w fun e w' => e = .returned (.tuple #[.nilIface, .int .i64 1]) ∧ Below w.heap.size w w' := by
  refine (NdNew_1 kind Q w (fun _ _ => False) (fun z w' => z = 1 ∧ Below w.heap.size w w') (fun W hW => ?_)).mono ?_
  · refine (PNew_bad3 kind Q hq hk W).mono ?_
    rintro e w' ⟨rfl, rfl⟩
    exact .inr ⟨1, by decide, rfl, rfl, hW⟩
  · rintro e w' (⟨p, _, h⟩ | ⟨z, _, rfl, rfl, h⟩)
    · exact h.elim
    · exact ⟨rfl, h⟩
theorem NdNewBad2 (Q : Int) (hq : i64r Q) (hk : (isKindB kind && isPowB Q) = false) (w : World) : Calls Tryz.prog 8 #[.int .i64 2, .int .i64 kind, .int .i64 Q] w fun e w' => e = .returned (.tuple #[.nilIface, .int .i64 1]) ∧ Below w.heap.size w w' := by
  refine (NdNew_2 kind Q w (fun _ _ => False) (fun z w' => z = 1 ∧ Below w.heap.size w w') (fun W hW => ?_)).mono ?_
  · refine (KNew_bad kind Q hq hk W).mono ?_
    rintro e w' ⟨rfl, rfl⟩
    exact .inr ⟨1, by decide, rfl, rfl, hW⟩
  · rintro e w' (⟨p, _, h⟩ | ⟨z, _, rfl, rfl, h⟩)
    · exact h.elim
    · exact ⟨rfl, h⟩
/-- Open of bytes of an engine: a page, or nothing. -/
theorem NdOpn1 {v : Value} {b : List UInt8} (hS : Sep w0 w L) (hv : RdB w v b) (h2 : 2 ≤ b.length) (he : egB b = 1) : Calls Tryz.prog 12 #[v] w fun e w' =>
    (∃ p kind l, isPln b kind l ∧ e = .returned (.tuple #[ndV1 p, .int .i64 0]) ∧ NdP1 w0 w' L p b.length kind ⟨l, [], 0⟩) ∨ ((∀ kind l, ¬ isPln b kind l) ∧ e = .returned (.tuple #[.nilIface, .int .i64 60]) ∧ Sep w0 w' L) := by
  refine (NdOpen_1 v b w hv h2 he (fun p w' => ∃ kind l, isPln b kind l ∧ NdP1 w0 w' L p b.length kind ⟨l, [], 0⟩) (fun z w' => z = 60 ∧ (∀ kind l, ¬ isPln b kind l) ∧ Sep w0 w' L) (fun W hW => ?_)).mono ?_
  · refine (POpen_sep (hS.below hW) (hv.below hW (Nat.le_refl _))).mono ?_
    rintro e w' (⟨kind, l, p, u, hp, hr, rfl, h⟩ | ⟨hn, rfl, h⟩)
    · exact .inl ⟨p, rfl, kind, pcs l, hp, u, l, rfl, hr, h⟩
    · exact .inr ⟨60, by decide, rfl, rfl, hn, h⟩
  · rintro e w' (⟨p, rfl, kind, l, hp, h⟩ | ⟨z, _, rfl, rfl, hn, h⟩)
    · exact .inl ⟨p, kind, l, hp, rfl, h⟩
    · exact .inr ⟨hn, rfl, h⟩
end
end Go.Proofs.YtfcnkpofcekmgaaGreat

-- The example of chapter 08: plain laws.
namespace Go.Proofs.YtfcnkpofcekmgaaGreat
open Go.RowKit
def nA : PC := ⟨[97], 1, [121], 0, 0⟩
def nB : PC := ⟨[98], 1, [120], 0, 0⟩
def n0 : KP := ⟨[], [], 0⟩
theorem nd_z1 : insZ1 2 512 n0 0 0 nB = 0 := by decide
theorem nd_s1 : (insS1 2 512 n0 0 0 nB).l = [nB] := by
  show insL 2 512 [] 0 0 nB = _
  rw [insL_eq (show insZ 2 512 [] 0 0 nB = 0 by decide)]; rfl
theorem nd_z2 : insZ1 2 512 (insS1 2 512 n0 0 0 nB) 0 0 nA = 0 := by
  show insZ 2 512 (insS1 2 512 n0 0 0 nB).l 0 0 nA = 0
  rw [nd_s1]; decide
theorem nd_s2 : (insS1 2 512 (insS1 2 512 n0 0 0 nB) 0 0 nA).l = [nA, nB] := by
  show insL 2 512 (insS1 2 512 n0 0 0 nB).l 0 0 nA = _
  rw [nd_s1, insL_eq (show insZ 2 512 [nB] 0 0 nA = 0 by decide)]; rfl
theorem nd_find : findF [98] [nA, nB] = 1 ∧ isF [98] [nA, nB] = true := by decide
theorem nd_usd : usd1 2 (insS1 2 512 (insS1 2 512 n0 0 0 nB) 0 0 nA) = 26 := by
  show sizeF (insS1 2 512 (insS1 2 512 n0 0 0 nB) 0 0 nA).l = 26
  rw [nd_s2]; rfl
theorem nd_k1 : insZ2 2 512 n0 0 0 nA = 0 := by
  show insKZ 2 512 [] 0 0 nA = 0
  unfold insKZ
  rw [if_neg (by decide)]
  unfold putK
  have h : psizeF 2 (withF [] (0 : Int).toNat 0 nA) ≤ 512 := three_fit (kind := 2) (l := [nA]) (P := 512) (by omega) (by omega) (by omega) (by decide) (by decide)
  rw [if_neg (by decide), if_neg (by decide), if_neg (by omega)]
theorem nd_kl : (insS2 2 512 n0 0 0 nA).l.length = 1 := by
  show (insKS 2 512 n0 0 0 nA).l.length = 1
  unfold insKS
  rw [if_pos (show insKZ 2 512 n0.l 0 0 nA = 0 from nd_k1)]
  unfold putS changeS
  split <;> rfl
theorem nd_I1 : NdI1 2 512 n0 := ⟨List.Pairwise.nil, by simp [n0], by decide⟩
theorem nd_I2 : NdI2 2 512 n0 := tidy_inv (kind := 2) (P := 512) (l := []) List.Pairwise.nil (by simp) (by decide)
end Go.Proofs.YtfcnkpofcekmgaaGreat
