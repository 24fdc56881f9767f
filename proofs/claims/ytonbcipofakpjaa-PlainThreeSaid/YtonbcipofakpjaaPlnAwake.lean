/- espalierlaw06.awake: the walk. -/
import Derived.Test.YtonbcipofakpjaaPlnIns3
namespace Go.Proofs.Ytonbcipofakpjaa
open Go.RowKit
def c0 : PC := ⟨[97], 1, [120, 121], 0, 0⟩
theorem c0_may : mayP 2 512 c0 = true := by decide
theorem c0_long : longF c0 = 8 := by decide
theorem c0_size : sizeF [c0] = 18 := by decide
theorem c0_enc : encE 2 [c0] 512 = 0 := by decide
theorem c0_len : (laidF 2 [c0] 512).length = 512 := laidF_length (by rw [c0_size]; omega)
theorem c0_pre : (preF 2 [c0] 512).length = 508 := preF_length (by rw [c0_size]; omega)
theorem c0_take6 : (laidF 2 [c0] 512).take 6 = [2, 1, 0, 1, 1, 244] := by
  unfold laidF
  rw [List.take_append_of_le_length (by rw [c0_pre]; omega)]
  decide +kernel
theorem c0_take8 : ((laidF 2 [c0] 512).take 508).drop 500 = [1, 0, 1, 97, 0, 2, 120, 121] := by
  unfold laidF
  rw [List.take_append_of_le_length (by rw [c0_pre]; omega)]
  decide +kernel
theorem c0_pln : isPln (laidF 2 [c0] 512) 2 [c0] := by
  have h := c0_len
  refine ⟨by rw [h]; decide, by decide, by rw [h]; exact c0_enc, by rw [h]⟩
theorem c0_only {kind : Int} {l : List PC} (h : isPln (laidF 2 [c0] 512) kind l) : kind = 2 ∧ l = [c0] := by
  have h1 := isPln_parse h
  have h2 := isPln_parse c0_pln
  rw [h2.1] at h1
  exact ⟨h1.2.symm.trans h2.2, (Option.some.inj h1.1).symm⟩
theorem c0_find : findF [97] [c0] = 0 ∧ isF [97] [c0] = true := ⟨by decide, by
  exact decide_eq_true ⟨c0, rfl, rfl⟩⟩
theorem conv_id (w : World) (C : Array Value) (n c g : Nat) (hg : g = w.heap.size) : (convert 27 27 (.slice (some ⟨g, 0, none⟩) n c)).run Try.prog (w.alloc (.cells C 5)) = .ok (.slice (some ⟨g, 0, none⟩) n c) (w.alloc (.cells C 5 (C.size, C.size + 1))) := by
  subst hg; exact Lib.run_convert_bytes_const w _ _ C n c Try.underlying27 Try.underlying5
theorem RdB.litm (w : World) (l : List UInt8) (cells : Array Value) (T : TypeId) (fr : Nat × Nat) (n : Nat) (h : cells = (bvs l).toArray) (hn : l.length = n) (hm : n ≤ maxLen) : RdB (w.alloc (.cells cells T fr)) (.slice (some ⟨w.heap.size, 0, none⟩) n n) l := by
  subst h; subst hn
  refine ⟨_, _, rfl, Nat.le_refl _, hm, fun j hj => ⟨_, rfl, ?_⟩⟩
  rw [add_row, Nat.zero_add, World.cell?_alloc_mark]
  have := bvs_get' l j hj
  simpa using this
theorem one_rd (W : World) (x : CV) (h : x.ok W) : RdCs (W.alloc (.cells #[x.kv, .int .i64 x.c.kind, x.vv, .int .i64 x.c.page, .int .i64 x.c.count] 32)) (.slice (some ⟨W.heap.size, 0, none⟩) 1 1) [x] := by
  refine ⟨?_, fun y hy => ?_⟩
  · have := Rd.five W x.kv (.int .i64 x.c.kind) x.vv (.int .i64 x.c.page) (.int .i64 x.c.count) 32
    simpa [flatC, CV.cells] using this
  · rw [List.mem_singleton] at hy
    subst hy
    exact h.below ((Below.refl _ _).alloc (Nat.le_refl _) _)
theorem Enc0 (W : World) (v : Value) (x : CV) (hx : x.c = c0) (h : RdCs W v [x]) : Calls Try.prog 15 #[.int .i64 2, v, .int .i64 512] W fun e w' => ∃ g, e = .returned (.tuple #[.slice (some ⟨g, 0, none⟩) 512 512, .int .i64 0]) ∧ W.heap.size ≤ g ∧ OBlk w' g 5 (bvs (laidF 2 [c0] 512)) ∧ Below W.heap.size W w' := by
  refine (PEncode_any 2 v [x] 512 (by unfold i64r; omega) W h (by simp)).mono fun e w' hh => ?_
  obtain ⟨hb, ⟨hf, _⟩ | ⟨_, ⟨hne, _⟩ | ⟨_, g, he, hg, ho⟩⟩⟩ := hh
  · exact absurd hf (by decide)
  · refine absurd ?_ hne
    have : pcs [x] = [c0] := by simp [pcs, hx]
    rw [this]; exact c0_enc
  · have : pcs [x] = [c0] := by simp [pcs, hx]
    rw [this] at ho
    exact ⟨g, he, hg, ho, hb⟩
theorem Dec0 (W : World) (v : Value) (h : RdB W v (laidF 2 [c0] 512)) : Calls Try.prog 20 #[v] W fun e w' => ∃ A c, e = .returned (.tuple #[.int .i64 2, .slice A 1 c, .int .i64 0]) ∧ Below W.heap.size W w' := by
  refine (PDecode_any v _ W h).mono fun e w' hh => ?_
  obtain ⟨hb, ⟨kind, l, u, hp, he, ho⟩ | ⟨hn, _⟩⟩ := hh
  · obtain ⟨rfl, hl⟩ := c0_only hp
    have hl1 : l.length = 1 := by rw [← pcs_length, hl]; rfl
    obtain ⟨A, c, rfl⟩ := Own.slice ho.own
    rw [hl1] at he
    exact ⟨A, c, he, hb⟩
  · exact absurd c0_pln (hn _ _)
theorem Size0 (W : World) (v : Value) (x : CV) (hx : x.c = c0) (h : RdCs W v [x]) : Calls Try.prog 16 #[.int .i64 2, v] W fun e w' => e = .returned (.int .i64 18) ∧ Below W.heap.size W w' := by
  have hp : pcs [x] = [c0] := by simp [pcs, hx]
  have := Size_any 2 v [x] W h (by rw [hp]; refine ⟨by rw [c0_size]; omega, fun c hc => ?_⟩; rw [List.mem_singleton] at hc; subst hc; decide)
  rw [hp, c0_size] at this
  exact this
theorem Find0 {w : World} {p : Nat} {kind : Int} {P : Nat} {used : Int} {v : Value} {y : CV} (h : PgAt w p kind P used v [y]) (hy : y.c = c0) (vk : Value) (hk : RdB w vk [97]) :
    Calls Try.prog 25 #[.pointer (some ⟨p, 0, none⟩), vk] w fun e w' => e = .returned (.tuple #[.int .i64 0, .bool true]) ∧ Below w.heap.size w w' := by
  have := PFind_any h vk [97] hk
  rw [show pcs [y] = [c0] by simp [pcs, hy], c0_find.1, c0_find.2] at this
  exact this
set_option maxRecDepth 100000 in
set_option maxHeartbeats 8000000 in
theorem awake_any (w : World) : Calls Try.prog 10 #[] w fun e w' => e = .returned (.bool true) ∧ Below w.heap.size w w' := by
  have kc := fun (w : World) (C : Array Value) (n c g : Nat) (hg : g = w.heap.size) => conv_id w C n c g hg
  go_enter Try.func10, Try.ntmps10
  go_wp2_with fail
  have hK := RdB.litm w [97] #[.int .u8 97] 5 (1, 2) 1 rfl rfl (by decide)
  have hV := RdB.litm (w.alloc (.cells #[.int .u8 97] 5 (1, 2))) [120, 121] #[.int .u8 120, .int .u8 121] 5 (2, 3) 2 rfl rfl (by decide)
  have hK3 := (hK.alloc (.cells #[.int .u8 120, .int .u8 121] 5 (2, 3))).alloc (.cells #[.slice (some ⟨w.heap.size, 0, none⟩) 1 1, .int .i64 1, .slice (some ⟨w.heap.size + 1, 0, none⟩) 2 2, .int .i64 0, .int .i64 0] 32)
  have hV3 := hV.alloc (.cells #[.slice (some ⟨w.heap.size, 0, none⟩) 1 1, .int .i64 1, .slice (some ⟨w.heap.size + 1, 0, none⟩) 2 2, .int .i64 0, .int .i64 0] 32)
  have hC3 := OBlk.new' ((w.alloc (.cells #[.int .u8 97] 5 (1, 2))).alloc (.cells #[.int .u8 120, .int .u8 121] 5 (2, 3))) 32 [.slice (some ⟨w.heap.size, 0, none⟩) 1 1, .int .i64 1, .slice (some ⟨w.heap.size + 1, 0, none⟩) 2 2, .int .i64 0, .int .i64 0]
  have hA3 := (((Below.refl w.heap.size w).alloc (Nat.le_refl _) (.cells #[.int .u8 97] 5 (1, 2))).alloc (by simp) (.cells #[.int .u8 120, .int .u8 121] 5 (2, 3))).alloc (by simp; omega) (.cells #[.slice (some ⟨w.heap.size, 0, none⟩) 1 1, .int .i64 1, .slice (some ⟨w.heap.size + 1, 0, none⟩) 2 2, .int .i64 0, .int .i64 0] 32)
  have hz3 : (((w.alloc (.cells #[.int .u8 97] 5 (1, 2))).alloc (.cells #[.int .u8 120, .int .u8 121] 5 (2, 3))).alloc (.cells #[.slice (some ⟨w.heap.size, 0, none⟩) 1 1, .int .i64 1, .slice (some ⟨w.heap.size + 1, 0, none⟩) 2 2, .int .i64 0, .int .i64 0] 32)).heap.size = w.heap.size + 1 + 1 + 1 := by simp
  simp only [World.size_alloc] at hV3 hC3
  rw [← hz3]
  generalize ((w.alloc (.cells #[.int .u8 97] 5 (1, 2))).alloc (.cells #[.int .u8 120, .int .u8 121] 5 (2, 3))).alloc (.cells #[.slice (some ⟨w.heap.size, 0, none⟩) 1 1, .int .i64 1, .slice (some ⟨w.heap.size + 1, 0, none⟩) 2 2, .int .i64 0, .int .i64 0] 32) = w3 at *
  clear hK hV
  have hx : CV.ok w3 ⟨.slice (some ⟨w.heap.size, 0, none⟩) 1 1, .slice (some ⟨w.heap.size + 1, 0, none⟩) 2 2, c0⟩ := { k := hK3, v := hV3, r1 := show i64r 1 by unfold i64r; omega, r2 := show i64r 0 by unfold i64r; omega, r3 := show i64r 0 by unfold i64r; omega }
  have hrd := one_rd w3 _ hx
  have HZ := Lib.hid hz3
  have hzl : w.heap.size + 2 < w3.heap.size := by omega
  clear hz3 hK3 hV3
  refine (Enc0 _ _ _ rfl hrd).mono ?_
  rintro e w4 ⟨g, rfl, hg, hbk, hw4⟩
  simp only [World.size_alloc] at hw4 hg
  have hb4 : Below w3.heap.size w3 w4 := ((Below.refl w3.heap.size w3).alloc (Nat.le_refl _) _).trans (hw4.mono (by omega))
  have hx4 := hx.below hb4
  have hC4 := hC3.below hb4 hC3.lt
  have hA4 := hA3.trans (hb4.mono (by omega))
  have hrd4 := one_rd w4 _ hx4
  clear hrd hw4 hC3 hA3
  obtain ⟨c0', c1', c2', c3', c4'⟩ := cells5 hC4
  go_wp2_with fail
  refine (Size0 _ _ _ rfl hrd4).mono ?_
  rintro e w5 ⟨rfl, hw5⟩
  simp only [World.size_alloc] at hw5
  have hb5 : Below w4.heap.size w4 w5 := ((Below.refl w4.heap.size w4).alloc (Nat.le_refl _) _).trans (hw5.mono (by omega))
  have hbk5 := hbk.below hb5 hbk.lt
  have hC5 := hC4.below hb5 hC4.lt
  have hx5 := hx4.below hb5
  have hA5 := hA4.trans (hb5.mono hA4.size)
  have hgl := hbk.lt
  have hcl := hC4.lt
  have hs5 := hb5.size
  have hdec := fun W v h => Dec0 W v h
  have H6 := Lib.hid c0_take6
  have H8 := Lib.hid c0_take8
  have HLN := Lib.hid c0_len
  clear hrd4 hw5 hbk hC4 hx4 hA4 hb4 hx hb5 c0' c1' c2' c3' c4'
  generalize laidF 2 [c0] 512 = b at *
  have hbr5 := hbk5.rdB HLN.out (by omega)
  go_wp2_with fail
  refine (hdec _ _ hbr5).mono ?_
  rintro e w6 ⟨DA, dc, rfl, hw6⟩
  have hbk6 := hbk5.below hw6 hbk5.lt
  have hC6 := hC5.below hw6 hC5.lt
  have hx6 := hx5.below hw6
  have hA6 := hA5.trans (hw6.mono hA5.size)
  have hs6 := hw6.size
  clear hdec hbr5 hbk5 hC5 hx5 hA5 hw6
  go_wp2_with fail
  refine (PNew_ok 2 512 rfl (by decide) _).mono ?_
  rintro e w7 ⟨p, rfl, hp, hP7, hw7⟩
  have hxp : ∀ w', Below p w7 w' → CV.ok w' ⟨.slice (some ⟨w.heap.size, 0, none⟩) 1 1, .slice (some ⟨w.heap.size + 1, 0, none⟩) 2 2, c0⟩ := fun w' hb => hx6.below (hw7.trans (hb.mono hp))
  have hbk7 := hbk6.below hw7 hbk6.lt
  have hC7 := hC6.below hw7 hC6.lt
  have hx7 := hx6.below hw7
  have hA7 := hA6.trans (hw7.mono hA6.size)
  have hs7 := hw7.size
  have HXP := Lib.hid hxp
  clear hbk6 hC6 hA6 hxp
  go_wp2_with fail
  refine (PNew_bad 1 512 rfl _).mono ?_
  rintro e w8 ⟨rfl, rfl⟩
  obtain ⟨c0', c1', c2', c3', c4'⟩ := cells5 hC7
  have hins := Insert_first hP7 (by omega) _ hx7 HXP.out c0_may (by rw [c0_long]; omega)
  unfold cellV at hins
  go_wp2_with fail
  refine hins.mono ?_
  rintro e w9 ⟨rfl, ⟨v9, y9, hy9, hP9⟩, hw9⟩
  have hbk9 := hbk7.below hw9 (by omega)
  have hC9 := hC7.below hw9 (by omega)
  have hx9 := HXP.out _ hw9
  have hA9 := hA7.trans (hw9.mono (by have := hA7.size; omega))
  have hs9 := hw9.size
  clear hins hP7 hbk7 hC7 hx7 hA7 hx6 c0' c1' c2' c3' c4'
  obtain ⟨c0', c1', c2', c3', c4'⟩ := cells5 hC9
  have hkr := RdB.litm w9 [97] #[.int .u8 97] 5 (1, 2) 1 rfl rfl (by decide)
  have hfi := Find0 (hP9.below ((Below.refl w9.heap.size w9).alloc (Nat.le_refl _) (.cells #[.int .u8 97] 5 (1, 2)))) hy9 _ hkr
  have HY := Lib.hid hy9
  clear hy9
  go_wp2_with fail
  refine hfi.mono ?_
  rintro e w10 ⟨rfl, hw10⟩
  simp only [World.size_alloc] at hw10
  have hb10 : Below w9.heap.size w9 w10 := ((Below.refl w9.heap.size w9).alloc (Nat.le_refl _) _).trans (hw10.mono (by omega))
  have hbk10 := hbk9.below hb10 hbk9.lt
  have hC10 := hC9.below hb10 hC9.lt
  have hx10 := hx9.below hb10
  have hP10 := hP9.below hb10
  have hA10 := hA9.trans (hb10.mono hA9.size)
  have hs10 := hb10.size
  have hif := Insert_far hP10 _ hx10 2 (by simp)
  unfold cellV at hif
  clear hfi hkr hbk9 hC9 hx9 hP9 hA9 hw10 hb10 c0' c1' c2' c3' c4'
  obtain ⟨c0', c1', c2', c3', c4'⟩ := cells5 hC10
  go_wp2_with fail
  refine hif.mono ?_
  rintro e w11 ⟨rfl, hw11⟩
  have hbk11 := hbk10.below hw11 hbk10.lt
  have hP11 := hP10.below hw11
  have hA11 := hA10.trans (hw11.mono hA10.size)
  have hr := hbk11.rdB HLN.out (by omega)
  have r6 := RdB.slice0 (n := 6) hbk11 (by rw [HLN.out]; omega) HLN.out (by omega)
  have r8 : RdB w11 (.slice (some ⟨g, 500, none⟩) 8 12) ((b.take 508).drop 500) := by
    have h := hr.cut (lo := 500) (hi := 508) (by omega) (by rw [HLN.out]; omega)
    rw [if_neg (by omega)] at h
    have e : Option.map (fun x => Addr.add x 500) (some (⟨g, 0, none⟩ : Addr)) = some ⟨g, 500, none⟩ := by rw [Option.map_some, add_row]
    rw [e] at h
    exact h
  rw [H6.out] at r6
  rw [H8.out] at r8
  have s6 := run_B_string r6
  have s8 := run_B_string r8
  have hln := PLen_any hP11
  have hus := PUsed_any hP11
  clear hif hbk10 hC10 hx10 hP10 hA10 c0' c1' c2' c3' c4' hr r6 r8 kc
  go_wp2_with (first
    | (go_at_call 23; refine hln.mono ?_; rintro e w12 ⟨rfl, rfl⟩)
    | (go_at_call 24; refine hus.mono ?_; rintro e w12 ⟨rfl, rfl⟩)
    | fail)
  go_ret
  exact ⟨by rw [c0_long]; rfl, hA11⟩
end Go.Proofs.Ytonbcipofakpjaa
