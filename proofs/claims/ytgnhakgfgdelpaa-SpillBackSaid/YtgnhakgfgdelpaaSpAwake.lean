/- espalierlaw09.awake: the walk. -/
import Derived.Test.YtgnhakgfgdelpaaSpAwF
import Derived.Test.YtgnhakgfgdelpaaSpWr
import Derived.Test.YtgnhakgfgdelpaaLit
namespace Go.Proofs.Ytgnhakgfgdelpaa
open Go.RowKit Go.Maps
section
variable {w0 w : World} {gb gm : Nat} {pv : Int → Option Value} {S : BS} {L : List Ent}
theorem SWrite_eq (hS : Sep w0 w (benchE gb gm pv S :: L)) (x : Value) (v : List UInt8) (hx : RdIn L x v) {a z : Int} {S' : BS} (he : wrF S v = (a, z, S')) :
    Calls Try.prog 22 #[roomV gb, x] w fun e w' => e = .returned (.tuple #[.int .i64 a, .int .i64 z]) ∧ ∃ pv', Sep w0 w' (benchE gb gm pv' S' :: L) := by
  have h := SWrite_any hS x v hx
  rw [he] at h
  exact h
theorem SRead_eq (hS : Sep w0 w (benchE gb gm pv S :: L)) (first : Int) (hfi : i64w first) (n : Int) {z : Int} {ps : List Int} {out : List UInt8} {S' : BS} (he : allCh S first n = (z, ps, out, S')) :
    Calls Try.prog 24 #[roomV gb, .int .i64 first, .int .i64 n] w fun e w' => ∃ ou pv', e = .returned (.tuple #[ou, .int .i64 z]) ∧ Sep w0 w' (bytesE ou out :: benchE gb gm pv' S' :: L) := by
  have h := SRead_any hS first hfi n
  rw [he] at h
  exact h
theorem SList_eq (hS : Sep w0 w (benchE gb gm pv S :: L)) (first : Int) (hfi : i64w first) (n : Int) {z : Int} {ps : List Int} {out : List UInt8} {S' : BS} (he : allCh S first n = (z, ps, out, S')) :
    Calls Try.prog 27 #[roomV gb, .int .i64 first, .int .i64 n] w fun e w' => ∃ pu pv', e = .returned (.tuple #[pu, .int .i64 z]) ∧ Sep w0 w' (intsE pu ps :: benchE gb gm pv' S' :: L) := by
  have h := SList_any hS first hfi n
  rw [he] at h
  exact h
theorem SSlice_eq (hS : Sep w0 w (benchE gb gm pv S :: L)) (first : Int) (hfi : i64w first) (n from_ to_ : Int) (hfr : i64w from_) (hto : i64w to_) {z : Int} {ps : List Int} {out : List UInt8} {S' : BS} (he : sliceCh S first n from_ to_ = (z, ps, out, S')) :
    Calls Try.prog 25 #[roomV gb, .int .i64 first, .int .i64 n, .int .i64 from_, .int .i64 to_] w fun e w' => ∃ ou pv', e = .returned (.tuple #[ou, .int .i64 z]) ∧ Sep w0 w' (bytesE ou out :: benchE gb gm pv' S' :: L) := by
  have h := SSlice_any hS first hfi n from_ to_ hfr hto
  rw [he] at h
  exact h
theorem SFree_eq (hS : Sep w0 w (benchE gb gm pv S :: L)) (first : Int) (hfi : i64w first) (n : Int) {z : Int} {S' : BS} (he : freeCh S first n = (z, S')) :
    Calls Try.prog 26 #[roomV gb, .int .i64 first, .int .i64 n] w fun e w' => ∃ pv', e = .returned (.int .i64 z) ∧ Sep w0 w' (benchE gb gm pv' S' :: L) := by
  have h := SFree_any hS first hfi n
  rw [he] at h
  exact h
end
def pgAb : List UInt8 := laidS 0 [97, 98] 512
theorem pgAb_z : spZ 0 [97, 98] ((512 : Nat) : Int) = 0 := by decide +kernel
theorem pgAb_len : pgAb.length = 512 := laidS_length (by decide)
theorem pgAb_take : pgAb.take 14 = [4, 0, 0, 0, 0, 0, 0, 0, 0, 0, 0, 2, 97, 98] := by
  unfold pgAb laidS
  rw [List.take_append_of_le_length (by rw [preS_length (by decide)]; omega)]
  decide +kernel
theorem Enc_ab (W : World) (u : Value) (hu : RdB W u [97, 98]) : Calls Try.prog 15 #[.int .i64 0, u, .int .i64 512] W fun e w' => ∃ u', e = .returned (.tuple #[u', .int .i64 0]) ∧ OwB w' W.heap.size u' pgAb ∧ Below W.heap.size W w' := by
  have h := SEncode_any 0 u [97, 98] 512 (by unfold i64w; omega) W hu
  have e : spL 0 [97, 98] 512 = pgAb := by unfold spL; rw [if_pos (show spZ 0 [97, 98] 512 = 0 from pgAb_z)]; rfl
  rw [e, show spZ 0 [97, 98] 512 = 0 from pgAb_z] at h
  exact h
theorem Dec_ab (W : World) (u : Value) (hu : RdB W u pgAb) : Calls Try.prog 20 #[u] W fun e w' => ∃ u', e = .returned (.tuple #[.int .i64 0, u', .int .i64 0]) ∧ OwB w' W.heap.size u' [97, 98] ∧ Below W.heap.size W w' := by
  have h := SDecode_any u pgAb W hu
  have e : decS pgAb = some (0, [97, 98]) := decS_laidS pgAb_z
  obtain ⟨d1, d2, d3⟩ := dec_some e
  unfold SDecAt at h
  rw [d1, d2, d3] at h
  exact h
set_option maxRecDepth 100000 in
set_option maxHeartbeats 8000000 in
theorem awake_any (w : World) : Calls Try.prog 9 #[] w fun e w' => e = .returned (.bool true) ∧ Below w.heap.size w w' := by
  obtain ⟨l, S1, hw, hH1, hok1, hl0, hp1, hl2, hno⟩ := aw_write
  obtain ⟨S2, ha2, L2⟩ := allCh_law hok1 hH1 (by rw [v500_len]; omega) (by rw [v500_len]; omega)
  obtain ⟨S3, ha3, L3⟩ := aw_bad (L2.ok hok1) (hH1.like L2) (L2.page.trans hp1) hl0 hl2
  have L3 := L2.trans L3
  obtain ⟨S4, ha4, L4⟩ := allCh_law (L3.ok hok1) (hH1.like L3) (by rw [v500_len]; omega) (by rw [v500_len]; omega)
  have L4 := L3.trans L4
  obtain ⟨S5, ha5, L5⟩ := sliceCh_law (L4.ok hok1) (hH1.like L4) (by rw [v500_len]; omega) (by rw [v500_len]; omega) (lo := 499) (hi := 500) (by omega) (by rw [v500_len]; omega)
  have L5 := L4.trans L5
  obtain ⟨S6, ha6, -, -, hok6, k6, k7⟩ := freeCh_law (L5.ok hok1) (hH1.like L5) (by rw [v500_len]; omega) (by rw [v500_len]; omega)
  have ht6 : takenF S6 = [] := takenF_none fun n => by
    by_cases h : n ∈ l
    · exact k6 n h
    · rw [k7 n h, L5.held]; exact hno n h
  rw [hl0, v500_len] at ha2 ha4 ha5 ha6
  rw [v500_end] at ha5
  have kc := fun (w : World) (C : Array Value) (n c g : Nat) (hg : g = w.heap.size) => conv_id w C n c g hg
  have hWr := fun (W : World) (gb gm : Nat) (pv : Int → Option Value) (L : List Ent) (hS : Sep w W (benchE gb gm pv S500 :: L)) (x : Value) (hx : RdIn L x v500) => SWrite_eq hS x v500 hx hw
  have hR2 := fun (W : World) (gb gm : Nat) (pv : Int → Option Value) (L : List Ent) (hS : Sep w W (benchE gb gm pv S1 :: L)) => SRead_eq hS 2 (by unfold i64w; omega) 500 ha2
  have hR3 := fun (W : World) (gb gm : Nat) (pv : Int → Option Value) (L : List Ent) (hS : Sep w W (benchE gb gm pv S2 :: L)) => SRead_eq hS 2 (by unfold i64w; omega) 499 ha3
  have hL4 := fun (W : World) (gb gm : Nat) (pv : Int → Option Value) (L : List Ent) (hS : Sep w W (benchE gb gm pv S3 :: L)) => SList_eq hS 2 (by unfold i64w; omega) 500 ha4
  have hS5 := fun (W : World) (gb gm : Nat) (pv : Int → Option Value) (L : List Ent) (hS : Sep w W (benchE gb gm pv S4 :: L)) => SSlice_eq hS 2 (by unfold i64w; omega) 500 499 500 (by unfold i64w; omega) (by unfold i64w; omega) ha5
  have hF6 := fun (W : World) (gb gm : Nat) (pv : Int → Option Value) (L : List Ent) (hS : Sep w W (benchE gb gm pv S5 :: L)) => SFree_eq hS 2 (by unfold i64w; omega) 500 ha6
  have hT6 := fun (W : World) (gb gm : Nat) (pv : Int → Option Value) (L : List Ent) (hS : Sep w W (benchE gb gm pv S6 :: L)) => BTaken_any hS
  rw [ht6] at hT6
  have hvl := Lib.hid v500_len
  have hv5 : Hid (v500 = (List.replicate 500 0).set 499 7) := Lib.hid rfl
  have hpl := Lib.hid pgAb_len
  have hpt := Lib.hid pgAb_take
  have hNB := NewB_ok 1 512 9 (.inl rfl) (by decide) w w [oldE w] (Sep.start w)
  have hNB : Calls Try.prog 21 #[.int .i64 1, .int .i64 512, .int .i64 9] w fun e w' => ∃ gb gm, e = .returned (.pointer (some ⟨gb, 0, none⟩)) ∧ Sep w w' (benchE gb gm (fun _ => none) S500 :: [oldE w]) := hNB
  have hEn := Enc_ab
  have hDe := Dec_ab
  clear hw hH1 hok1 hl0 hp1 hno ha2 ha3 ha4 ha5 ha6 L2 L3 L4 L5 hok6 k6 k7 ht6
  generalize v500 = v at *
  generalize S500 = S0 at *
  generalize pgAb = pg at *
  go_enter Try.func9, Try.ntmps9
  go_upto_region 3 with (first
    | (go_at_call 21; (with_reducible refine hNB.mono ?_); rintro e w1 ⟨gb, gm, rfl, hS1⟩)
    | (at_make; refine wp_make_B rfl _ _ rfl 500 500 rfl rfl rfl (by omega) ?_; intro w2 ho2 hB2 hs2; have hS2 : Sep w w2 (bytesE (.slice (some ⟨w1.heap.size, 0, none⟩) 500 500) (List.replicate 500 0) :: benchE gb gm (fun _ => none) S0 :: [oldE w]) := (hS1.bytes hB2 (ho2.owB' (base := w1.heap.size) (Nat.le_refl _) (by simp only [List.length_replicate, maxLen]; omega)) (Nat.le_refl _)))
    | fail)
  have hb2 : OwB w2 0 (.slice (some ⟨w1.heap.size, 0, none⟩) 500 500) (List.replicate 500 0) := hS2.head
  have hf2 := hb2.frozen (j := 499) (by rw [List.length_replicate]; omega)
  have hc2 := hb2.cell (j := 499) (by rw [List.length_replicate]; omega)
  have hst := hb2.set 499 7
  rw [← hv5.out] at hst
  have hS3 : Sep w (w2.setCell ⟨w1.heap.size, 499, none⟩ (.int .u8 7)) (bytesE (.slice (some ⟨w1.heap.size, 0, none⟩) 500 500) v :: benchE gb gm (fun _ => none) S0 :: [oldE w]) :=
    hS2.upd (Turn.of_grown (grownBy_setCell _ _ _) (fun _ e => e)) hst (fun g hg => ⟨.inl hg, by have := hS2.lt g hg; simpa using this⟩)
  clear hb2 hst ho2 hB2 hs2 hS2 hS1 hNB
  generalize hgg : w1.heap.size = gv at *
  clear hgg
  go_upto_region 4 with (fail)
  clear hf2 hc2
  generalize w2.setCell ⟨gv, 499, none⟩ (.int .u8 7) = w3 at *
  have hS4 : Sep w w3 (benchE gb gm (fun _ => none) S0 :: bytesE (.slice (some ⟨gv, 0, none⟩) 500 500) v :: [oldE w]) := hS3.sw1
  have hx4 : RdIn (bytesE (.slice (some ⟨gv, 0, none⟩) 500 500) v :: [oldE w]) (.slice (some ⟨gv, 0, none⟩) 500 500) v := ⟨_, List.mem_cons_self .., fun _ h => OwB.rd h⟩
  clear hS3
  go_upto_region 9 with (first
    | (go_at_call 22; (with_reducible refine (hWr _ _ _ _ _ hS4 _ hx4).mono ?_); rintro e w5 ⟨rfl, pv5, hS5'⟩)
    | (go_at_call 24; (with_reducible refine (hR2 _ _ _ _ _ hS5').mono ?_); rintro e w6 ⟨o6, pv6, rfl, hS6'⟩; have hS6 := hS6'.sw1)
    | (go_at_call 24; (with_reducible refine (hR3 _ _ _ _ _ hS6).mono ?_); rintro e w7 ⟨o7, pv7, rfl, hS7'⟩; have hS7 := hS7'.sw1)
    | (go_at_call 27; (with_reducible refine (hL4 _ _ _ _ _ hS7).mono ?_); rintro e w8 ⟨o8, pv8, rfl, hS8'⟩; obtain ⟨A8, c8, e8, -⟩ := (OwI.rd (hS8'.head : OwI w8 0 o8 l)).form; rw [hl2] at e8; subst e8; have hS8 := hS8'.sw1)
    | (go_at_call 25; (with_reducible refine (hS5 _ _ _ _ _ hS8).mono ?_); rintro e w9 ⟨o9, pv9, rfl, hS9'⟩; have hS9 := hS9'.sw1)
    | fail)
  clear hWr hR2 hR3 hL4 hS5 hS4 hS5' hS6 hS6' hS7 hS7' hS8 hS8' hS9'
  have hB9 : Below w9.heap.size w9 (w9.alloc (.cells #[.int .u8 97, .int .u8 98] 5 (2, 3))) := (Below.refl _ _).alloc (Nat.le_refl _) _
  have hab := RdB.litm w9 [97, 98] #[.int .u8 97, .int .u8 98] 5 (2, 3) 2 rfl rfl (by decide)
  have hS9a := hS9.below hB9
  have hpg : Hid (pagesF 512 497 = 2) := Lib.hid (by decide)
  have hPg := fun W => SPages_any 512 497 (by unfold i64w; omega) (by unfold i64w; omega) W
  rw [hpg.out] at hPg
  go_upto_region 10 with (first
    | (go_at_call 15; (with_reducible refine (hEn _ _ hab).mono ?_); rintro e w10 ⟨o10, rfl, ho10, hB10⟩; have hS10 := hS9a.bytes hB10 ho10 (Nat.le_refl _))
    | fail)
  have hr10 : RdB w10 o10 pg := OwB.rd (hS10.head : OwB w10 0 o10 pg)
  obtain ⟨A10, c10, e10, -⟩ := hr10.form
  rw [hpl.out] at e10
  subst e10
  clear hab hS9a hB9 ho10 hB10 hS9
  go_upto_region 14 with (first
    | (go_at_call 20; (with_reducible refine (hDe _ _ hr10).mono ?_); rintro e w11 ⟨o11, rfl, ho11, hB11⟩; have hS11 := (hS10.bytes hB11 ho11 (Nat.le_refl _)).sw2)
    | (go_at_call 26; (with_reducible refine (hF6 _ _ _ _ _ hS11).mono ?_); rintro e w12 ⟨pv12, rfl, hS12⟩)
    | fail)
  clear hr10 hS10 hS11 ho11 hB11
  go_wp2_with (first
    | (go_at_call 23; (with_reducible refine (hT6 _ _ _ _ _ hS12).mono ?_); rintro e w14 ⟨o14, rfl, hS14⟩; obtain ⟨A14, c14, rfl, -⟩ := (OwI.rd (hS14.head : OwI w14 0 o14 [])).form; have r11 : RdB w14 o11 [97, 98] := OwB.rd (hS14.tail.tail.head : OwB w14 0 o11 _); have r10 : RdB w14 (.slice A10 512 c10) pg := OwB.rd (hS14.tail.tail.tail.head : OwB w14 0 _ pg); have r9 : RdB w14 o9 [7] := OwB.rd (hS14.tail.tail.tail.tail.head : OwB w14 0 o9 _); have r6 : RdB w14 o6 v := OwB.rd (hS14.tail.tail.tail.tail.tail.tail.tail.head : OwB w14 0 o6 v); have r5 : RdB w14 (.slice (some ⟨gv, 0, none⟩) 500 500) v := OwB.rd (hS14.tail.tail.tail.tail.tail.tail.tail.tail.head : OwB w14 0 _ v); have q11 := run_B_string r11; have q9 := run_B_string r9; have q6 := run_B_string r6; have q5 := run_B_string r5; obtain ⟨A15, d15, q15, r15⟩ := r10.run_h 14 (by rw [hpl.out]; omega); rw [hpt.out] at r15; have q17 : ∀ w', (Instr.slice 25 (.slice A10 512 c10) none (some (.int .i64 14)) none).run Try.prog w' = .ok (.slice A15 14 d15) w' := (fun w' => q15 w'); clear q15; have q16 := run_B_string r15; clear r11 r10 r9 r6 r5 r15)
    | (go_at_call 10; (with_reducible refine (hPg _).mono ?_); rintro e w15 ⟨rfl, rfl⟩)
    | fail)
  go_ret
  exact ⟨rfl, hS14.belowOld (v := w) (by simp)⟩
end Go.Proofs.Ytgnhakgfgdelpaa
