/- espalierlaw03.awake: the walk. -/
import Derived.Test.YtipjngoenklioaaPlaLaw
namespace Go.Proofs.Ytipjngoenklioaa
open Go.RowKit
def b7 : List UInt8 := List.replicate 512 7
def b2 : List UInt8 := List.replicate 512 2
def A0 : PS := S0 512 4
def A1 : PS := A0.write 2 b7
def A2 : PS := A1.red.sync
def A3 : PS := A2.write 3 b2
def A4 : PS := A3.crash [] 0 2
def A5 : PS := { A4 with down := false }
theorem dev4 : devB (512 : Nat) (4 : Nat) = true := by decide
theorem dev3 : devB 512 3 = false := by decide
theorem A1_eq : A1 = A0.wrote 2 b7 := rfl
theorem A2_eq : A2 = A1.red.synced := rfl
theorem A3_eq : A3 = A2.wrote 3 b2 := rfl
theorem A4_eq : A4 = A3.fell [] 0 2 := rfl
theorem A1_read : readPg A1.wild A1.pg 2 = some b7 := rfl
theorem A5_read : readPg A5.wild A5.pg 3 = some ([2, 2] ++ List.replicate 510 0) := by
  show some _ = some _
  rfl
theorem OffA_new {w : World} {F : Nat → Prop} {r : Raw} {S : PS} {v : Value} {l : List UInt8} (h : PlRaw w F r S) {w' : World} (ho : OwB w' w.heap.size v l) : OffA F v := by
  intro A n c e hf
  have h1 := h.lt _ hf
  rcases ho.form with ⟨rfl, _⟩ | ⟨g, cap, rfl, hg, _⟩
  · cases e
  · injection e with hA
    injection hA with hA
    subst hA
    simp only at h1
    omega
theorem Off.new {w w' : World} {F : Nat → Prop} {r : Raw} {S : PS} {v : Value} {l : List UInt8} {b : Nat} (h : PlRaw w F r S) (ho : OwB w' b v l) (hb : w.heap.size ≤ b) : Off F v := fun g hg hf => by
  have h1 := h.lt g hf
  have h2 := (Own.lt ho g hg).1
  omega
theorem OwB.below2 {w w' : World} {b : Nat} {v : Value} {l : List UInt8} (h : OwB w b v l) (hb : Below w.heap.size w w') : OwB w' b v l := Own.below' h hb (Nat.le_refl _)
set_option maxRecDepth 100000 in
set_option maxHeartbeats 8000000 in
theorem awake_any (w : World) : Calls Try.prog 7 #[] w fun e w' => e = .returned (.bool true) ∧ Below w.heap.size w w' := by
  have n512 := page_any 512
  go_enter Try.func7, Try.ntmps7
  go_wp2_with fail
  refine (New_ok 512 4 dev4 _).mono ?_
  rintro e w1 ⟨r1, F1, rfl, hP1, hF1, hB1⟩
  unfold plPtr
  go_wp2_with (first
    | (go_at_call 8; refine (New_bad 512 3 (by omega) dev3 _).mono ?_; rintro e w2 ⟨rfl, rfl⟩)
    | fail)
  refine (page_any 512 7 (by omega) _).mono ?_
  rintro e w2 ⟨g2, rfl, ho2, hb2⟩
  go_wp2_with fail
  refine (Write_ok w2 F1 r1 A0 2 _ b7 (hP1.below hb2) rfl (by decide) ho2.rd (OffA_new hP1 ho2) rfl (by decide)).mono ?_
  rintro e w3 ⟨rfl, r3, F3, e3, _, hP3, hS3⟩
  have hB2 := hB1.trans (hb2.mono hB1.size)
  have hB3 := hB2.trans (hS3.turn.below hB2.size hF1)
  have hG3 : ∀ k, F3 k → w.heap.size ≤ k := fun k hk => (hS3.grow k hk).elim (hF1 k) (fun h => Nat.le_trans hB2.size h)
  rw [show WriteE A0 = 0 from rfl]
  clear hb2 ho2 hS3 hB1 hB2 hP1 hF1
  go_wp2_with fail
  have hrd := Read_ok w3 F3 r3 A1 2 b7 hP3 rfl (by decide) A1_read
  unfold plPtr at hrd
  rw [e3] at hrd
  refine hrd.mono ?_
  rintro e w4 ⟨g4, rfl, ho4, hP4, hT4, hO4⟩
  have q1 : A1.page = 512 := rfl
  rw [q1] at ho4 hO4 ⊢
  have hB4 := hB3.trans (hT4.below hB3.size hG3)
  clear hrd hP3 hT4 q1
  have hlo := Loose_any w4 F3 r3 A1.red hP4
  have hsy := Sync_any w4 F3 r3 A1.red hP4
  unfold plPtr at hlo hsy
  rw [e3] at hlo hsy
  rw [show A1.red.wild.length = 1 from rfl] at hlo
  rw [show SyncE A1.red = 0 from rfl] at hsy
  go_wp2_with (first
    | (go_at_call 17; refine hlo.mono ?_; rintro e w5 ⟨rfl, rfl⟩)
    | fail)
  refine hsy.mono ?_
  rintro e w5 ⟨rfl, r5, F5, e5, _, hP5, hS5⟩
  have ho5 := ho4.turn hS5.turn hO4
  have hO5 := ho4.off hS5 hO4
  have hB5 := hB4.trans (hS5.turn.below hB4.size hG3)
  have hG5 : ∀ k, F5 k → w.heap.size ≤ k := fun k hk => (hS5.grow k hk).elim (hG3 k) (fun h => Nat.le_trans hB4.size h)
  rw [e3] at e5
  clear hlo hsy hP4 ho4 hO4 hS5 hB4 hG3 e3
  go_wp2_with fail
  refine (page_any 512 2 (by omega) _).mono ?_
  rintro e w6 ⟨g6, rfl, ho6, hb6⟩
  have hwr := Write_ok w6 F5 r5 A2 3 _ b2 (hP5.below hb6) rfl (by decide) ho6.rd (OffA_new hP5 ho6) rfl (by decide)
  unfold plPtr at hwr
  rw [e5] at hwr
  go_wp2_with fail
  refine hwr.mono ?_
  rintro e w7 ⟨rfl, r7, F7, e7, _, hP7, hS7⟩
  have hB6 := hB5.trans (hb6.mono hB5.size)
  have hB7 := hB6.trans (hS7.turn.below hB6.size hG5)
  have hG7 : ∀ k, F7 k → w.heap.size ≤ k := fun k hk => (hS7.grow k hk).elim (hG5 k) (fun h => Nat.le_trans hB6.size h)
  have ho7 := (ho5.below2 hb6).turn hS7.turn hO5
  have hO7 := (ho5.below2 hb6).off hS7 hO5
  rw [show WriteE A2 = 0 from rfl]
  rw [e5] at e7
  clear hwr hP5 ho5 hO5 hS7 hB5 hB6 hG5 e5 ho6 hb6
  go_wp2_with fail
  refine (page_any 512 2 (by omega) _).mono ?_
  rintro e w8 ⟨g8, rfl, ho8, hb8⟩
  have hwr := Write_ref w8 F7 r7 A3 4 (.slice (some ⟨g8, 0, none⟩) 512 512) (hP7.below hb8) (by decide)
  unfold plPtr at hwr
  rw [e7, show A3.ref 4 = 30 from rfl] at hwr
  go_wp2_with fail
  refine hwr.mono ?_
  rintro e w9 ⟨rfl, hb9⟩
  have hP9 := (hP7.below hb8).below hb9
  have ho9 := (ho7.below2 hb8).below2 hb9
  have hB8 := hB7.trans (hb8.mono hB7.size)
  have hB9 := hB8.trans (hb9.mono hB8.size)
  have hcr := Crash_any w9 F7 r7 A3 (.slice none 0 0) [] 0 2 hP9 (RdI.nil _) (fun A n c e => by cases e) (by omega)
  unfold plPtr fallV at hcr
  rw [e7] at hcr
  clear hwr hP7 ho7 hB7 hB8 ho8 hb8 hb9
  go_wp2_with fail
  refine hcr.mono ?_
  rintro e w10 ⟨⟨v10, rfl⟩, ⟨r10, e10, hP10⟩, hT10⟩
  have ho10 := ho9.turn hT10 hO7
  have hB10 := hB9.trans (hT10.below hB9.size hG7)
  rw [e7] at e10
  have hup := Up_any w10 F7 r10 A4 hP10
  have hr2 := Read_bad w10 F7 r10 A4 2 hP10 (by decide)
  unfold plPtr at hup hr2
  rw [e10] at hup hr2
  clear hcr hP9 ho9 hB9 hT10 e7
  go_wp2_with (first
    | (go_at_call 14; refine hup.mono ?_; rintro e w11 ⟨rfl, rfl⟩)
    | fail)
  refine hr2.mono ?_
  rintro e w11 ⟨rfl, hP11, hb11⟩
  rw [show A4.ref 2 = 3 from rfl]
  have hst := Start_any w11 F7 r10 A4 hP11
  unfold plPtr at hst
  rw [e10] at hst
  go_wp2_with fail
  refine hst.mono ?_
  rintro e w12 ⟨⟨v12, rfl⟩, hP12, hg12⟩
  have hB11 := hB10.trans (hb11.mono hB10.size)
  have hT12 : Turn F7 w11 w12 := Turn.of_grown hg12 (fun k e => by cases e; rw [← e10]; exact hP11.fp)
  have hB12 := hB11.trans (hT12.below hB11.size hG7)
  have ho12 := (ho10.below2 hb11).turn hT12 hO7
  have hr3 := Read_ok w12 F7 r10 A5 3 ([2, 2] ++ List.replicate 510 0) hP12 rfl (by decide) A5_read
  unfold plPtr at hr3
  rw [e10] at hr3
  clear hup hr2 hP10 hP11 hst hg12 hB10 hb11 hB11 ho10
  go_wp2_with fail
  refine hr3.mono ?_
  rintro e w13 ⟨g13, rfl, ho13, hP13, hT13, hO13⟩
  have q1 : A5.page = 512 := rfl
  rw [q1] at ho13 hO13 ⊢
  have hB13 := hB12.trans (hT13.below hB12.size hG7)
  have hb7 := ho12.turn hT13 hO7
  clear hr3 hP12 hT13 hT12 q1 ho12 hB12
  go_wp2_with fail
  obtain ⟨X, hX⟩ : ∃ X, X = b7 := ⟨_, rfl⟩
  obtain ⟨Z, hZ⟩ : ∃ Z, Z = List.replicate 510 (0 : UInt8) := ⟨_, rfl⟩
  obtain ⟨Y, hY⟩ : ∃ Y, Y = [2, 2] ++ Z := ⟨_, rfl⟩
  rw [← hZ, ← hY] at ho13
  rw [← hX] at hb7
  have HX := Lib.hid hX
  have HZ := Lib.hid hZ
  have HY := Lib.hid hY
  have h13s := ho13.rd
  have h7s := hb7.rd
  have HR7 := Lib.hid h7s.drew
  have HR13 := Lib.hid h13s.drew
  have q7 := run_B_string (w := w13.drew) h7s
  have q13 := run_B_string (w := w13.drew) h13s
  have HP13 := Lib.hid hP13.drew
  clear ho13 hO13 hb7 hO7 n512 h13s h7s hX hZ hY hP13
  refine wp_region_held_drew (S := fun w' => (convert 28 9 (.slice (some ⟨g4, 0, none⟩) 512 512)).run Try.prog w' = .ok (.string ⟨X.toArray⟩) w' ∧ (convert 28 9 (.slice (some ⟨g13, 0, none⟩) 512 512)).run Try.prog w' = .ok (.string ⟨Y.toArray⟩) w') (by kernel_rfl) ⟨q7, q13⟩ (fun hHeld => ?_)
  refine wpAnyH_take (i := 0) (oi := ⟨some 87, _, _, _, _, _⟩) (v := ?v0) rfl (by kernel_rfl) (by kernel_rfl) (by kernel_rfl) (fun _ _ _ h => h) (Or.inl ⟨by rfl, ?y0⟩) (by assumption) ?r0
  case y0 => (intro w hSw; (try dsimp only at hSw); go_simp; first | done | with_reducible rfl)
  (try simp only [Act.put, List.setIfInBounds_toArray, List.set_cons_zero, List.set_cons_succ])
  refine wpAnyH_take (i := 1) (oi := ⟨some 88, _, _, _, _, _⟩) (v := ?v1) rfl (by kernel_rfl) (by kernel_rfl) (by kernel_rfl) (fun _ _ _ h => h) (Or.inl ⟨by rfl, ?y1⟩) (by assumption) ?r1
  case y1 => (intro w hSw; (try dsimp only at hSw); go_simp; first | done | with_reducible rfl)
  (try simp only [Act.put, List.setIfInBounds_toArray, List.set_cons_zero, List.set_cons_succ])
  refine wpAnyH_ready (rs := [2]) (by kernel_rfl) (by simp) ?_
  refine AllReadyH.cons (i := 2) (o := ⟨some 89, _, _, _, _, _⟩) rfl (fun K hK => ?_) ?m2
  go_simp
  (go_at_call 10; refine (page_any 512 7 (by omega) _).mono ?_; rintro e w14 ⟨g14, rfl, ho14, hb14⟩)
  have HR7b := Lib.hid (HR7.out.below hb14 (Nat.le_refl _))
  have HR13b := Lib.hid (HR13.out.below hb14 (Nat.le_refl _))
  have HP14 := Lib.hid (HP13.out.below hb14)
  have HB14 := Lib.hid (hB13.drew.trans (hb14.mono hB13.size))
  have q14 := run_B_string (l := X) (by rw [HX.out]; exact ho14.rd)
  refine hK.out _ _ ⟨run_B_string HR7b.out, run_B_string HR13b.out⟩ (fun hHeld => ?_)
  clear hK K
  (try simp only [Act.put, List.setIfInBounds_toArray, List.set_cons_zero, List.set_cons_succ])
  refine wpAnyH_ready (rs := [3]) (by kernel_rfl) (by simp) ?_
  refine AllReadyH.cons (i := 3) (o := ⟨some 90, _, _, _, _, _⟩) rfl (fun K hK => ?_) ?m3
  go_simp
  refine hK.out _ _ ⟨run_B_string HR7b.out, run_B_string HR13b.out⟩ (fun hHeld => ?_)
  clear hK K
  (try simp only [Act.put, List.setIfInBounds_toArray, List.set_cons_zero, List.set_cons_succ])
  refine wpAnyH_take (i := 4) (oi := ⟨some 91, _, _, _, _, _⟩) (v := ?v4) rfl (by kernel_rfl) (by kernel_rfl) (by kernel_rfl) (fun _ _ _ h => h) (Or.inl ⟨by rfl, ?y4⟩) (by assumption) ?r4
  case y4 => (intro w hSw; (try dsimp only at hSw); go_simp; first | done | with_reducible rfl)
  (try simp only [Act.put, List.setIfInBounds_toArray, List.set_cons_zero, List.set_cons_succ])
  refine wpAnyH_take (i := 5) (oi := ⟨some 92, _, _, _, _, _⟩) (v := ?v5) rfl (by kernel_rfl) (by kernel_rfl) (by kernel_rfl) (fun _ _ _ h => h) (Or.inl ⟨by rfl, ?y5⟩) (by assumption) ?r5
  case y5 => (intro w hSw; (try dsimp only at hSw); go_simp; first | done | with_reducible rfl)
  (try simp only [Act.put, List.setIfInBounds_toArray, List.set_cons_zero, List.set_cons_succ])
  refine wpAnyH_take (i := 6) (oi := ⟨some 93, _, _, _, _, _⟩) (v := ?v6) rfl (by kernel_rfl) (by kernel_rfl) (by kernel_rfl) (fun _ _ _ h => h) (Or.inl ⟨by rfl, ?y6⟩) (by assumption) ?r6
  case y6 => (intro w hSw; (try dsimp only at hSw); go_simp; first | done | with_reducible rfl)
  (try simp only [Act.put, List.setIfInBounds_toArray, List.set_cons_zero, List.set_cons_succ])
  refine wpAnyH_take (i := 7) (oi := ⟨some 94, _, _, _, _, _⟩) (v := ?v7) rfl (by kernel_rfl) (by kernel_rfl) (by kernel_rfl) (fun _ _ _ h => h) (Or.inl ⟨by rfl, ?y7⟩) (by assumption) ?r7
  case y7 => (intro w hSw; (try dsimp only at hSw); go_simp; first | done | with_reducible rfl)
  (try simp only [Act.put, List.setIfInBounds_toArray, List.set_cons_zero, List.set_cons_succ])
  refine wpAnyH_take (i := 8) (oi := ⟨some 95, _, _, _, _, _⟩) (v := ?v8) rfl (by kernel_rfl) (by kernel_rfl) (by kernel_rfl) (fun _ _ _ h => h) (Or.inl ⟨by rfl, ?y8⟩) (by assumption) ?r8
  case y8 => (intro w hSw; (try dsimp only at hSw); go_simp; first | done | with_reducible rfl)
  (try simp only [Act.put, List.setIfInBounds_toArray, List.set_cons_zero, List.set_cons_succ])
  refine wpAnyH_take (i := 9) (oi := ⟨some 96, _, _, _, _, _⟩) (v := ?v9) rfl (by kernel_rfl) (by kernel_rfl) (by kernel_rfl) (fun _ _ _ h => h) (Or.inl ⟨by rfl, ?y9⟩) (by assumption) ?r9
  case y9 => (intro w hSw; (try dsimp only at hSw); go_simp; first | done | with_reducible rfl)
  (try simp only [Act.put, List.setIfInBounds_toArray, List.set_cons_zero, List.set_cons_succ])
  refine wpAnyH_take (i := 10) (oi := ⟨some 97, _, _, _, _, _⟩) (v := ?v10) rfl (by kernel_rfl) (by kernel_rfl) (by kernel_rfl) (fun _ _ _ h => h) (Or.inl ⟨by rfl, ?y10⟩) (by assumption) ?r10
  case y10 => (intro w hSw; (try dsimp only at hSw); go_simp; first | done | with_reducible rfl)
  (try simp only [Act.put, List.setIfInBounds_toArray, List.set_cons_zero, List.set_cons_succ])
  refine wpAnyH_take (i := 11) (oi := ⟨some 98, _, _, _, _, _⟩) (v := ?v11) rfl (by kernel_rfl) (by kernel_rfl) (by kernel_rfl) (fun _ _ _ h => h) (Or.inl ⟨by rfl, ?y11⟩) (by assumption) ?r11
  case y11 => (intro w hSw; (try dsimp only at hSw); go_simp; first | done | with_reducible rfl)
  (try simp only [Act.put, List.setIfInBounds_toArray, List.set_cons_zero, List.set_cons_succ])
  refine wpAnyH_ready (rs := [12, 13]) (by kernel_rfl) (by simp) ?_
  refine AllReadyH.cons (i := 12) (o := ⟨some 99, _, _, _, _, _⟩) rfl (fun K hK => ?_) ?mA
  go_simp
  refine hK.out _ _ ⟨run_B_string (HR7b.out.alloc _), run_B_string (HR13b.out.alloc _)⟩ (fun hHeld => ?_)
  clear hK K
  (try simp only [Act.put, List.setIfInBounds_toArray, List.set_cons_zero, List.set_cons_succ])
  refine wpAnyH_ready (rs := [13]) (by kernel_rfl) (by simp) ?_
  refine AllReadyH.cons (i := 13) (o := ⟨some 100, _, _, _, _, _⟩) rfl (fun K hK => ?_) ?mB
  go_simp
  (go_at_call 10; refine (page_any 510 0 (by omega) _).mono ?_; rintro e w15 ⟨g15, rfl, ho15, hb15⟩)
  have hb15b : Below w14.heap.size w14 w15 := ((Below.refl w14.heap.size w14).alloc (Nat.le_refl _) _).trans (hb15.mono (by simp))
  have hn15 : OwB w15 w14.heap.size (.slice (some ⟨w14.heap.size, 0, none⟩) 2 2) [2, 2] := ((OBlk.new' w14 5 (bvs [2, 2])).owB' (Nat.le_refl _) (by decide)).below2 hb15
  refine hK.out _ _ ⟨run_B_string (HR7b.out.below hb15b (Nat.le_refl _)), run_B_string (HR13b.out.below hb15b (Nat.le_refl _))⟩ (fun hHeld => ?_)
  clear hK K
  (try simp only [Act.put, List.setIfInBounds_toArray, List.set_cons_zero, List.set_cons_succ])
  refine wpAnyH_ready (rs := [14]) (by kernel_rfl) (by simp) ?_
  refine AllReadyH.cons (i := 14) (o := ⟨some 101, _, _, _, _, _⟩) rfl (fun K hK => ?_) ?mE12
  refine step_append_B_w (.tmp 99) (.tmp 100) rfl rfl w14.heap.size _ [2, 2] rfl hn15 _ Z rfl (by rw [HZ.out]; exact ho15.rd) (by rw [HZ.out]; decide) hb15b.size ?_
  intro v16 w16 ho16 hg16 hk16
  have hb16 : Below w14.heap.size w14 w16 := hb15b.grown hg16 hb15b.size (fun k hk => (Own.lt hn15 k hk).1)
  have HP16 := HP14.out.below hb16
  have HB16 := HB14.out.trans (hb16.mono HB14.out.size)
  have q16 := run_B_string (l := Y) (by rw [HY.out]; exact ho16.rd)
  have hpg := Page_any w16 F7 r10 A5.red HP16
  have hpn := Pages_any w16 F7 r10 A5.red HP16
  unfold plPtr at hpg hpn
  rw [e10] at hpg hpn
  rw [show ((A5.red.page : Nat) : Int) = 512 from rfl] at hpg
  rw [show ((A5.red.np : Nat) : Int) = 4 from rfl] at hpn
  clear ho16 hg16 hk16
  refine hK.out _ _ ⟨run_B_string (HR7b.out.below hb16 (Nat.le_refl _)), run_B_string (HR13b.out.below hb16 (Nat.le_refl _))⟩ (fun hHeld => ?_)
  clear hK K
  (try simp only [Act.put, List.setIfInBounds_toArray, List.set_cons_zero, List.set_cons_succ])
  refine wpAnyH_ready (rs := [15]) (by kernel_rfl) (by simp) ?_
  refine AllReadyH.cons (i := 15) (o := ⟨some 102, _, _, _, _, _⟩) rfl (fun K hK => ?_) ?mF12
  go_simp
  refine hK.out _ _ ⟨run_B_string (HR7b.out.below hb16 (Nat.le_refl _)), run_B_string (HR13b.out.below hb16 (Nat.le_refl _))⟩ (fun hHeld => ?_)
  clear hK K
  (try simp only [Act.put, List.setIfInBounds_toArray, List.set_cons_zero, List.set_cons_succ])
  refine wpAnyH_take (i := 16) (oi := ⟨some 103, _, _, _, _, _⟩) (v := ?v16_12) rfl (by kernel_rfl) (by kernel_rfl) (by kernel_rfl) (fun _ _ _ h => h) (Or.inl ⟨by rfl, ?y16_12⟩) (by assumption) ?r16_12
  case y16_12 => (intro w hSw; (try dsimp only at hSw); go_simp; first | done | with_reducible rfl)
  (try simp only [Act.put, List.setIfInBounds_toArray, List.set_cons_zero, List.set_cons_succ])
  refine wpAnyH_take (i := 17) (oi := ⟨some 104, _, _, _, _, _⟩) (v := ?v17_12) rfl (by kernel_rfl) (by kernel_rfl) (by kernel_rfl) (fun _ _ _ h => h) (Or.inl ⟨by rfl, ?y17_12⟩) (by assumption) ?r17_12
  case y17_12 => (intro w hSw; (try dsimp only at hSw); go_simp; first | done | with_reducible rfl)
  (try simp only [Act.put, List.setIfInBounds_toArray, List.set_cons_zero, List.set_cons_succ])
  refine wpAnyH_take (i := 18) (oi := ⟨some 105, _, _, _, _, _⟩) (v := ?v18_12) rfl (by kernel_rfl) (by kernel_rfl) (by kernel_rfl) (fun _ _ _ h => h) (Or.inl ⟨by rfl, ?y18_12⟩) (by assumption) ?r18_12
  case y18_12 => (intro w hSw; (try dsimp only at hSw); go_simp; first | done | with_reducible rfl)
  (try simp only [Act.put, List.setIfInBounds_toArray, List.set_cons_zero, List.set_cons_succ])
  refine wpAnyH_take (i := 19) (oi := ⟨some 106, _, _, _, _, _⟩) (v := ?v19_12) rfl (by kernel_rfl) (by kernel_rfl) (by kernel_rfl) (fun _ _ _ h => h) (Or.inl ⟨by rfl, ?y19_12⟩) (by assumption) ?r19_12
  case y19_12 => (intro w hSw; (try dsimp only at hSw); go_simp; first | done | with_reducible rfl)
  (try simp only [Act.put, List.setIfInBounds_toArray, List.set_cons_zero, List.set_cons_succ])
  refine wpAnyH_ready (rs := [20]) (by kernel_rfl) (by simp) ?_
  refine AllReadyH.cons (i := 20) (o := ⟨some 107, _, _, _, _, _⟩) rfl (fun K hK => ?_) ?mG12
  go_simp
  (go_at_call 19; refine hpg.mono ?_; rintro e w17 ⟨rfl, rfl⟩)
  refine hK.out _ _ ⟨run_B_string (HR7b.out.below hb16 (Nat.le_refl _)), run_B_string (HR13b.out.below hb16 (Nat.le_refl _))⟩ (fun hHeld => ?_)
  clear hK K
  (try simp only [Act.put, List.setIfInBounds_toArray, List.set_cons_zero, List.set_cons_succ])
  refine wpAnyH_take (i := 21) (oi := ⟨some 108, _, _, _, _, _⟩) (v := ?v21_12) rfl (by kernel_rfl) (by kernel_rfl) (by kernel_rfl) (fun _ _ _ h => h) (Or.inl ⟨by rfl, ?y21_12⟩) (by assumption) ?r21_12
  case y21_12 => (intro w hSw; (try dsimp only at hSw); go_simp; first | done | with_reducible rfl)
  (try simp only [Act.put, List.setIfInBounds_toArray, List.set_cons_zero, List.set_cons_succ])
  refine wpAnyH_take (i := 22) (oi := ⟨some 109, _, _, _, _, _⟩) (v := ?v22_12) rfl (by kernel_rfl) (by kernel_rfl) (by kernel_rfl) (fun _ _ _ h => h) (Or.inl ⟨by rfl, ?y22_12⟩) (by assumption) ?r22_12
  case y22_12 => (intro w hSw; (try dsimp only at hSw); go_simp; first | done | with_reducible rfl)
  (try simp only [Act.put, List.setIfInBounds_toArray, List.set_cons_zero, List.set_cons_succ])
  refine wpAnyH_take (i := 23) (oi := ⟨some 110, _, _, _, _, _⟩) (v := ?v23_12) rfl (by kernel_rfl) (by kernel_rfl) (by kernel_rfl) (fun _ _ _ h => h) (Or.inl ⟨by rfl, ?y23_12⟩) (by assumption) ?r23_12
  case y23_12 => (intro w hSw; (try dsimp only at hSw); go_simp; first | done | with_reducible rfl)
  (try simp only [Act.put, List.setIfInBounds_toArray, List.set_cons_zero, List.set_cons_succ])
  refine wpAnyH_take (i := 24) (oi := ⟨some 111, _, _, _, _, _⟩) (v := ?v24_12) rfl (by kernel_rfl) (by kernel_rfl) (by kernel_rfl) (fun _ _ _ h => h) (Or.inl ⟨by rfl, ?y24_12⟩) (by assumption) ?r24_12
  case y24_12 => (intro w hSw; (try dsimp only at hSw); go_simp; first | done | with_reducible rfl)
  (try simp only [Act.put, List.setIfInBounds_toArray, List.set_cons_zero, List.set_cons_succ])
  refine wpAnyH_ready (rs := [25]) (by kernel_rfl) (by simp) ?_
  refine AllReadyH.cons (i := 25) (o := ⟨some 112, _, _, _, _, _⟩) rfl (fun K hK => ?_) ?mH12
  go_simp
  (go_at_call 20; refine hpn.mono ?_; rintro e w17 ⟨rfl, hb17⟩)
  refine hK.out _ _ ⟨run_B_string ((HR7b.out.below hb16 (Nat.le_refl _)).below hb17 (Nat.le_refl _)), run_B_string ((HR13b.out.below hb16 (Nat.le_refl _)).below hb17 (Nat.le_refl _))⟩ (fun hHeld => ?_)
  clear hK K
  (try simp only [Act.put, List.setIfInBounds_toArray, List.set_cons_zero, List.set_cons_succ])
  refine wpAnyH_take (i := 26) (oi := ⟨some 113, _, _, _, _, _⟩) (v := ?v26_12) rfl (by kernel_rfl) (by kernel_rfl) (by kernel_rfl) (fun _ _ _ h => h) (Or.inl ⟨by rfl, ?y26_12⟩) (by assumption) ?r26_12
  case y26_12 => (intro w hSw; (try dsimp only at hSw); go_simp; first | done | with_reducible rfl)
  (try simp only [Act.put, List.setIfInBounds_toArray, List.set_cons_zero, List.set_cons_succ])
  refine wpAnyH_take (i := 27) (oi := ⟨some 114, _, _, _, _, _⟩) (v := ?v27_12) rfl (by kernel_rfl) (by kernel_rfl) (by kernel_rfl) (fun _ _ _ h => h) (Or.inl ⟨by rfl, ?y27_12⟩) (by assumption) ?r27_12
  case y27_12 => (intro w hSw; (try dsimp only at hSw); go_simp; first | done | with_reducible rfl)
  (try simp only [Act.put, List.setIfInBounds_toArray, List.set_cons_zero, List.set_cons_succ])
  refine wpAnyH_take (i := 28) (oi := ⟨some 0, _, _, _, _, _⟩) (v := ?v28_12) rfl (by kernel_rfl) (by kernel_rfl) (by kernel_rfl) (fun _ _ _ h => h) (Or.inl ⟨by rfl, ?y28_12⟩) (by assumption) ?r28_12
  case y28_12 => (intro w hSw; (try dsimp only at hSw); go_simp; first | done | with_reducible rfl)
  (try simp only [Act.put, List.setIfInBounds_toArray, List.set_cons_zero, List.set_cons_succ])
  refine wpAnyH_done (by kernel_rfl) ?_ _
  go_wp2_with fail
  go_ret
  exact ⟨rfl, HB16.trans (hb17.mono HB16.size)⟩
  case mH12 => exact AllReadyH.nil
  case mG12 => exact AllReadyH.nil
  case mF12 => exact AllReadyH.nil
  case mE12 => exact AllReadyH.nil
  case mB => exact AllReadyH.nil
  case mA =>
    refine AllReadyH.cons (i := 13) (o := ⟨some 100, _, _, _, _, _⟩) rfl (fun K hK => ?_) ?mC
    go_simp
    (go_at_call 10; refine (page_any 510 0 (by omega) _).mono ?_; rintro e w15 ⟨g15, rfl, ho15, hb15⟩)
    refine hK.out _ _ ⟨run_B_string (HR7b.out.below hb15 (Nat.le_refl _)), run_B_string (HR13b.out.below hb15 (Nat.le_refl _))⟩ (fun hHeld => ?_)
    clear hK K
    (try simp only [Act.put, List.setIfInBounds_toArray, List.set_cons_zero, List.set_cons_succ])
    refine wpAnyH_ready (rs := [12]) (by kernel_rfl) (by simp) ?_
    refine AllReadyH.cons (i := 12) (o := ⟨some 99, _, _, _, _, _⟩) rfl (fun K hK => ?_) ?mD
    go_simp
    refine hK.out _ _ ⟨run_B_string ((HR7b.out.below hb15 (Nat.le_refl _)).alloc _), run_B_string ((HR13b.out.below hb15 (Nat.le_refl _)).alloc _)⟩ (fun hHeld => ?_)
    clear hK K
    (try simp only [Act.put, List.setIfInBounds_toArray, List.set_cons_zero, List.set_cons_succ])
    have hb15b : Below w14.heap.size w14 (w15.alloc (.cells (bvs [2, 2]).toArray 5)) := hb15.alloc hb15.size _
    have hn15 : OwB (w15.alloc (.cells (bvs [2, 2]).toArray 5)) w14.heap.size (.slice (some ⟨w15.heap.size, 0, none⟩) 2 2) [2, 2] := (OBlk.new' w15 5 (bvs [2, 2])).owB' hb15.size (by decide)
    have hz15 := ho15.rd.alloc (.cells (bvs [2, 2]).toArray 5)
    refine wpAnyH_ready (rs := [14]) (by kernel_rfl) (by simp) ?_
    refine AllReadyH.cons (i := 14) (o := ⟨some 101, _, _, _, _, _⟩) rfl (fun K hK => ?_) ?mE13
    refine step_append_B_w (.tmp 99) (.tmp 100) rfl rfl w14.heap.size _ [2, 2] rfl hn15 _ Z rfl (by rw [HZ.out]; exact hz15) (by rw [HZ.out]; decide) hb15b.size ?_
    intro v16 w16 ho16 hg16 hk16
    have hb16 : Below w14.heap.size w14 w16 := hb15b.grown hg16 hb15b.size (fun k hk => (Own.lt hn15 k hk).1)
    have HP16 := HP14.out.below hb16
    have HB16 := HB14.out.trans (hb16.mono HB14.out.size)
    have q16 := run_B_string (l := Y) (by rw [HY.out]; exact ho16.rd)
    have hpg := Page_any w16 F7 r10 A5.red HP16
    have hpn := Pages_any w16 F7 r10 A5.red HP16
    unfold plPtr at hpg hpn
    rw [e10] at hpg hpn
    rw [show ((A5.red.page : Nat) : Int) = 512 from rfl] at hpg
    rw [show ((A5.red.np : Nat) : Int) = 4 from rfl] at hpn
    clear ho16 hg16 hk16
    refine hK.out _ _ ⟨run_B_string (HR7b.out.below hb16 (Nat.le_refl _)), run_B_string (HR13b.out.below hb16 (Nat.le_refl _))⟩ (fun hHeld => ?_)
    clear hK K
    (try simp only [Act.put, List.setIfInBounds_toArray, List.set_cons_zero, List.set_cons_succ])
    refine wpAnyH_ready (rs := [15]) (by kernel_rfl) (by simp) ?_
    refine AllReadyH.cons (i := 15) (o := ⟨some 102, _, _, _, _, _⟩) rfl (fun K hK => ?_) ?mF13
    go_simp
    refine hK.out _ _ ⟨run_B_string (HR7b.out.below hb16 (Nat.le_refl _)), run_B_string (HR13b.out.below hb16 (Nat.le_refl _))⟩ (fun hHeld => ?_)
    clear hK K
    (try simp only [Act.put, List.setIfInBounds_toArray, List.set_cons_zero, List.set_cons_succ])
    refine wpAnyH_take (i := 16) (oi := ⟨some 103, _, _, _, _, _⟩) (v := ?v16_13) rfl (by kernel_rfl) (by kernel_rfl) (by kernel_rfl) (fun _ _ _ h => h) (Or.inl ⟨by rfl, ?y16_13⟩) (by assumption) ?r16_13
    case y16_13 => (intro w hSw; (try dsimp only at hSw); go_simp; first | done | with_reducible rfl)
    (try simp only [Act.put, List.setIfInBounds_toArray, List.set_cons_zero, List.set_cons_succ])
    refine wpAnyH_take (i := 17) (oi := ⟨some 104, _, _, _, _, _⟩) (v := ?v17_13) rfl (by kernel_rfl) (by kernel_rfl) (by kernel_rfl) (fun _ _ _ h => h) (Or.inl ⟨by rfl, ?y17_13⟩) (by assumption) ?r17_13
    case y17_13 => (intro w hSw; (try dsimp only at hSw); go_simp; first | done | with_reducible rfl)
    (try simp only [Act.put, List.setIfInBounds_toArray, List.set_cons_zero, List.set_cons_succ])
    refine wpAnyH_take (i := 18) (oi := ⟨some 105, _, _, _, _, _⟩) (v := ?v18_13) rfl (by kernel_rfl) (by kernel_rfl) (by kernel_rfl) (fun _ _ _ h => h) (Or.inl ⟨by rfl, ?y18_13⟩) (by assumption) ?r18_13
    case y18_13 => (intro w hSw; (try dsimp only at hSw); go_simp; first | done | with_reducible rfl)
    (try simp only [Act.put, List.setIfInBounds_toArray, List.set_cons_zero, List.set_cons_succ])
    refine wpAnyH_take (i := 19) (oi := ⟨some 106, _, _, _, _, _⟩) (v := ?v19_13) rfl (by kernel_rfl) (by kernel_rfl) (by kernel_rfl) (fun _ _ _ h => h) (Or.inl ⟨by rfl, ?y19_13⟩) (by assumption) ?r19_13
    case y19_13 => (intro w hSw; (try dsimp only at hSw); go_simp; first | done | with_reducible rfl)
    (try simp only [Act.put, List.setIfInBounds_toArray, List.set_cons_zero, List.set_cons_succ])
    refine wpAnyH_ready (rs := [20]) (by kernel_rfl) (by simp) ?_
    refine AllReadyH.cons (i := 20) (o := ⟨some 107, _, _, _, _, _⟩) rfl (fun K hK => ?_) ?mG13
    go_simp
    (go_at_call 19; refine hpg.mono ?_; rintro e w17 ⟨rfl, rfl⟩)
    refine hK.out _ _ ⟨run_B_string (HR7b.out.below hb16 (Nat.le_refl _)), run_B_string (HR13b.out.below hb16 (Nat.le_refl _))⟩ (fun hHeld => ?_)
    clear hK K
    (try simp only [Act.put, List.setIfInBounds_toArray, List.set_cons_zero, List.set_cons_succ])
    refine wpAnyH_take (i := 21) (oi := ⟨some 108, _, _, _, _, _⟩) (v := ?v21_13) rfl (by kernel_rfl) (by kernel_rfl) (by kernel_rfl) (fun _ _ _ h => h) (Or.inl ⟨by rfl, ?y21_13⟩) (by assumption) ?r21_13
    case y21_13 => (intro w hSw; (try dsimp only at hSw); go_simp; first | done | with_reducible rfl)
    (try simp only [Act.put, List.setIfInBounds_toArray, List.set_cons_zero, List.set_cons_succ])
    refine wpAnyH_take (i := 22) (oi := ⟨some 109, _, _, _, _, _⟩) (v := ?v22_13) rfl (by kernel_rfl) (by kernel_rfl) (by kernel_rfl) (fun _ _ _ h => h) (Or.inl ⟨by rfl, ?y22_13⟩) (by assumption) ?r22_13
    case y22_13 => (intro w hSw; (try dsimp only at hSw); go_simp; first | done | with_reducible rfl)
    (try simp only [Act.put, List.setIfInBounds_toArray, List.set_cons_zero, List.set_cons_succ])
    refine wpAnyH_take (i := 23) (oi := ⟨some 110, _, _, _, _, _⟩) (v := ?v23_13) rfl (by kernel_rfl) (by kernel_rfl) (by kernel_rfl) (fun _ _ _ h => h) (Or.inl ⟨by rfl, ?y23_13⟩) (by assumption) ?r23_13
    case y23_13 => (intro w hSw; (try dsimp only at hSw); go_simp; first | done | with_reducible rfl)
    (try simp only [Act.put, List.setIfInBounds_toArray, List.set_cons_zero, List.set_cons_succ])
    refine wpAnyH_take (i := 24) (oi := ⟨some 111, _, _, _, _, _⟩) (v := ?v24_13) rfl (by kernel_rfl) (by kernel_rfl) (by kernel_rfl) (fun _ _ _ h => h) (Or.inl ⟨by rfl, ?y24_13⟩) (by assumption) ?r24_13
    case y24_13 => (intro w hSw; (try dsimp only at hSw); go_simp; first | done | with_reducible rfl)
    (try simp only [Act.put, List.setIfInBounds_toArray, List.set_cons_zero, List.set_cons_succ])
    refine wpAnyH_ready (rs := [25]) (by kernel_rfl) (by simp) ?_
    refine AllReadyH.cons (i := 25) (o := ⟨some 112, _, _, _, _, _⟩) rfl (fun K hK => ?_) ?mH13
    go_simp
    (go_at_call 20; refine hpn.mono ?_; rintro e w17 ⟨rfl, hb17⟩)
    refine hK.out _ _ ⟨run_B_string ((HR7b.out.below hb16 (Nat.le_refl _)).below hb17 (Nat.le_refl _)), run_B_string ((HR13b.out.below hb16 (Nat.le_refl _)).below hb17 (Nat.le_refl _))⟩ (fun hHeld => ?_)
    clear hK K
    (try simp only [Act.put, List.setIfInBounds_toArray, List.set_cons_zero, List.set_cons_succ])
    refine wpAnyH_take (i := 26) (oi := ⟨some 113, _, _, _, _, _⟩) (v := ?v26_13) rfl (by kernel_rfl) (by kernel_rfl) (by kernel_rfl) (fun _ _ _ h => h) (Or.inl ⟨by rfl, ?y26_13⟩) (by assumption) ?r26_13
    case y26_13 => (intro w hSw; (try dsimp only at hSw); go_simp; first | done | with_reducible rfl)
    (try simp only [Act.put, List.setIfInBounds_toArray, List.set_cons_zero, List.set_cons_succ])
    refine wpAnyH_take (i := 27) (oi := ⟨some 114, _, _, _, _, _⟩) (v := ?v27_13) rfl (by kernel_rfl) (by kernel_rfl) (by kernel_rfl) (fun _ _ _ h => h) (Or.inl ⟨by rfl, ?y27_13⟩) (by assumption) ?r27_13
    case y27_13 => (intro w hSw; (try dsimp only at hSw); go_simp; first | done | with_reducible rfl)
    (try simp only [Act.put, List.setIfInBounds_toArray, List.set_cons_zero, List.set_cons_succ])
    refine wpAnyH_take (i := 28) (oi := ⟨some 0, _, _, _, _, _⟩) (v := ?v28_13) rfl (by kernel_rfl) (by kernel_rfl) (by kernel_rfl) (fun _ _ _ h => h) (Or.inl ⟨by rfl, ?y28_13⟩) (by assumption) ?r28_13
    case y28_13 => (intro w hSw; (try dsimp only at hSw); go_simp; first | done | with_reducible rfl)
    (try simp only [Act.put, List.setIfInBounds_toArray, List.set_cons_zero, List.set_cons_succ])
    refine wpAnyH_done (by kernel_rfl) ?_ _
    go_wp2_with fail
    go_ret
    exact ⟨rfl, HB16.trans (hb17.mono HB16.size)⟩
    case mH13 => exact AllReadyH.nil
    case mG13 => exact AllReadyH.nil
    case mF13 => exact AllReadyH.nil
    case mE13 => exact AllReadyH.nil
    case mD => exact AllReadyH.nil
    case mC => exact AllReadyH.nil
  case m3 => exact AllReadyH.nil
  case m2 => exact AllReadyH.nil
end Go.Proofs.Ytipjngoenklioaa
