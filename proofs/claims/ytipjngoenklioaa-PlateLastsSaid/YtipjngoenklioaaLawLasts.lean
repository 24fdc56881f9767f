/- espalierlaw03.PlateLasts: the walk. -/
import Derived.Test.YtipjngoenklioaaLastsF
import Derived.Test.YtipjngoenklioaaPlaAwake
import Derived.Deep.CutBlock
import Derived.Outline
namespace Go.Proofs.Ytipjngoenklioaa
open Go.RowKit
theorem ref_zero {S : PS} {n : Nat} (hd : S.down = false) (hn : n < S.np) : S.ref (n : Int) = 0 := by
  unfold PS.ref
  rw [hd, if_neg (by simp), if_neg (by omega)]
structure Up1 (S : PS) (k : Nat) : Prop where
  page : S.page = 512
  np : S.np = 8
  down : S.down = false
  acts : S.acts = -1
  len : S.wild.length = k
theorem Up1.write {S : PS} {k : Nat} (h : Up1 S k) (n : Nat) (l : List UInt8) : Up1 (S.write n l) (k + 1) := by
  have e : S.write n l = S.wrote n l := by
    unfold PS.write
    rw [show (S.acts == 0) = false by rw [h.acts]; rfl]; rfl
  rw [e]
  refine { page := h.page, np := h.np, down := h.down, acts := ?_, len := ?_ }
  · show (if 0 < S.acts then S.acts - 1 else S.acts) = -1
    rw [h.acts]; rfl
  · show (S.wild ++ [(n, l)]).length = k + 1
    simp [h.len]
structure Up2 (S : PS) (l : List OpV) (B : List (List UInt8)) (k : Nat) : Prop where
  page : S.page = 512
  np : S.np = 8
  st : (S.down = false ∧ S.pg = B ∧ S.wild = wsOf (l.take k)) ∨ (S.down = true ∧ S.wild = [] ∧ MayPg (wsOf (l.take k)) B S.pg)
theorem wsOf_succ (l : List OpV) (k : Nat) (hk : k < l.length) : wsOf (l.take (k + 1)) = wsOf (l.take k) ++ [(nOf l[k].n, List.replicate 512 l[k].byte)] := by
  unfold wsOf
  rw [List.take_succ_eq_append_getElem hk, List.map_append]; rfl
theorem Up2.write {S : PS} {l : List OpV} {B : List (List UInt8)} {k : Nat} (h : Up2 S l B k) (hd : S.down = false) (hk : k < l.length) : Up2 (S.write (nOf l[k].n) (List.replicate 512 l[k].byte)) l B (k + 1) := by
  have hu : S.pg = B ∧ S.wild = wsOf (l.take k) := by
    rcases h.st with ⟨_, h1, h2⟩ | ⟨h1, _⟩
    · exact ⟨h1, h2⟩
    · rw [hd] at h1; cases h1
  have hw : (S.wrote (nOf l[k].n) (List.replicate 512 l[k].byte)).wild = wsOf (l.take (k + 1)) := by
    rw [wsOf_succ l k hk, ← hu.2]; rfl
  unfold PS.write
  split
  · refine { page := h.page, np := h.np, st := .inr ⟨rfl, rfl, ?_⟩ }
    show MayPg _ B (fallN _ _ _ _ (S.wrote (nOf l[k].n) (List.replicate 512 l[k].byte)).wild (S.wrote (nOf l[k].n) (List.replicate 512 l[k].byte)).pg _)
    rw [hw, show (S.wrote (nOf l[k].n) (List.replicate 512 l[k].byte)).pg = B from hu.1]
    exact MayPg.fall _ _ _ _ _ _ _
  · exact { page := h.page, np := h.np, st := .inl ⟨hd, hu.1, hw⟩ }
structure Dn (S : PS) (l : List OpV) (B : List (List UInt8)) (k : Nat) : Prop where
  page : S.page = 512
  np : S.np = 8
  down : S.down = true
  wild : S.wild = []
  may : MayPg (wsOf (l.take k)) B S.pg
theorem Up2.crash {S : PS} {l : List OpV} {B : List (List UInt8)} {k : Nat} (h : Up2 S l B k) (ks : List Int) (tn at_ : Int) : Dn (S.crash ks tn at_) l B k := by
  unfold PS.crash
  rcases h.st with ⟨hd, h1, h2⟩ | ⟨hd, h1, h2⟩
  · rw [hd]
    refine { page := h.page, np := h.np, down := rfl, wild := rfl, may := ?_ }
    show MayPg _ B (fallN _ _ _ _ S.wild S.pg _)
    rw [h2, h1]
    exact MayPg.fall _ _ _ _ _ _ _
  · rw [hd]
    exact { page := h.page, np := h.np, down := hd, wild := h1, may := h2 }
theorem u8_beq (x y : UInt8) : ((x.toNat : Int) == (y.toNat : Int)) = (x == y) := by
  rw [Bool.eq_iff_iff, beq_iff_eq, beq_iff_eq]
  exact ⟨fun h => UInt8.toNat_inj.1 (by omega), fun h => by rw [h]⟩
/-- Element i of a script, at its cells. -/
theorem RdI.belowW {w w' : World} {v : Value} {ks : List Int} (h : RdI w v ks) (hb : Below w.heap.size w w') : RdI w' v ks := RdI.below h hb
theorem RdOps.at_ {w : World} {A : Option Addr} {m c : Nat} {l : List OpV} (h : RdOps w (.slice A m c) l) {i : Nat} (hi : i < l.length) : ∃ ad, A = some ad ∧ w.cell? ⟨(ad.add (i * 8)).block, (ad.add (i * 8)).off + 2, none⟩ = some (.int .i64 l[i].n) ∧ w.cell? ⟨(ad.add (i * 8)).block, (ad.add (i * 8)).off + 3, none⟩ = some (.int .u8 (l[i].byte.toNat : Int)) := by
  obtain ⟨A', c', hv, _, _, hc⟩ := h.form
  injection hv with hA _ _
  subst hA
  obtain ⟨ad, rfl, hcell⟩ := hc i hi
  have e2 := hcell 2 _ rfl
  have e3 := hcell 3 _ rfl
  rw [← add_of_add] at e2 e3
  exact ⟨ad, rfl, e2, e3⟩
theorem RdOps.fall0 {w : World} {A : Option Addr} {m c : Nat} {l : List OpV} (h : RdOps w (.slice A m c) l) (hi : 0 < l.length) : ∃ ad, A = some ad ∧ ∃ o, o ∈ l ∧ w.cell? ⟨ad.block, ad.off + 5, none⟩ = some o.kv ∧ w.cell? ⟨ad.block, ad.off + 6, none⟩ = some (.int .i64 o.torn) ∧ w.cell? ⟨ad.block, ad.off + 7, none⟩ = some (.int .i64 o.at_) := by
  obtain ⟨A', c', hv, _, _, hc⟩ := h.form
  injection hv with hA _ _
  subst hA
  obtain ⟨ad, rfl, hcell⟩ := hc 0 hi
  exact ⟨ad, rfl, l[0], List.getElem_mem hi, hcell 5 _ rfl, hcell 6 _ rfl, hcell 7 _ rfl⟩
theorem RdOps.below {w w' : World} {v : Value} {l : List OpV} (h : RdOps w v l) (hb : Below w.heap.size w w') : RdOps w' v l := by
  obtain ⟨A, c, hv, h1, h2, hc⟩ := h.form
  refine ⟨⟨A, c, hv, h1, h2, fun i hi => ?_⟩, fun o ho => ?_⟩
  · obtain ⟨ad, hA, hcell⟩ := hc i hi
    refine ⟨ad, hA, fun r u hu => ?_⟩
    have := hcell r u hu
    exact (hb.cell (World.block_lt_of_cell? w _ this)).trans this
  · have := h.ok o ho
    exact { this with d := this.d.below hb (Nat.le_refl _), k := RdI.below this.k hb }
theorem RdOps.slice {w : World} {v : Value} {l : List OpV} (h : RdOps w v l) : ∃ A c, v = .slice A l.length c ∧ l.length ≤ 9223372036854775807 := by
  obtain ⟨A, c, hv, h1, h2, _⟩ := h.form
  simp only [maxLen] at h2
  exact ⟨A, c, hv, by omega⟩
set_option maxRecDepth 100000 in
set_option maxHeartbeats 8000000 in
theorem lasts_any (v1 v2 : Value) (l1 l2 : List OpV) (acts : Int) (ha : i64r acts) (w : World) (h1 : RdOps w v1 l1) (h2 : RdOps w v2 l2) (hl1 : l1.length * 96 ≤ 140737488351232) (hl2 : l2.length * 96 ≤ 140737488351232) (hk : ∀ o ∈ l2, o.keep.length * 8 ≤ 140737488351232) :
    Calls Try.prog 4 #[v1, v2, .int .i64 acts] w fun e w' => e = .returned (.bool true) ∧ Below w.heap.size w w' := by
  obtain ⟨A1, c1, rfl, hm1⟩ := h1.slice
  obtain ⟨A2, c2, rfl, hm2⟩ := h2.slice
  go_enter Try.func4, Try.ntmps4
  go_wp2_with fail
  refine (awake_any _).mono ?_
  rintro e w0 ⟨rfl, hb0⟩
  go_wp2_with fail
  refine (New_ok 512 8 (by decide) _).mono ?_
  rintro e w1 ⟨r1, F1, rfl, hP1, hF1, hb1⟩
  unfold plPtr
  have hB1 := hb0.trans (hb1.mono hb0.size)
  have hS0 := hb0.size
  clear hb0 hb1
  go_wp2_with fail
  go_loopw [9] (fun i wr => ∃ (k : Nat) (r : Raw) (F : Nat → Prop) (S : PS), k ≤ l1.length ∧ i = .int .i64 (k : Int) ∧ Hid (r.pb = r1.pb) ∧ PlRaw wr F r S ∧ Up1 S k ∧ (∀ b, F b → w.heap.size ≤ b) ∧ Below w.heap.size w wr) (fun i _ => l1.length - (intOf i).toNat)
  case atStart => exact ⟨0, r1, F1, _, Nat.zero_le _, rfl, Lib.hid rfl, hP1, ⟨rfl, rfl, rfl, rfl, rfl⟩, fun b hb => Nat.le_trans hS0 (hF1 b hb), hB1⟩
  case round =>
    clear hP1 hF1 hB1
    obtain ⟨k, r, F, S, hk', rfl, HR, hP, hU, hF, hB⟩ := hrel
    by_cases hlt : k < l1.length
    · have ik : (k : Int) < (l1.length : Int) := by omega
      -- DEV{
      obtain ⟨ad, rfl, kc2, kc3⟩ := h1.at_ hlt
      have lt2 : (⟨(ad.add (k * 8)).block, (ad.add (k * 8)).off + 2, none⟩ : Addr).block < w.heap.size := World.block_lt_of_cell? w _ kc2
      have lt3 : (⟨(ad.add (k * 8)).block, (ad.add (k * 8)).off + 3, none⟩ : Addr).block < w.heap.size := World.block_lt_of_cell? w _ kc3
      have k2 : ∀ w', Below w.heap.size w w' → w'.cell? ⟨(ad.add (k * 8)).block, (ad.add (k * 8)).off + 2, none⟩ = some (.int .i64 l1[k].n) := fun w' hb => (hb.cell (p := ⟨(ad.add (k * 8)).block, (ad.add (k * 8)).off + 2, none⟩) lt2).trans kc2
      have k3 : ∀ w', Below w.heap.size w w' → w'.cell? ⟨(ad.add (k * 8)).block, (ad.add (k * 8)).off + 3, none⟩ = some (.int .u8 (l1[k].byte.toNat : Int)) := fun w' hb => (hb.cell (p := ⟨(ad.add (k * 8)).block, (ad.add (k * 8)).off + 3, none⟩) lt3).trans kc3
      have hc2 := k2 _ hB.drew
      have hc3 := k3 _ hB.drew
      obtain ⟨en, hn8⟩ := nOf_eq l1[k].n
      generalize l1[k].n = x at *
      generalize nOf x = nn at *
      generalize l1[k].byte = bb at *
      have hW := fun w3 (hb : Below wr.drew.heap.size wr.drew w3) g (ho : OwB w3 wr.drew.heap.size (.slice (some ⟨g, 0, none⟩) 512 512) (List.replicate 512 bb)) =>
        Write_ok w3 F r S nn _ _ (hP.drew.below hb) (ref_zero hU.down (by rw [hU.np]; exact hn8)) (by rw [hU.np]; exact hn8) ho.rd (OffA_new hP.drew ho) (by rw [hU.page]; simp) (by rw [hU.len]; omega)
      unfold plPtr at hW
      rw [HR.out] at hW
      have HW := Lib.hid hW
      have K2 := Lib.hid k2
      have K3 := Lib.hid k3
      have HU := Lib.hid hU
      have HF := Lib.hid hF
      clear hW hP hU kc2 kc3 hF k2 k3 lt2 lt3
      go_upto_region 8 with (fail)
      go_region_held3 (fun w' => w'.cell? ⟨(ad.add (k * 8)).block, (ad.add (k * 8)).off + 2, none⟩ = some (.int .i64 x) ∧ w'.cell? ⟨(ad.add (k * 8)).block, (ad.add (k * 8)).off + 3, none⟩ = some (.int .u8 (bb.toNat : Int)))
        (first
          | exact ⟨hc2, hc3⟩
          | exact ⟨K2.out _ hB4, K3.out _ hB4⟩
          | exact ⟨K2.out _ hB3, K3.out _ hB3⟩)
        (first
          | (go_at_call 10; refine (page_any 512 bb (by omega) _).mono ?_; rintro e w3 ⟨g3, rfl, ho3, hb3⟩; have HO3 := Lib.hid ho3; have hB3 := hB.drew.trans (hb3.mono hB.size))
          | (go_at_call 9; refine (HW.out w3 hb3 g3 HO3.out).mono ?_; rintro e w4 ⟨rfl, r4, F4, e4, _, hP4, hS4⟩; have hB4 := hB3.trans (hS4.turn.below hB3.size HF.out))
          | fail)
      have hF4 : ∀ b, F4 b → w.heap.size ≤ b := fun b hb => (hS4.grow b hb).elim (HF.out b) (fun h => Nat.le_trans hB3.size h)
      clear hc2 hc3 hB3 hB en ho3 hb3 hS4
      go_wp2_with fail
      go_roundw
      case rel => exact ⟨k + 1, r4, F4, _, by omega, by go_num, Lib.hid (e4.trans HR.out), hP4, HU.out.write _ _, hF4, hB4⟩
      case measure => simp [intOf]; omega
      -- DEV}
    · obtain rfl : k = l1.length := by omega
      have hsy := Sync_any wr F r S hP
      unfold plPtr at hsy
      rw [HR.out, show SyncE S = 0 by unfold SyncE; rw [hU.down, hU.acts]; rfl] at hsy
      have hS2 : S.sync = S.synced := by unfold PS.sync; rw [hU.down, hU.acts]; rfl
      rw [hS2] at hsy
      have hU2 : Up2 S.synced l2 S.synced.pg 0 := { page := hU.page, np := hU.np, st := .inl ⟨hU.down, rfl, rfl⟩ }
      have hd2 : S.synced.down = false := hU.down
      go_wp2_with fail
      refine hsy.mono ?_
      rintro e w3 ⟨rfl, r3, F3, e3, _, hP3, hS3⟩
      have hB3 := hB.trans (hS3.turn.below hB.size hF)
      have hF3 : ∀ b, F3 b → w.heap.size ≤ b := fun b hb => (hS3.grow b hb).elim (hF b) (fun h => Nat.le_trans hB.size h)
      have e3' := e3.trans HR.out
      obtain ⟨S2, hS2'⟩ : ∃ S2, S2 = S.synced := ⟨_, rfl⟩
      rw [← hS2'] at hP3 hU2 hd2
      clear hsy hP hU hF hB hS3 hS2 e3 HR
      obtain ⟨B, hBB⟩ : ∃ B, B = S2.pg := ⟨_, rfl⟩
      rw [← hBB] at hU2
      clear hS2'
      have hsf := Safe_any w3 F3 r3 S2 hP3
      unfold plPtr at hsf
      rw [e3', ← hBB] at hsf
      go_wp2_with fail
      refine hsf.mono ?_
      rintro e w4 ⟨vB, rfl, hoB, hb4⟩
      have hP4 := hP3.below hb4
      have hB4 := hB3.trans (hb4.mono hB3.size)
      have hBl : B.flatten.length = 4096 := by
        have := hP3.flen
        rw [hBB, this, hP3.ok.sn, hU2.page, hU2.np]
      have hBe : ∀ x ∈ B, x.length = 512 := fun x hx => by rw [hBB] at hx; rw [hP3.ok.pe x hx, hU2.page]
      have hOB : Off F3 vB := Off.new hP3 hoB (Nat.le_refl _)
      obtain ⟨gB, cB, rfl⟩ := hoB.some' hBl (by omega)
      clear hsf hP3 hB3 hb4
      have hA5 : Below w4.heap.size w4 (w4.alloc (.cells #[.slice none 0 0, .int .i64 0, .int .i64 0] 31)) := (Below.refl _ _).alloc (Nat.le_refl _) _
      have hf5 := OBlk.new' w4 31 [.slice none 0 0, .int .i64 0, .int .i64 0]
      have hB5 := hB4.trans (hA5.mono hB4.size)
      go_upto_if 54 with (fail)
      go_cut [12] (fun s wx => s = .pointer (some ⟨w4.heap.size, 0, none⟩) ∧ ∃ (kv : Value) (ks : List Int) (tn at_ : Int), RdI w kv ks ∧ ks.length * 8 ≤ 140737488355328 ∧ i64r tn ∧ i64r at_ ∧ OBlk wx w4.heap.size 31 [kv, .int .i64 tn, .int .i64 at_] ∧ Below w4.heap.size w4 wx)
      case first =>
        -- DEV{
        by_cases hl0 : l2.length = 0
        · have ij : ¬ (0 : Int) < (l2.length : Int) := by omega
          clear hl0
          go_wp2_with fail
          go_meet
          exact ⟨rfl, .slice none 0 0, [], 0, 0, RdI.nil _, by simp, by unfold i64r; omega, by unfold i64r; omega, hf5, hA5⟩
        · have ij : (0 : Int) < (l2.length : Int) := by omega
          obtain ⟨ad, rfl, o, ho, f5, f6, f7⟩ := h2.fall0 (by omega)
          have g5 := (hB5.cell (p := ⟨ad.block, ad.off + 5, none⟩) (World.block_lt_of_cell? w _ f5)).trans f5
          have g6 := (hB5.cell (p := ⟨ad.block, ad.off + 6, none⟩) (World.block_lt_of_cell? w _ f6)).trans f6
          have g7 := (hB5.cell (p := ⟨ad.block, ad.off + 7, none⟩) (World.block_lt_of_cell? w _ f7)).trans f7
          have z0 := hf5.frozen (j := 0) (by simp)
          have z1 := hf5.frozen (j := 1) (by simp)
          have z2 := hf5.frozen (j := 2) (by simp)
          have y0 := hf5.cell' (j := 0) (u := .slice none 0 0) rfl
          have y1 := hf5.cell' (j := 1) (u := .int .i64 0) rfl
          have y2 := hf5.cell' (j := 2) (u := .int .i64 0) rfl
          have hok := h2.ok o ho
          obtain ⟨kA, kc, hkv⟩ : ∃ A c, o.kv = .slice A o.keep.length c := by
            obtain ⟨A, c, e, _⟩ := hok.k.form
            exact ⟨A, c, e⟩
          rw [hkv] at g5
          go_wp2_with fail
          go_meet
          exact ⟨rfl, .slice kA o.keep.length kc, o.keep, o.torn, o.at_, by rw [← hkv]; exact hok.k, Nat.le_trans (hk o ho) (by omega), hok.r3, hok.r4, OBlk.new' w4 31 [.slice kA o.keep.length kc, .int .i64 o.torn, .int .i64 o.at_], (Below.refl _ _).alloc (Nat.le_refl _) _⟩
        -- DEV}
      case rest =>
        obtain ⟨rfl, kv, ks, tn, at_, hkr, hkl, ht1, ht2, hfb, hA6⟩ := hcut
        clear hf5 hA5 hB5
        have hB6 := hB4.trans (hA6.mono hB4.size)
        go_upto_if 60 with (fail)
        go_cut [2] (fun s wy => (OBlk wy w4.heap.size 31 [kv, .int .i64 tn, .int .i64 at_] ∧ Below w4.heap.size w4 wy) ∧ ∃ a : Int, 0 ≤ a ∧ a ≤ 9223372036854775807 ∧ s = .int .i64 a)
        case first =>
          obtain ⟨ha1, ha2⟩ := ha
          -- DEV{
          by_cases hneg : acts < 0
          · go_wp2_with fail
            go_meet
            refine ⟨⟨hfb, hA6⟩, -(acts + 1), by omega, by omega, ?_⟩
            first | rfl | (congr 1; unfold wrap64; omega)
          · go_wp2_with fail
            go_meet
            exact ⟨⟨hfb, hA6⟩, acts, by omega, by omega, rfl⟩
          -- DEV}
        case rest =>
          clear hfb hA6 hB6
          obtain ⟨⟨hfb, hA6⟩, a, ha1, ha2, rfl⟩ := hcut
          have hB6 := hB4.trans (hA6.mono hB4.size)
          have hP6 := hP4.below hA6
          have hoB6 := hoB.below2 hA6
          obtain ⟨kA, kc, hkv, _, _⟩ := hkr.form
          subst hkv
          clear hBB
          have y0 := hfb.cell' (j := 0) (u := .slice kA ks.length kc) rfl
          have y1 := hfb.cell' (j := 1) (u := .int .i64 tn) rfl
          have y2 := hfb.cell' (j := 2) (u := .int .i64 at_) rfl
          have har := Arm_any _ F3 r3 S2 a _ ks tn at_ hP6 (hkr.belowW hB6) hkl (by omega) ht1 ht2
          unfold plPtr fallV at har
          rw [e3'] at har
          have hU6 : Up2 (S2.arm a ks tn at_) l2 B 0 := by
            unfold PS.arm
            rw [hd2, if_neg (by simp)]
            exact { page := hU2.page, np := hU2.np, st := hd2 ▸ hU2.st }
          have hnF : ¬ F3 w4.heap.size := fun hf => by have := hP4.lt _ hf; omega
          clear hP4 hoB hU2 hd2
          go_wp2_with fail
          refine har.mono ?_
          rintro e w7 ⟨⟨v7, rfl⟩, r7, F7, e7, _, hP7, hS7⟩
          have hoB7 := hoB6.turn hS7.turn hOB
          have hOB7 := hoB6.off hS7 hOB
          have hfb7 := hfb.turn hS7.turn hnF
          have hnF7 : ¬ F7 w4.heap.size := fun hf => (hS7.grow _ hf).elim hnF (fun h => by have := hfb.lt; omega)
          have hB7 := hB6.trans (hS7.turn.below hB6.size hF3)
          have hF7 : ∀ b, F7 b → w.heap.size ≤ b := fun b hb => (hS7.grow b hb).elim (hF3 b) (fun h => Nat.le_trans hB6.size h)
          have e7' := e7.trans e3'
          clear har hP6 hS7 hoB6 hfb hB6 hF3 e3' e7 hOB hnF hB4 y0 y1 y2
          go_upto_block 2 with fail
          go_cut [13] (fun n wr => ∃ (k : Nat) (r : Raw) (F : Nat → Prop) (S : PS), k ≤ l2.length ∧ n = .int .i64 (k : Int) ∧ Hid (r.pb = r1.pb) ∧ PlRaw wr F r S ∧ Up2 S l2 B k ∧ (∀ b, F b → w.heap.size ≤ b) ∧ Below w.heap.size w wr ∧ OwB wr w3.heap.size (.slice (some ⟨gB, 0, none⟩) 4096 cB) B.flatten ∧ Off F (.slice (some ⟨gB, 0, none⟩) 4096 cB) ∧ OBlk wr w4.heap.size 31 [.slice kA ks.length kc, .int .i64 tn, .int .i64 at_] ∧ ¬ F w4.heap.size)
          case first =>
            -- DEV{
            go_wp2_with fail
            go_loopw [13, 14] (fun n i wr => ∃ (k : Nat) (r : Raw) (F : Nat → Prop) (S : PS), k ≤ l2.length ∧ n = .int .i64 (k : Int) ∧ i = .int .i64 (k : Int) ∧ Hid (r.pb = r1.pb) ∧ PlRaw wr F r S ∧ Up2 S l2 B k ∧ (∀ b, F b → w.heap.size ≤ b) ∧ Below w.heap.size w wr ∧ OwB wr w3.heap.size (.slice (some ⟨gB, 0, none⟩) 4096 cB) B.flatten ∧ Off F (.slice (some ⟨gB, 0, none⟩) 4096 cB) ∧ OBlk wr w4.heap.size 31 [.slice kA ks.length kc, .int .i64 tn, .int .i64 at_] ∧ ¬ F w4.heap.size) (fun _ i _ => l2.length - (intOf i).toNat)
            case atStart => exact ⟨0, r7, F7, _, Nat.zero_le _, rfl, rfl, Lib.hid e7', hP7, hU6, hF7, hB7, hoB7, hOB7, hfb7, hnF7⟩
            case round =>
              clear hP7 hU6 hF7 hB7 hoB7 hOB7 hfb7 hnF7 e7'
              obtain ⟨k, r, F, S, hk', rfl, rfl, HR, hP, hU, hF, hB, ho, hO, hfb, hnF⟩ := hrel
              have hup := fun m => Up_any (wr.drewN m) F r S (hP.heap (Nat.le_refl _) fun _ _ => rfl)
              unfold plPtr at hup
              rw [HR.out] at hup
              by_cases hlt : k < l2.length
              · have ik : (k : Int) < (l2.length : Int) := by omega
                cases hd : S.down with
                | true =>
                  rw [hd] at hup
                  clear hd
                  go_wp2_with (first | (go_at_call 14; refine (hup 0).mono ?_; rintro e w8 ⟨rfl, rfl⟩) | fail)
                  go_meet
                  exact ⟨k, r, F, S, hk', rfl, HR, hP, hU, hF, hB, ho, hO, hfb, hnF⟩
                | false =>
                  rw [hd] at hup
                  obtain ⟨ad, rfl, kc2, kc3⟩ := h2.at_ hlt
                  have lt2 : (⟨(ad.add (k * 8)).block, (ad.add (k * 8)).off + 2, none⟩ : Addr).block < w.heap.size := World.block_lt_of_cell? w _ kc2
                  have lt3 : (⟨(ad.add (k * 8)).block, (ad.add (k * 8)).off + 3, none⟩ : Addr).block < w.heap.size := World.block_lt_of_cell? w _ kc3
                  have k2 : ∀ w', Below w.heap.size w w' → w'.cell? ⟨(ad.add (k * 8)).block, (ad.add (k * 8)).off + 2, none⟩ = some (.int .i64 l2[k].n) := fun w' hb => (hb.cell (p := ⟨(ad.add (k * 8)).block, (ad.add (k * 8)).off + 2, none⟩) lt2).trans kc2
                  have k3 : ∀ w', Below w.heap.size w w' → w'.cell? ⟨(ad.add (k * 8)).block, (ad.add (k * 8)).off + 3, none⟩ = some (.int .u8 (l2[k].byte.toNat : Int)) := fun w' hb => (hb.cell (p := ⟨(ad.add (k * 8)).block, (ad.add (k * 8)).off + 3, none⟩) lt3).trans kc3
                  have hc2 := k2 _ hB.drew
                  have hc3 := k3 _ hB.drew
                  obtain ⟨en, hn8⟩ := nOf_eq l2[k].n
                  have hUw := hU.write hd hlt
                  have hwl : S.wild.length = k := by
                    rcases hU.st with ⟨_, _, h⟩ | ⟨h, _⟩
                    · rw [h]; simp [wsOf]; omega
                    · rw [hd] at h; cases h
                  generalize l2[k].n = x at *
                  generalize nOf x = nn at *
                  generalize l2[k].byte = bb at *
                  have hW := fun w3' (hb : Below wr.drew.heap.size wr.drew w3') g (hog : OwB w3' wr.drew.heap.size (.slice (some ⟨g, 0, none⟩) 512 512) (List.replicate 512 bb)) =>
                    Write_ok w3' F r S nn _ _ (hP.drew.below hb) (ref_zero hd (by rw [hU.np]; exact hn8)) (by rw [hU.np]; exact hn8) hog.rd (OffA_new hP.drew hog) (by rw [hU.page]; simp) (by rw [hwl]; omega)
                  unfold plPtr at hW
                  rw [HR.out] at hW
                  have HW := Lib.hid hW
                  have K2 := Lib.hid k2
                  have K3 := Lib.hid k3
                  have HU := Lib.hid hUw
                  have HF := Lib.hid hF
                  have HP := Lib.hid hP
                  clear hW hP hU kc2 kc3 hF k2 k3 lt2 lt3 hd hUw hwl
                  go_upto_region 21 with (first | (go_at_call 14; refine (hup 0).mono ?_; rintro e w8 ⟨rfl, rfl⟩) | fail)
                  clear hup
                  go_region_held3 (fun w' => w'.cell? ⟨(ad.add (k * 8)).block, (ad.add (k * 8)).off + 2, none⟩ = some (.int .i64 x) ∧ w'.cell? ⟨(ad.add (k * 8)).block, (ad.add (k * 8)).off + 3, none⟩ = some (.int .u8 (bb.toNat : Int)))
                    (first
                      | exact ⟨hc2, hc3⟩
                      | exact ⟨K2.out _ hB9, K3.out _ hB9⟩
                      | exact ⟨K2.out _ hB8, K3.out _ hB8⟩)
                    (first
                      | (go_at_call 10; refine (page_any 512 bb (by omega) _).mono ?_; rintro e w8 ⟨g8, rfl, ho8, hb8⟩; have HO8 := Lib.hid ho8; have hB8 := hB.drew.trans (hb8.mono hB.size))
                      | (go_at_call 9; refine (HW.out w8 hb8 g8 HO8.out).mono ?_; rintro e w9 ⟨rfl, r9, F9, e9, _, hP9, hS9⟩; have hB9 := hB8.trans (hS9.turn.below hB8.size HF.out))
                      | fail)
                  have hF9 : ∀ b, F9 b → w.heap.size ≤ b := fun b hb => (hS9.grow b hb).elim (HF.out b) (fun h => Nat.le_trans hB8.size h)
                  have hbb : Below wr.heap.size wr w8 := (Below.refl wr.heap.size wr).drew.trans hb8
                  have ho9 := (ho.below2 hbb).turn hS9.turn hO
                  have hO9 := (ho.below2 hbb).off hS9 hO
                  have hfb8 := hfb.of_heap (hbb.block _ hfb.lt)
                  have hfb9 := hfb8.turn hS9.turn hnF
                  have hnF9 : ¬ F9 w4.heap.size := fun hf => (hS9.grow _ hf).elim hnF (fun h => by have := hfb8.lt; omega)
                  clear hc2 hc3 hB8 hB en ho8 hb8 hS9 hbb ho hO hfb hfb8 hnF HO8 K2 K3 HP HW
                  go_wp2_with fail
                  go_roundw
                  case rel => exact ⟨k + 1, r9, F9, _, by omega, by go_num, by go_num, Lib.hid (e9.trans HR.out), hP9, HU.out, hF9, hB9, ho9, hO9, hfb9, hnF9⟩
                  case measure => simp [intOf]; omega
              · have ik : ¬ (k : Int) < (l2.length : Int) := by omega
                clear hup
                go_wp2_with fail
                go_meet
                exact ⟨k, r, F, S, hk', rfl, HR, hP, hU, hF, hB, ho, hO, hfb, hnF⟩
            -- DEV}
          case rest =>
            clear hP7 hU6 hF7 hB7 hoB7 hOB7 hfb7 hnF7 e7'
            obtain ⟨k, r, F, S, hk', rfl, HR, hP, hU, hF, hB, ho, hO, hfb, hnF⟩ := hcut
            have y0 := hfb.cell' (j := 0) (u := .slice kA ks.length kc) rfl
            have y1 := hfb.cell' (j := 1) (u := .int .i64 tn) rfl
            have y2 := hfb.cell' (j := 2) (u := .int .i64 at_) rfl
            have hko : KeepOff (.slice kA ks.length kc) r.sb := by
              intro A n c e hn
              injection e with eA en _
              subst eA en
              obtain ⟨ad, e1, e2⟩ := RdI.at_ hkr (j := 0) hn
              cases e1
              have := World.block_lt_of_cell? w _ e2
              have h2 := hF _ hP.fs
              intro e3
              have e4 : (A.add 0).block = A.block := rfl
              omega
            have hcr := Crash_any _ F r S _ ks tn at_ hP (hkr.belowW hB) hko ht2
            unfold plPtr fallV at hcr
            rw [HR.out] at hcr
            have hD := hU.crash ks tn at_
            generalize S.crash ks tn at_ = Sc at hcr hD
            clear hko
            go_wp2_with fail
            refine hcr.mono ?_
            rintro e wz ⟨⟨vz, rfl⟩, ⟨rz, ec, hPc⟩, hTc⟩
            have hoc := ho.turn hTc hO
            have hBc := hB.trans (hTc.below hB.size hF)
            have hsf := Safe_any wz F rz Sc hPc
            have hec := ec.trans HR.out
            unfold plPtr at hsf
            rw [hec] at hsf
            have HE := Lib.hid hec
            clear hcr hP hU hF hB ho hO hfb hnF hTc ec HR y0 y1 y2 hec
            go_wp2_with fail
            refine hsf.mono ?_
            rintro e wd ⟨vA, rfl, hoA, hbd⟩
            have hBd := hBc.trans (hbd.mono hBc.size)
            have hPd := hPc.below hbd
            have hod := hoc.below2 hbd
            have him := Image_any wd F rz Sc hPd
            unfold plPtr at him
            rw [HE.out, show syncPg Sc.wild Sc.pg = Sc.pg by rw [hD.wild]; rfl] at him
            have hAl : Sc.pg.flatten.length = 4096 := by
              rw [hPc.flen, hPc.ok.sn, hD.page, hD.np]
            have hAe : ∀ x ∈ Sc.pg, x.length = 512 := fun x hx => by rw [hPc.ok.pe x hx, hD.page]
            obtain ⟨gA, cA, rfl⟩ := hoA.some' hAl (by omega)
            clear hsf hPc hBc hoc hbd
            go_wp2_with fail
            refine him.mono ?_
            rintro e we ⟨vI, rfl, hoI, hbe⟩
            obtain ⟨gI, cI, rfl⟩ := hoI.some' hAl (by omega)
            have hBw := hBd.trans (hbe.mono hBd.size)
            have hPe := hPd.below hbe
            have hoe := (hod.below2 hbe).rd
            have hAr := (hoA.below2 hbe).rd
            have hup := Up_any we F rz Sc hPe
            have hlo := Loose_any we F rz Sc hPe
            unfold plPtr at hup hlo
            rw [HE.out, hD.down] at hup
            rw [HE.out, hD.wild] at hlo
            have qI := run_B_string (w := we) hoI.rd
            have qA := run_B_string (w := we) hAr
            have hmay := hD.may
            have HBl := Lib.hid hBl
            have HAl := Lib.hid hAl
            clear him hoI hPe hPd hBd hod hoA hbe hD hAl hBl HE
            generalize Sc.pg = A at *
            go_upto_block 4 with (first | (go_at_call 14; refine hup.mono ?_; rintro e w8 ⟨rfl, rfl⟩) | (go_at_call 17; refine hlo.mono ?_; rintro e w9 ⟨rfl, rfl⟩) | fail)
            clear hup hlo qI qA
            go_wp2_with fail
            go_loopw [17] (fun s wr => ∃ (j m : Nat), j ≤ 4096 ∧ s = .int .i64 (j : Int) ∧ wr = we.drewN m) (fun s _ => 4096 - (intOf s).toNat)
            case atStart => exact ⟨0, 0, by omega, rfl, rfl⟩
            case round =>
              obtain ⟨j, m, hj, rfl, rfl⟩ := hrel
              by_cases hlt : j < 4096
              · have ij : (j : Int) < 4096 := by omega
                obtain ⟨_, eA, cA0⟩ := hAr.at_ (j := j) (by rw [HAl.out]; exact hlt)
                cases eA
                obtain ⟨_, eB, cB0⟩ := hoe.at_ (j := j) (by rw [HBl.out]; exact hlt)
                cases eB
                obtain ⟨x, hx⟩ : ∃ x, A.flatten[j]? = some x := ⟨_, List.getElem?_eq_getElem (by rw [HAl.out]; exact hlt)⟩
                obtain ⟨y, hy⟩ : ∃ y, B.flatten[j]? = some y := ⟨_, List.getElem?_eq_getElem (by rw [HBl.out]; exact hlt)⟩
                have hmT := may_bytes hk' hmay hAe hBe hx hy
                have cA1 : we.cell? ⟨gA, j, none⟩ = some (.int .u8 (x.toNat : Int)) := by
                  rw [List.getElem?_eq_getElem (by rw [HAl.out]; exact hlt)] at hx
                  rw [← Option.some.inj hx]
                  rw [add_row, Nat.zero_add] at cA0; exact cA0
                have cB1 : we.cell? ⟨gB, j, none⟩ = some (.int .u8 (y.toNat : Int)) := by
                  rw [List.getElem?_eq_getElem (by rw [HBl.out]; exact hlt)] at hy
                  rw [← Option.some.inj hy]
                  rw [add_row, Nat.zero_add] at cB0; exact cB0
                have HMT := Lib.hid hmT
                clear cA0 cB0 hx hy hmT
                go_upto_region 31 with (fail)
                go_region
                go_wp2_with fail
                go_loopw [18, 19] (fun may t wr => ∃ (i m : Nat), i ≤ k ∧ may = .bool (mayF l2 x y (j / 512) i) ∧ t = .int .i64 (i : Int) ∧ wr = we.drewN m) (fun _ t _ => k - (intOf t).toNat)
                case atStart => exact ⟨0, m + 1, Nat.zero_le _, congrArg Value.bool (u8_beq x y), rfl, rfl⟩
                case round =>
                  obtain ⟨i, m2, hi, rfl, rfl, rfl⟩ := hrel
                  by_cases hik : i < k
                  · have ii : (i : Int) < (k : Int) := by omega
                    have hil : i < l2.length := by omega
                    obtain ⟨ad, rfl, kc2, kc3⟩ := h2.at_ hil
                    have lt2 : (⟨(ad.add (i * 8)).block, (ad.add (i * 8)).off + 2, none⟩ : Addr).block < w.heap.size := World.block_lt_of_cell? w _ kc2
                    have lt3 : (⟨(ad.add (i * 8)).block, (ad.add (i * 8)).off + 3, none⟩ : Addr).block < w.heap.size := World.block_lt_of_cell? w _ kc3
                    have hc2 := (hBw.cell (p := ⟨(ad.add (i * 8)).block, (ad.add (i * 8)).off + 2, none⟩) lt2).trans kc2
                    have hc3 := (hBw.cell (p := ⟨(ad.add (i * 8)).block, (ad.add (i * 8)).off + 3, none⟩) lt3).trans kc3
                    obtain ⟨en, hn8⟩ := nOf_eq l2[i].n
                    have hms : Hid (mayF l2 x y (j / 512) (i + 1) = (mayF l2 x y (j / 512) i || ((nOf l2[i].n == j / 512) && (x == l2[i].byte)))) := by
                      show _ = _
                      rw [mayF]
                      simp only [List.getD, List.getElem?_eq_getElem hil, Option.getD_some]
                    have kl2 : (i : Int) < (l2.length : Int) := by omega
                    generalize l2[i].n = z at *
                    generalize nOf z = nn at *
                    generalize l2[i].byte = bb at *
                    have hj5 : ((j / 512 : Nat) : Int) = (j : Int) / 512 := by omega
                    rcases Bool.eq_false_or_eq_true (mayF l2 x y (j / 512) i) with hm | hm
                    · rw [hm] at hms ⊢
                      clear hm kc2 kc3 lt2 lt3
                      go_upto_region 35 with (fail)
                      go_region
                      go_wp2_with fail
                      exact ⟨⟨i + 1, m2 + 1, by omega, by rw [hms.out]; rfl, by go_num, rfl⟩, by simp [intOf]; omega⟩
                    · rw [hm] at hms ⊢
                      clear hm kc2 kc3 lt2 lt3
                      by_cases hq : nn = j / 512
                      · have e1 : ((nn : Int) == (j : Int) / 512) = true := by rw [beq_iff_eq]; omega
                        rw [show (nn == j / 512) = true from beq_iff_eq.2 hq, ← u8_beq] at hms
                        clear hq
                        go_upto_region 35 with (fail)
                        go_region
                        go_wp2_with fail
                        exact ⟨⟨i + 1, m2 + 1, by omega, by rw [hms.out]; rfl, by go_num, rfl⟩, by simp [intOf]; omega⟩
                      · have e1 : ((nn : Int) == (j : Int) / 512) = false := by rw [beq_eq_false_iff_ne]; omega
                        rw [show (nn == j / 512) = false from beq_eq_false_iff_ne.2 hq] at hms
                        clear hq
                        go_upto_region 35 with (fail)
                        go_region
                        go_wp2_with fail
                        exact ⟨⟨i + 1, m2 + 1, by omega, by rw [hms.out]; rfl, by go_num, rfl⟩, by simp [intOf]; omega⟩
                  · obtain rfl : i = k := by omega
                    have ii : ¬ (i : Int) < (i : Int) := by omega
                    rw [HMT.out]
                    go_wp2_with fail
                    exact ⟨⟨j + 1, m2, by omega, by go_num, rfl⟩, by simp [intOf]; omega⟩
              · obtain rfl : j = 4096 := by omega
                have ij : ¬ ((4096 : Nat) : Int) < 4096 := by omega
                go_wp2_with fail
                go_ret
                exact ⟨rfl, below_drewN hBw m⟩
end Go.Proofs.Ytipjngoenklioaa
