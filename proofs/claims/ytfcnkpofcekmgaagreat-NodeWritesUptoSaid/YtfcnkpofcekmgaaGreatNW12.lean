/- Texts joined: packed.Encode; espalierref07.IsSize, May; espalierref01.Order; espalierref07.add, rest, ahead -/
import Derived.Test.YtfcnkpofcekmgaaGreatNW3
import Derived.Test.YtfcnkpofcekmgaaGreatNW5
import Derived.Test.YtfcnkpofcekmgaaGreatNW8
import Derived.Test.YtfcnkpofcekmgaaGreatNW9
import Derived.Test.YtfcnkpofcekmgaaGreatNW10
import Derived.Test.YtfcnkpofcekmgaaGreatNW11
import Derived.Deep.RegionHeld3
import Derived.Deep.CutRange
import Derived.Deep.DeepCutAuto
-- packed.Encode: the walk.
namespace Go.Proofs.YtfcnkpofcekmgaaGreat
open Go.RowKit
/-- What Encode answers. -/
def EncKAt (w : World) (kind : Int) (l : List PC) (P : Int) (e : Ending) (w' : World) : Prop :=
  Below w.heap.size w w' ∧ ((isKindB kind && isPowB P) = false ∧ e = .returned (.tuple #[.slice none 0 0, .int .i64 1]) ∨
    (isKindB kind && isPowB P) = true ∧ ((encK kind l P.toNat ≠ 0 ∧ e = .returned (.tuple #[.slice none 0 0, .int .i64 (encK kind l P.toNat)])) ∨
      (encK kind l P.toNat = 0 ∧ ∃ g, e = .returned (.tuple #[.slice (some ⟨g, 0, none⟩) P.toNat P.toNat, .int .i64 0]) ∧ w.heap.size ≤ g ∧ OBlk w' g 5 (bvs (laidK kind l P.toNat)))))
set_option maxRecDepth 100000 in
set_option maxHeartbeats 8000000 in
theorem KEncode_any (kind : Int) (v : Value) (l : List CV) (P : Int) (hPr : i64r P) (w : World) (hl : RdCs w v l) (hn : l.length ≤ 2000000000000) :
    Calls Tryz.prog 82 #[.int .i64 kind, v, .int .i64 P] w (EncKAt w kind (pcs l) P) := by
  obtain ⟨A, c, rfl, hm, hc⟩ := hl.slice
  have hKi := fun W => KisKind_any kind W
  have hPa := fun W => KisSize_any P hPr W
  cases hk : isKindB kind with
  | false =>
    have HK : Hid ((isKindB kind && isPowB P) = false) := by show _ = _; rw [hk]; rfl
    rw [hk] at hKi
    clear hk
    go_enter Tryz.func82, Tryz.ntmps82
    go_wp2_with (first | (go_at_call 135; refine (hKi _).mono ?_; rintro e w1 ⟨rfl, rfl⟩) | fail)
    go_ret2
    exact ⟨Below.refl _ _, .inl ⟨HK.out, rfl⟩⟩
  | true =>
    cases hp : isPowB P with
    | false =>
      have HK : Hid ((isKindB kind && isPowB P) = false) := by show _ = _; rw [hk, hp]; rfl
      rw [hk] at hKi
      rw [hp] at hPa
      clear hk hp
      go_enter Tryz.func82, Tryz.ntmps82
      go_wp2_with (first | (go_at_call 135; refine (hKi _).mono ?_; rintro e w1 ⟨rfl, rfl⟩) | (go_at_call 136; refine (hPa _).mono ?_; rintro e w1 ⟨rfl, rfl⟩) | fail)
      go_ret2
      exact ⟨Below.refl _ _, .inl ⟨HK.out, rfl⟩⟩
    | true =>
      have HK : Hid ((isKindB kind && isPowB P) = true) := by show _ = _; rw [hk, hp]; rfl
      have HKD : Hid (kind = 2 ∨ kind = 3) := Lib.hid (of_decide_eq_true hk)
      obtain ⟨hP1, hP2⟩ := isPowB_range hp
      rw [hk] at hKi
      rw [hp] at hPa
      clear hk hp
      obtain ⟨Q, rfl⟩ : ∃ Q : Nat, P = (Q : Int) := ⟨P.toNat, by omega⟩
      unfold EncKAt
      rw [show ((Q : Int)).toNat = Q from rfl]
      have hQ1 : 512 ≤ Q := by omega
      have hQ2 : Q ≤ 65536 := by omega
      go_enter Tryz.func82, Tryz.ntmps82
      go_wp2_with (first | (go_at_call 135; refine (hKi _).mono ?_; rintro e w1 ⟨rfl, rfl⟩) | (go_at_call 136; refine (hPa _).mono ?_; rintro e w1 ⟨rfl, rfl⟩) | fail)
      clear hKi hPa
      go_loopw [25] (fun i wr => ∃ k : Nat, k ≤ l.length ∧ i = .int .i64 (k : Int) ∧ Hid (scanE kind Q none (pcs l) = scanE kind Q (prevK (pcs l) k) ((pcs l).drop k)) ∧ Hid (∀ j (hj : j < k) (hjl : j < (pcs l).length), OkC Q (pcs l)[j]) ∧ Below w.heap.size w wr) (fun i _ => l.length - (intOf i).toNat)
      case atStart => exact ⟨0, Nat.zero_le _, rfl, Lib.hid rfl, Lib.hid (fun j hj => by omega), Below.refl _ _⟩
      case round =>
        obtain ⟨k, hk, rfl, HSC, HOK, hB⟩ := hrel
        by_cases hlt : k < l.length
        · have ik : (k : Int) < (l.length : Int) := by omega
          have hlp : k < (pcs l).length := by rw [pcs_length]; exact hlt
          have hst := scan_step (kind := kind) (P := Q) hlp
          have hpk := prevK_succ (pcs l) hlp
          rw [← HSC.out] at hst
          have hcx : ∀ c, (pcs l)[k] = c → Hid (mayP kind Q c = true → ∀ j (hj : j < k + 1) (hjl : j < (pcs l).length), OkC Q (pcs l)[j]) := fun c hc => Lib.hid (fun hmay j hj hjl => by
            by_cases e : j = k
            · subst e; rw [hc]; exact may_ok hmay
            · exact HOK.out j (by omega) hjl)
          rw [pcs_at hlt] at hst hpk
          have hcx := hcx _ (pcs_at hlt)
          obtain ⟨ad, rfl, c0, c1, c2, c3, c4⟩ := (hl.below hB).at_ hlt
          have hx := (hl.below hB).ok _ (List.getElem_mem hlt)
          have hprev : ∀ q, prevK (pcs l) k = some q → ∃ A0 a0, 0 < k ∧ RdB wr (.slice A0 q.length a0) q ∧ wr.cell? (ad.add ((k - 1) * 5)) = some (.slice A0 q.length a0) := fun q hq => by
            unfold prevK at hq
            split at hq
            · cases hq
            · have hk1 : k - 1 < l.length := by omega
              obtain ⟨_, ea, d0, _⟩ := (hl.below hB).at_ hk1
              cases ea
              have hxp := (hl.below hB).ok _ (List.getElem_mem hk1)
              have e1 : (pcs l).getD (k - 1) default = l[k - 1].c := by simp [List.getD, pcs, hk1]
              rw [e1] at hq
              injection hq with hq
              obtain ⟨A0, a0, he, _⟩ := hxp.k.form
              rw [he, hq] at d0
              have hk2 := hxp.k
              rw [he, hq] at hk2
              exact ⟨A0, a0, by omega, hk2, d0⟩
          generalize l[k] = x at *
          obtain ⟨A1, a1, B1, b1, key, ck, val, pg, ct, rfl, _, _⟩ := CV.form hx
          have hma := fun W => Kmay_any ⟨.slice A1 key.length a1, .slice B1 val.length b1, ⟨key, ck, val, pg, ct⟩⟩ kind HKD.out Q hQ2 W
          unfold cellV at hma
          have hA0 : Below wr.heap.size wr (wr.alloc (.cells #[.slice A1 key.length a1, .int .i64 ck, .slice B1 val.length b1, .int .i64 pg, .int .i64 ct] 43)) := (Below.refl wr.heap.size wr).alloc (Nat.le_refl _) _
          have hA := hB.trans (hA0.mono hB.size)
          have hx' : CV.ok (wr.alloc (.cells #[.slice A1 key.length a1, .int .i64 ck, .slice B1 val.length b1, .int .i64 pg, .int .i64 ct] 43)) ⟨.slice A1 key.length a1, .slice B1 val.length b1, ⟨key, ck, val, pg, ct⟩⟩ := hx.below hA0
          have hcb := OBlk.new' wr 43 [.slice A1 key.length a1, .int .i64 ck, .slice B1 val.length b1, .int .i64 pg, .int .i64 ct]
          have hst' : scanE kind Q none (pcs l) = if mayP kind Q ⟨key, ck, val, pg, ct⟩ = false then 62 else if afterP (prevK (pcs l) k) key = false then 63 else scanE kind Q (prevK (pcs l) (k + 1)) ((pcs l).drop (k + 1)) := hst
          clear hst
          have hgl := hB.size
          have hxk := hx'.k
          simp only at hxk
          clear hx hB
          go_wp2_with fail
          refine (hma _ hx').mono ?_
          rintro e w2 ⟨rfl, hb2⟩
          have hA2 := hA.trans (hb2.mono hA.size)
          have hcb2 := hcb.below hb2 hcb.lt
          have hA02 := hA0.trans (hb2.mono hA0.size)
          rcases Bool.eq_false_or_eq_true (mayP kind Q ⟨key, ck, val, pg, ct⟩) with hmy | hmy
          · rw [if_neg (by rw [hmy]; simp)] at hst'
            have HCX := Lib.hid (hcx.out hmy)
            clear hma hcx hcb hA hA0 hx' c0 c1 c2 c3 c4 HOK
            have k0 : w2.cell? ⟨wr.heap.size, 0, none⟩ = some (.slice A1 key.length a1) := hcb2.cell' rfl
            have hkr : RdB w2 (.slice A1 key.length a1) key := hxk.below hb2 (Nat.le_refl _)
            rw [hmy]
            clear hmy
            by_cases hk0 : 0 < k
            · obtain ⟨kk, rfl⟩ : ∃ kk, k = kk + 1 := ⟨k - 1, by omega⟩
              obtain ⟨q, hq⟩ : ∃ q, prevK (pcs l) (kk + 1) = some q := ⟨_, prevK_succ (pcs l) (by rw [pcs_length]; omega)⟩
              obtain ⟨A0, a0, _, hqr, hqc⟩ := hprev q hq
              rw [hq] at hst'
              rw [show kk + 1 - 1 = kk by omega] at hqc
              have hq2 : w2.cell? (ad.add (kk * 5)) = some (.slice A0 q.length a0) := (hA02.cell (World.block_lt_of_cell? wr _ hqc)).trans hqc
              have hqr2 := hqr.below hA02 (Nat.le_refl _)
              have j1 : (0 : Int) ≤ (kk : Int) := by omega
              have j2 : (kk : Int) < (l.length : Int) := by omega
              have j3 : kk < l.length := by omega
              have j4 : IntKind.i64.wrap (kk : Int) = (kk : Int) := by rw [IntKind.wrap_i64]; omega
              have j5 : (0 : Int) < (kk : Int) + 1 := by omega
              have hcmp := fun m => Compare_any _ _ _ _ (w2.drewN m) (show RdB (w2.drewN m) _ _ from hqr2) (show RdB (w2.drewN m) _ _ from hkr)
              have hst2 : scanE kind Q none (pcs l) = if decide (ordC q key < 0) = false then 63 else scanE kind Q (prevK (pcs l) (kk + 1 + 1)) ((pcs l).drop (kk + 1 + 1)) := hst'
              have HST := Lib.hid hst2
              have HPK := Lib.hid hpk
              have HCM := Lib.hid hcmp
              clear hst' hst2 hq hprev hqc hqr hpk hqr2 hkr hcmp hxk
              generalize ordC q key = oc at *
              by_cases hoc : oc < 0
              · have i1 : ¬ (0 : Int) ≤ oc := by omega
                go_upto_region 8 with (fail)
                go_region_held3 (fun w' => w'.cell? (ad.add (kk * 5)) = some (.slice A0 q.length a0) ∧ w'.cell? ⟨wr.heap.size, 0, none⟩ = some (.slice A1 key.length a1))
                  (first | exact ⟨hq2, k0⟩)
                  (first
                    | (go_at_call 130; refine (HCM.out 1).mono ?_; rintro e w7 ⟨rfl, rfl⟩)
                    | fail)
                go_wp2_with fail
                exact ⟨⟨kk + 1 + 1, by omega, by go_num, Lib.hid (by rw [HST.out, if_neg (by simp [hoc])]), HCX, hA2.drew⟩, by simp [intOf]; omega⟩
              · have i1 : (0 : Int) ≤ oc := by omega
                have henc : encK kind (pcs l) Q = 63 := by
                  have := HST.out
                  rw [if_pos (by simp [hoc])] at this
                  unfold encK; rw [if_pos (by rw [this]; simp), this]
                have HE := Lib.hid henc
                clear henc
                go_upto_region 8 with (fail)
                go_region_held3 (fun w' => w'.cell? (ad.add (kk * 5)) = some (.slice A0 q.length a0) ∧ w'.cell? ⟨wr.heap.size, 0, none⟩ = some (.slice A1 key.length a1))
                  (first | exact ⟨hq2, k0⟩)
                  (first
                    | (go_at_call 130; refine (HCM.out 1).mono ?_; rintro e w7 ⟨rfl, rfl⟩)
                    | fail)
                go_wp2_with fail
                go_ret2
                rw [HE.out]
                exact ⟨hA2.drew, .inr ⟨HK.out, .inl ⟨by omega, rfl⟩⟩⟩
            · obtain rfl : k = 0 := by omega
              have e0 : afterP (prevK (pcs l) 0) key = true := rfl
              rw [e0, if_neg (by simp)] at hst'
              have HST := Lib.hid hst'
              clear hst' e0
              go_upto_region 8 with (fail)
              go_region
              go_wp2_with fail
              exact ⟨⟨1, by omega, rfl, Lib.hid HST.out, HCX, hA2.drew⟩, by simp [intOf]; omega⟩
          · have henc : encK kind (pcs l) Q = 62 := by
              rw [if_pos hmy] at hst'
              unfold encK; rw [if_pos (by rw [hst']; simp), hst']
            have HE := Lib.hid henc
            rw [hmy]
            clear hst' hmy henc
            go_wp2_with fail
            go_ret2
            rw [HE.out]
            exact ⟨hA2, .inr ⟨HK.out, .inl ⟨by omega, rfl⟩⟩⟩
        · obtain rfl : k = l.length := by omega
          have hfin : scanE kind Q none (pcs l) = 0 := by rw [HSC.out, List.drop_of_length_le (by rw [pcs_length]; omega)]; rfl
          have hokc : ∀ c ∈ pcs l, OkC Q c := fun c hc => by
            obtain ⟨j, hj, rfl⟩ := List.getElem_of_mem hc
            exact HOK.out j (by rw [pcs_length] at hj; exact hj) hj
          have hbg := bigK_okc hQ2 hokc
          rw [pcs_length] at hbg
          have hpk : ∀ (i : Nat) (hi : i < (pcs l).length), ¬ (kind = 3 ∧ i = 0) → sharedF kind (pcs l) ≤ (pcs l)[i].key.length := fun i hi hn => (key_split (kind := kind) hi hn).1
          have hsb : sharedF kind (pcs l) ≤ 131072 := by
            rcases Nat.eq_zero_or_pos (sharedF kind (pcs l)) with e | e
            · omega
            · obtain ⟨i, hi, hn⟩ := sharedF_pos e
              have h2 := hpk i hi hn
              have h3 := okc_fit (hokc _ (List.getElem_mem hi)) hQ2
              omega
          have hlr := hl.below hB
          have hSh := Kshared_any kind (.slice A l.length c) l wr hlr
          have hTk := fun W hW => Ktaken_any kind (.slice A l.length c) l (sharedF kind (pcs l)) W hW (by omega) (by omega) hpk
          have HF := Lib.hid hfin
          have HO := Lib.hid hokc
          have HPK := Lib.hid hpk
          have hps : takenF kind (pcs l) (sharedF kind (pcs l)) = psizeF kind (pcs l) := rfl
          rw [hps] at hTk
          clear hps
          obtain ⟨s, hs⟩ : ∃ s, sharedF kind (pcs l) = s := ⟨_, rfl⟩
          rw [hs] at hSh hTk hsb
          have HS := Lib.hid hs
          clear hokc hfin hpk HOK HSC hbg hs
          go_upto_if 60 with (first
            | (go_at_call 139; (with_reducible refine hSh.mono ?_); rintro e w1 ⟨rfl, hb1⟩)
            | (go_at_call 138; (with_reducible refine (hTk _ (hlr.below hb1)).mono ?_); rintro e w2 ⟨rfl, hb2⟩)
            | fail)
          have hB2 := hB.trans ((hb1.trans (hb2.mono hb1.size)).mono hB.size)
          clear hSh hTk hb1 hb2 hlr hB
          by_cases hsz : psizeF kind (pcs l) ≤ Q
          · have hE : encK kind (pcs l) Q = 0 := encK_zero.2 ⟨HF.out, hsz⟩
            have HE := Lib.hid hE
            have HZ := Lib.hid hsz
            have hft := fitK hsz
            have ha0 : a0K kind (pcs l) = 6 + s + 2 * l.length := by unfold a0K; rw [HS.out, pcs_length]
            have i1 : ¬ (Q : Int) < (psizeF kind (pcs l) : Int) := by omega
            have p1 : (0 : Int) < (Q : Int) := by omega
            have p2 : (1 : Int) < (Q : Int) := by omega
            have hkb : IntKind.u8.wrap kind = ((u8I kind).toNat : Int) := by
              have h := HKD.out
              unfold u8I
              rw [IntKind.wrap_u8, UInt8.toNat_ofNat']; omega
            have hnQ : 6 + s + 2 * l.length + 4 ≤ Q := by omega
            have hwn : IntKind.u64.wrap (l.length : Int) = (l.length : Int) := IntWalk.u64_in _ (by omega)
            have hws : IntKind.u64.wrap (s : Int) = (s : Int) := IntWalk.u64_in _ (by omega)
            have HFT := Lib.hid hft
            have HA0 := Lib.hid ha0
            clear hE hsz hft ha0 HF
            go_upto_region 15 with (first | (at_make; refine wp_make_B rfl (.tmp 61) (.tmp 61) rfl _ Q rfl rfl rfl (by omega) ?_; intro w3 hb3 hw3 hs3) | fail)
            have hg3 : w.heap.size ≤ w2.heap.size := hB2.size
            have hB3 := hB2.trans (hw3.mono hB2.size)
            clear hs3 hw3
            obtain ⟨g, hg⟩ : ∃ g, w2.heap.size = g := ⟨_, rfl⟩
            rw [hg] at hb3 hg3 ⊢
            clear hg hB2
            go_cut [] (fun wx => OBlk wx g 5 (bvs (st1K kind Q)) ∧ Below w.heap.size w wx)
            case first =>
              have z0 : w3.cell? ⟨g, 0, none⟩ = some (.int .u8 0) := hb3.cell' (by rw [bvs_replicate, List.getElem?_replicate]; simp; omega)
              have z1 : w3.cell? ⟨g, 1, none⟩ = some (.int .u8 0) := hb3.cell' (by rw [bvs_replicate, List.getElem?_replicate]; simp; omega)
              have f0 : w3.frozen? ⟨g, 0, none⟩ = false := hb3.frozen (by rw [bvs_length, List.length_replicate]; omega)
              have f1 : w3.frozen? ⟨g, 1, none⟩ = false := hb3.frozen (by rw [bvs_length, List.length_replicate]; omega)
              go_wp2_with fail
              go_meet
              have e0 := (hb3.set 0 (bv (u8I kind))).set 1 (bv 2)
              rw [show bv (u8I kind) = Value.int .u8 ((u8I kind).toNat : Int) from rfl, show bv 2 = Value.int .u8 ((2 : UInt8).toNat : Int) from rfl, ← bvs_set, ← bvs_set] at e0
              exact ⟨e0, (hB3.setCell hg3 _).setCell hg3 _⟩
            case rest =>
              obtain ⟨hb4, hB4⟩ := hcut
              clear hb3 hB3 p1 p2 hkb
              have l4 := st1K_length kind Q
              have n1 : ¬ Q = 2 := by omega
              have n2 : (2 : Int) ≤ (Q : Int) := by omega
              go_upto_region 16 with (fail)
              go_cut [] (fun wx => OBlk wx g 5 (bvs (st2K kind (pcs l) Q)) ∧ Below w.heap.size w wx)
              case first =>
                go_region_held3 (fun _ => True) (trivial)
                  (first
                    | (go_at_call 141; (with_reducible refine (Fixed_2 l.length (by omega) _).mono ?_); rintro e w7 ⟨rfl, hf7, hw7, hs7⟩)
                    | (refine step_copy_B (by rfl) (.tmp 70) (.tmp 74) (by rfl) _ (Q - 2) (Q - 2) g 2 (by rfl) _ ((hb4.drew).below hw7 (by have := hb4.lt; simpa using this)) (fun _ => rfl) (by rw [l4]; omega) _ (fixedF l.length 2) (by rfl) (hf7.rdB (fixedF_length _ 2) (by omega)) ?_; intro w8 hb8 hg8)
                    | fail)
                go_wp2_with fail
                go_meet
                rw [Nat.min_eq_left (by rw [fixedF_length]; omega), List.take_length, ← pcs_length l, st1K_next hQ1] at hb8
                exact ⟨hb8, (hB4.drew.trans (hw7.mono hB4.size)).grown hg8 (Nat.le_trans hB4.size hw7.size) (fun k hk => (Option.some.inj hk) ▸ hg3)⟩
              case rest =>
                obtain ⟨hb5, hB5⟩ := hcut
                clear hb4 hB4 l4 n1 n2 hwn
                have l5 := st2K_length (kind := kind) (l := pcs l) hQ1
                have n1 : ¬ Q = 4 := by omega
                have n2 : (4 : Int) ≤ (Q : Int) := by omega
                go_upto_region 17 with (fail)
                go_cut [] (fun wx => OBlk wx g 5 (bvs (st3K kind (pcs l) Q)) ∧ Below w.heap.size w wx)
                case first =>
                  go_region_held3 (fun _ => True) (trivial)
                    (first
                      | (go_at_call 141; (with_reducible refine (Fixed_2 s (by omega) _).mono ?_); rintro e w7 ⟨rfl, hf7, hw7, hs7⟩)
                      | (refine step_copy_B (by rfl) (.tmp 77) (.tmp 80) (by rfl) _ (Q - 4) (Q - 4) g 4 (by rfl) _ ((hb5.drew).below hw7 (by have := hb5.lt; simpa using this)) (fun _ => rfl) (by rw [l5]; omega) _ (fixedF s 2) (by rfl) (hf7.rdB (fixedF_length _ 2) (by omega)) ?_; intro w8 hb8 hg8)
                      | fail)
                  go_wp2_with fail
                  go_meet
                  rw [Nat.min_eq_left (by rw [fixedF_length]; omega), List.take_length, ← HS.out, st2K_next hQ1] at hb8
                  exact ⟨hb8, (hB5.drew.trans (hw7.mono hB5.size)).grown hg8 (Nat.le_trans hB5.size hw7.size) (fun k hk => (Option.some.inj hk) ▸ hg3)⟩
                case rest =>
                  obtain ⟨hb6, hB6⟩ := hcut
                  clear hb5 hB5 l5 n1 n2 hws
                  go_upto_if 83 with (fail)
                  go_cut [] (fun wx => OBlk wx g 5 (bvs (contK kind (pcs l) Q 0)) ∧ Below w.heap.size w wx)
                  case first =>
                    by_cases hs0 : s = 0
                    · have i2 : ¬ (0 : Int) < (s : Int) := by omega
                      have e := st3K_zero HZ.out (by rw [HS.out]; exact hs0)
                      rw [e] at hb6
                      clear e hs0
                      go_wp2_with fail
                      go_meet
                      exact ⟨hb6, hB6⟩
                    · have i2 : (0 : Int) < (s : Int) := by omega
                      obtain ⟨j, hj, hjn⟩ := sharedF_pos (kind := kind) (l := pcs l) (by rw [HS.out]; omega)
                      rw [pcs_length] at hj
                      obtain ⟨m, hm1⟩ : ∃ m, l.length = m + 1 := ⟨l.length - 1, by omega⟩
                      have hlt : m < l.length := by omega
                      have hkm := HPK.out m (by rw [pcs_length]; exact hlt) (fun h => hjn ⟨h.1, by omega⟩)
                      have hpf : prefF kind (pcs l) = ((pcs l)[m]'(by rw [pcs_length]; exact hlt)).key.take (sharedF kind (pcs l)) := by
                        unfold prefF
                        have e : (pcs l).getLast? = some ((pcs l)[m]'(by rw [pcs_length]; exact hlt)) := by
                          have e9 : (pcs l).length - 1 = m := by rw [pcs_length]; omega
                          rw [List.getLast?_eq_getElem?, e9]
                          exact List.getElem?_eq_getElem _
                        rw [e]
                      rw [HS.out, pcs_at hlt] at hkm hpf
                      obtain ⟨ad, rfl, c0w, _, _, _, _⟩ := hl.at_ hlt
                      have hbk := World.block_lt_of_cell? w _ c0w
                      have c0 := (hB6.cell hbk).trans c0w
                      clear c0w
                      have hx := (hl.below hB6).ok _ (List.getElem_mem hlt)
                      generalize l[m] = x at *
                      obtain ⟨A1, a1, B1, b1, key, ck, val, pg, ct, rfl, _, _⟩ := CV.form hx
                      simp only at hkm hpf c0
                      have hxk : RdB _ (.slice A1 key.length a1) key := hx.k
                      obtain ⟨A7, c7, hrun, hrd⟩ := hxk.run_h s hkm
                      have j1 : (0 : Int) ≤ (l.length : Int) - 1 := by omega
                      have j2 : (l.length : Int) - 1 < (l.length : Int) := by omega
                      have j3 : ((l.length : Int) - 1).toNat = m := by omega
                      have j4 : IntKind.i64.wrap ((l.length : Int) - 1) = (l.length : Int) - 1 := by rw [IntKind.wrap_i64]; omega
                      have j5 : (1 : Int) ≤ (l.length : Int) := by omega
                      have j6 : 0 < l.length := by omega
                      have j7 : l.length - 1 = m := by omega
                      have n1 : ¬ Q = 6 := by omega
                      have n2 : (6 : Int) ≤ (Q : Int) := by omega
                      have hkl : (key.take s).length = s := by rw [List.length_take]; omega
                      have HKL := Lib.hid hkl
                      have HPF := Lib.hid hpf
                      have l6 := st3K_length (kind := kind) (l := pcs l) hQ1
                      have HM := Lib.hid hm1
                      clear hkl hpf hm1 hs0 hjn hx hxk
                      generalize key.take s = kt at *
                      go_upto_region 19 with (fail)
                      go_region_held3 (fun w' => w'.cell? (ad.add (m * 5)) = some (.slice A1 key.length a1))
                        (first
                          | exact c0
                          | exact hg8.cell c0 (by simp; omega))
                        (first
                          | (refine step_copy_B (by rfl) (.tmp 85) (.tmp 94) (by rfl) _ (Q - 6) (Q - 6) g 6 (by rfl) _ hb6.drew (fun _ => rfl) (by rw [l6]; omega) _ kt (by rfl) hrd.drew ?_; intro w8 hb8 hg8)
                          | fail)
                      go_wp2_with fail
                      go_meet
                      rw [Nat.min_eq_left (by rw [HKL.out]; omega), List.take_length, ← HPF.out, st3K_next HZ.out] at hb8
                      exact ⟨hb8, hB6.drew.grown hg8 hB6.size (fun k hk => (Option.some.inj hk) ▸ hg3)⟩
                  case rest =>
                    obtain ⟨hb7, hB7⟩ := hcut
                    clear hb6 hB6
                    go_wp2_with fail
                    go_loopw [12, 104] (fun a i wr => ∃ k : Nat, k ≤ l.length ∧ i = .int .i64 (k : Int) ∧ a = .int .i64 ((a0K kind (pcs l) + (bodyK kind (pcs l) k).length : Nat) : Int) ∧ OBlk wr g 5 (bvs (contK kind (pcs l) Q k)) ∧ Below w.heap.size w wr) (fun _ i _ => l.length - (intOf i).toNat)
                    case atStart => exact ⟨0, Nat.zero_le _, rfl, by rw [bodyK_zero, HA0.out]; simp only [List.length_nil]; go_num, hb7, hB7⟩
                    case round =>
                      clear hb7 hB7
                      obtain ⟨k, hk, rfl, rfl, hb, hB⟩ := hrel
                      by_cases hlt : k < l.length
                      · have ik : (k : Int) < (l.length : Int) := by omega
                        have hlp : k < (pcs l).length := by rw [pcs_length]; exact hlt
                        have hcs := contK_slot (kind := kind) (P := Q) hlp
                        have hcc := contK_cell HZ.out hlp
                        have hbs := congrArg List.length (bodyK_succ (kind := kind) hlp)
                        have hbl := bodyK_le (kind := kind) (show k + 1 ≤ (pcs l).length from hlp)
                        rw [List.length_append] at hbs
                        rw [pcs_at hlt] at hcc hbs
                        rw [HS.out] at hcs hcc hbs
                        rw [HS.out] at hbl
                        have hft := HFT.out
                        rw [HS.out] at hft
                        have hlc := contK_length HZ.out (Nat.le_of_lt hlp)
                        have hlm := midK_length HZ.out hlp
                        have hoc := HO.out _ (show l[k].c ∈ pcs l by rw [← pcs_at hlt]; exact List.getElem_mem _)
                        have hpk := HPK.out k hlp
                        rw [HS.out, pcs_at hlt] at hpk
                        obtain ⟨ad, rfl, c0, c1, c2, c3, c4⟩ := (hl.below hB).at_ hlt
                        have hx := (hl.below hB).ok _ (List.getElem_mem hlt)
                        have hx0 := hl.ok _ (List.getElem_mem hlt)
                        generalize l[k] = x at *
                        obtain ⟨A1, a1, B1, b1, key, ck, val, pg, ct, rfl, _, _⟩ := CV.form hx
                        have hwr := fun W hW => Kwritten_any Q hQ2 kind k ⟨.slice A1 key.length a1, .slice B1 val.length b1, ⟨key, ck, val, pg, ct⟩⟩ s W hW hoc hpk
                        unfold cellV at hwr
                        have hA0 : Below wr.heap.size wr (wr.alloc (.cells #[.slice A1 key.length a1, .int .i64 ck, .slice B1 val.length b1, .int .i64 pg, .int .i64 ct] 43)) := (Below.refl wr.heap.size wr).alloc (Nat.le_refl _) _
                        have hA := hB.trans (hA0.mono hB.size)
                        have hbA := hb.alloc (.cells #[.slice A1 key.length a1, .int .i64 ck, .slice B1 val.length b1, .int .i64 pg, .int .i64 ct] 43)
                        have hcb := OBlk.new' wr 43 [.slice A1 key.length a1, .int .i64 ck, .slice B1 val.length b1, .int .i64 pg, .int .i64 ct]
                        have hgl := hb.lt
                        simp only at hcc hbs hwr
                        generalize pcF kind k ⟨key, ck, val, pg, ct⟩ s = pl at *
                        have hq : a0K kind (pcs l) + (bodyK kind (pcs l) (k + 1)).length = (a0K kind (pcs l) + (bodyK kind (pcs l) k).length) + pl.length := by omega
                        have hqP : (a0K kind (pcs l) + (bodyK kind (pcs l) k).length) + pl.length + 4 ≤ Q := by omega
                        have HQ := Lib.hid hq
                        have HCC := Lib.hid hcc
                        have HLC := Lib.hid hlc
                        have HLM := Lib.hid hlm
                        have HCS := Lib.hid hcs
                        have hsk : 6 + s + 2 * k + 2 ≤ Q := by omega
                        generalize a0K kind (pcs l) + (bodyK kind (pcs l) k).length = q at *
                        clear hbs hbl hft hlc hlm hcs hcc hq hB hb hoc hx hpk
                        have m1 : (0 : Int) ≤ (6 : Int) + (s : Int) + 2 * (k : Int) := by omega
                        have m2 : (6 : Int) + (s : Int) + 2 * (k : Int) ≤ (Q : Int) := by omega
                        have m3 : ((6 : Int) + (s : Int) + 2 * (k : Int)).toNat = 6 + s + 2 * k := by omega
                        have m4 : ¬ Q = 6 + s + 2 * k := by omega
                        have m5 : IntKind.i64.wrap (2 * (k : Int)) = 2 * (k : Int) := by rw [IntKind.wrap_i64]; omega
                        have m6 : IntKind.i64.wrap ((6 : Int) + (s : Int)) = (6 : Int) + (s : Int) := by rw [IntKind.wrap_i64]; omega
                        have m7 : IntKind.i64.wrap ((6 : Int) + (s : Int) + 2 * (k : Int)) = (6 : Int) + (s : Int) + 2 * (k : Int) := by rw [IntKind.wrap_i64]; omega
                        have m8 : IntKind.u64.wrap (q : Int) = (q : Int) := IntWalk.u64_in _ (by omega)
                        have m9 : (q : Int) ≤ (Q : Int) := by omega
                        have m10 : ¬ Q = q := by omega
                        go_upto_region 24 with (fail)
                        go_cut [] (fun wx => OBlk wx g 5 (bvs (midK kind (pcs l) Q k)) ∧ OBlk wx wr.heap.size 43 [.slice A1 key.length a1, .int .i64 ck, .slice B1 val.length b1, .int .i64 pg, .int .i64 ct] ∧ Below w.heap.size w wx)
                        case first =>
                          go_region_held3 (fun _ => True) (trivial)
                            (first
                              | (go_at_call 141; (with_reducible refine (Fixed_2 q (by omega) _).mono ?_); rintro e w7 ⟨rfl, hf7, hw7, hs7⟩)
                              | (refine step_copy_B (by rfl) (.tmp 115) (.tmp 118) (by rfl) _ (Q - (6 + s + 2 * k)) (Q - (6 + s + 2 * k)) g (6 + s + 2 * k) (by rfl) _ ((hbA.drew).below hw7 (by have := hbA.lt; simpa using this)) (fun _ => rfl) (by rw [HLC.out]; omega) (.slice (some ⟨wr.heap.size + 1, 0, none⟩) 2 2) (fixedF q 2) (by rfl) (by have h := hf7.rdB (fixedF_length q 2) (by omega); simp at h; exact h) ?_; intro w8 hb8 hg8)
                              | fail)
                          go_wp2_with fail
                          go_meet
                          rw [Nat.min_eq_left (by rw [fixedF_length]; omega), List.take_length, HCS.out] at hb8
                          exact ⟨hb8, ((hcb.drew).below hw7 (by simp)).grown hg8 (by simp only [ne_eq, Option.some.injEq]; omega), (hA.drew.trans (hw7.mono hA.size)).grown hg8 (Nat.le_trans hA.size hw7.size) (fun k hk => (Option.some.inj hk) ▸ hg3)⟩
                        case rest =>
                          obtain ⟨hb8, hcb8, hB8⟩ := hcut
                          clear hbA hcb hA hA0 c0 c1 c2 c3 c4 m1 m2 m3 m4 m5 m6 m7
                          have hmin : min pl.length (Q - q) = pl.length := Nat.min_eq_left (by omega)
                          have hq3 : IntKind.i64.wrap ((q : Int) + (pl.length : Int)) = (q : Int) + (pl.length : Int) := by rw [IntKind.wrap_i64]; omega
                          go_upto_region 25 with (fail)
                          obtain ⟨c0, c1, c2, c3, c4⟩ := cells5 hcb8
                          have hcz := hcb8.lt
                          go_region_held3 (fun w' => w'.cell? ⟨wr.heap.size, 0, none⟩ = some (.slice A1 key.length a1) ∧ w'.cell? ⟨wr.heap.size, 1, none⟩ = some (.int .i64 ck) ∧ w'.cell? ⟨wr.heap.size, 2, none⟩ = some (.slice B1 val.length b1) ∧ w'.cell? ⟨wr.heap.size, 3, none⟩ = some (.int .i64 pg) ∧ w'.cell? ⟨wr.heap.size, 4, none⟩ = some (.int .i64 ct))
                            (first
                              | exact ⟨c0, c1, c2, c3, c4⟩
                              | exact cells5 (hcb8.drew.below hw9 hcb8.lt)
                              | exact cells5 ((hcb8.drew.below hw9 hcb8.lt).grown hg10 (by simp only [ne_eq, Option.some.injEq]; omega)))
                            (first
                              | (go_at_call 142; refine (hwr _ (hx0.below hB8.drew)).mono ?_; rintro e w9 ⟨v9, rfl, ho9, hw9⟩)
                              | (refine step_copy_B (by rfl) (.tmp 123) (.tmp 128) (by rfl) _ (Q - q) (Q - q) g q (by rfl) _ (hb8.drew.below hw9 hb8.lt) (fun _ => rfl) (by rw [HLM.out]; omega) v9 pl (by rfl) ho9.rd ?_; intro w10 hb10 hg10)
                              | fail)
                          go_wp2_with fail
                          rw [hmin, List.take_length, HCC.out] at hb10
                          go_roundw
                          case rel => exact ⟨k + 1, by omega, by go_num, by rw [HQ.out]; go_num, hb10, (hB8.drew.trans (hw9.mono hB8.size)).grown hg10 (Nat.le_trans hB8.size hw9.size) (fun k hk => (Option.some.inj hk) ▸ hg3)⟩
                          case measure => simp [intOf]; omega
                      · obtain rfl : k = l.length := by omega
                        obtain ⟨hce1, hce2⟩ := contK_end HZ.out
                        have hlc : (contK kind (pcs l) Q l.length).length = Q := contK_length HZ.out (by rw [pcs_length]; omega)
                        rw [pcs_length] at hce1 hce2
                        have HL := Lib.hid hlc
                        have HC1 := Lib.hid hce1
                        have HC2 := Lib.hid hce2
                        have hsl : sumF (preK kind (pcs l) Q) < 4294967296 := sumF_lt _
                        obtain ⟨en, hen⟩ : ∃ en : Nat, en + 4 = Q := ⟨Q - 4, by omega⟩
                        have he : (Q : Int) - 4 = (en : Int) := by omega
                        have hws : IntKind.u64.wrap ((sumF (preK kind (pcs l) Q) : Nat) : Int) = ((sumF (preK kind (pcs l) Q) : Nat) : Int) := IntWalk.u64_in _ (by omega)
                        have hp3 : (512 : Int) ≤ (Q : Int) := by omega
                        have hp4 : (Q : Int) ≤ 65536 := by omega
                        have b1 : (0 : Int) ≤ (en : Int) := by omega
                        have b2 : (en : Int) ≤ (Q : Int) := by omega
                        have b3 : en ≤ Q := by omega
                        have b6 : IntKind.i64.wrap (en : Int) = (en : Int) := by rw [IntKind.wrap_i64]; omega
                        have HEN := Lib.hid hen
                        have b4 : en < Q := by omega
                        have b5 : ¬ (Q = en) := by omega
                        rw [show Q - 4 = en by omega] at HC1 HC2
                        clear hen hce1 hce2 hlc
                        generalize contK kind (pcs l) Q l.length = L at *
                        have hbd : RdB wr (.slice (some ⟨g, 0, none⟩) en Q) (preK kind (pcs l) Q) := by
                          have := RdB.slice0 (n := en) hb (by rw [HL.out]; exact b3) HL.out (by omega)
                          rw [HC1.out] at this
                          exact this
                        generalize preK kind (pcs l) Q = M at *
                        go_wp2_with fail
                        go_region_held3 (fun _ => True) (trivial)
                          (first
                            | (go_at_call 143; (with_reducible refine (Sum_any _ [M] _ ?_).mono ?_); (exact RdL.one hbd.drew _); rintro e w7 ⟨rfl, hw7⟩)
                            | (go_at_call 141; (with_reducible refine (Fixed_4 (sumF M) (by omega) _).mono ?_); rintro e w9 ⟨rfl, hf9, hw9, hs9⟩)
                            | (refine step_copy_B (by rfl) (.tmp 135) (.tmp 143) (by rfl) _ (Q - en) (Q - en) g en (by rfl) L ((((hb.alloc _).drew).below hw7 (by have := hb.lt; simp; omega)).below hw9 (by have := hb.lt; have := hw7.size; simp at this; omega)) (fun _ => rfl) (by rw [HL.out]; omega) (.slice (some ⟨w7.heap.size, 0, none⟩) 4 4) (fixedF (sumF M) 4) (by rfl) (hf9.rdB (fixedF_length _ 4) (by omega)) ?_; intro w8 hb8 hg8)
                            | fail)
                        go_wp2_with fail
                        go_ret2
                        rw [Nat.min_eq_left (by rw [fixedF_length]; have := HEN.out; omega), List.take_length, HC2.out] at hb8
                        have hb7 : Below w.heap.size w w7 := ((hB.alloc hB.size _).drew).trans (hw7.mono (by have := hB.size; simp; omega))
                        have hb9 : Below w.heap.size w w9 := hb7.trans (hw9.mono hb7.size)
                        exact ⟨hb9.grown hg8 hb9.size (fun j hj => (Option.some.inj hj) ▸ hg3), .inr ⟨HK.out, .inr ⟨HE.out, g, rfl, hg3, hb8⟩⟩⟩
          · have hE : encK kind (pcs l) Q = 61 := by
              unfold encK
              rw [if_neg (by rw [HF.out]; simp), if_pos (by omega)]
            have HE := Lib.hid hE
            have i1 : (Q : Int) < (psizeF kind (pcs l) : Int) := by omega
            clear hE hsz
            go_wp2_with fail
            go_ret2
            rw [HE.out]
            exact ⟨hB2, .inr ⟨HK.out, .inl ⟨by omega, rfl⟩⟩⟩
end Go.Proofs.YtfcnkpofcekmgaaGreat

-- espalierref07.IsSize, May: walks.
namespace Go.Proofs.YtfcnkpofcekmgaaGreat
open Go.RowKit
def numKB (n : Int) : Bool := decide (2 ≤ n ∧ n < 65536)
set_option maxRecDepth 20000 in
set_option maxHeartbeats 2000000 in
theorem RKIsSize_any (p : Int) (w : World) : Calls Tryz.prog 110 #[.int .i64 p] w fun e w' => e = .returned (.bool (isPowB p)) ∧ w = w' := by
  go_enter Tryz.func110, Tryz.ntmps110
  go_wp2_with fail
  go_loopw [3] (fun i wr => ∃ j : Nat, j ≤ 8 ∧ i = .int .i64 (pw j) ∧ Hid (∀ k, k < j → p ≠ pw k) ∧ w = wr) (fun i _ => (131072 - intOf i).toNat)
  case atStart => exact ⟨0, by omega, rfl, Lib.hid (by omega), rfl⟩
  case round =>
    obtain ⟨j, hj, rfl, HN, rfl⟩ := hrel
    rcases (by omega : j = 8 ∨ j < 8) with rfl | hlt
    · have HV := Lib.hid (show isPowB p = false from decide_eq_false fun h => by
        obtain ⟨k, hk, e⟩ := (isPow_pw p).1 h
        exact HN.out k hk e)
      have e8 : pw 8 = 131072 := by decide
      rw [e8]
      go_wp2_with fail
      go_ret
      rw [HV.out]
      exact ⟨rfl, rfl⟩
    · have hb : 512 ≤ pw j ∧ pw j ≤ 65536 ∧ pw (j + 1) = pw j * 2 := by
        rcases (by omega : j = 0 ∨ j = 1 ∨ j = 2 ∨ j = 3 ∨ j = 4 ∨ j = 5 ∨ j = 6 ∨ j = 7) with rfl | rfl | rfl | rfl | rfl | rfl | rfl | rfl <;> decide
      obtain ⟨h1, h2, h3⟩ := hb
      by_cases hp : p = pw j
      · have HV := Lib.hid (show isPowB p = true from decide_eq_true ((isPow_pw p).2 ⟨j, hlt, hp⟩))
        have hb : (pw j == p) = true := by simp [hp]
        clear hp h3
        generalize pw j = x at *
        go_wp2_with fail
        go_ret
        rw [HV.out]
        exact ⟨rfl, rfl⟩
      · have HN2 := Lib.hid (show ∀ k, k < j + 1 → p ≠ pw k from fun k hk => by
          rcases (by omega : k < j ∨ k = j) with h | rfl
          · exact HN.out k h
          · exact hp)
        have hb : (pw j == p) = false := by
          rw [Bool.eq_false_iff]
          simp only [ne_eq, beq_iff_eq]
          exact fun e => hp e.symm
        have H3 := Lib.hid h3
        clear hp h3
        generalize hx : pw j = x at *
        clear hx
        go_wp2_with fail
        go_roundw
        case rel => exact ⟨j + 1, by omega, by rw [H3.out], HN2, trivial⟩
        case measure => simp [intOf]; omega
set_option maxRecDepth 100000 in
set_option maxHeartbeats 8000000 in
theorem RKMay_any (kind : Int) (P : Nat) (hk : kind = 2 ∨ kind = 3) (hP : P ≤ 65536) (x : CV) (w : World) (hx : x.ok w) : Calls Tryz.prog 120 #[.int .i64 kind, cellV x, .int .i64 (P : Int)] w fun e w' => e = .returned (.bool (mayP kind P x.c)) ∧ Below w.heap.size w w' := by
  obtain ⟨A, ca, B, cb, key, ck, val, pg, ct, rfl, _, _⟩ := CV.form hx
  have hA : Below w.heap.size w (w.alloc (.cells #[.slice A key.length ca, .int .i64 ck, .slice B val.length cb, .int .i64 pg, .int .i64 ct] 43)) := (Below.refl _ _).alloc (Nat.le_refl _) _
  obtain ⟨c0, c1, c2, c3, c4⟩ := cells5 (OBlk.new' w 43 [.slice A key.length ca, .int .i64 ck, .slice B val.length cb, .int .i64 pg, .int .i64 ct])
  unfold cellV
  clear hx
  go_enter Tryz.func120, Tryz.ntmps120
  go_upto_region 3 with (fail)
  generalize w.alloc (.cells #[.slice A key.length ca, .int .i64 ck, .slice B val.length cb, .int .i64 pg, .int .i64 ct] 43) = w0 at *
  go_cut [9] (fun a wx => a = .bool (numKB pg) ∧ wx = w0)
  case first =>
    by_cases a1 : 2 ≤ pg
    · by_cases a2 : pg < 65536
      · go_wp2_with fail
        go_meet
        exact ⟨congrArg Value.bool (show numKB pg = true from decide_eq_true (by omega)).symm, rfl⟩
      · go_wp2_with fail
        go_meet
        exact ⟨congrArg Value.bool (show numKB pg = false from decide_eq_false (by omega)).symm, rfl⟩
    · go_wp2_with fail
      go_meet
      exact ⟨congrArg Value.bool (show numKB pg = false from decide_eq_false (by omega)).symm, rfl⟩
  case rest =>
   obtain ⟨rfl, rfl⟩ := hcut
   rcases hk with rfl | rfl
   · skip
     by_cases z : key.length < 1
     · have z0 : (key.length : Int) < 1 := by omega
       have HV : Hid (mayP 2 P ⟨key, ck, val, pg, ct⟩ = false) := Lib.hid (by unfold mayP childP thereP; dsimp only; (repeat' split) <;> first | rfl | (exfalso; omega) | exact decide_eq_true (by omega) | exact decide_eq_false (by omega))
       clear z
       go_wp2_with fail
       go_ret
       rw [HV.out]
       exact ⟨rfl, hA⟩
     · have z0 : ¬ (key.length : Int) < 1 := by omega
       by_cases u : key.length ≤ P / 8
       · have u0 : (key.length : Int) ≤ (P : Int) / 8 := by omega
         have u1 : ¬ (P : Int) / 8 < (key.length : Int) := by omega
         by_cases k1 : ck = 1
         · have k10 : (ck == 1) = true := beq_iff_eq.2 k1
           subst k1
           clear k10
           by_cases v : val.length ≤ P / 16 * 3
           · have v0 : (val.length : Int) ≤ (P : Int) / 16 * 3 := by omega
             by_cases p : pg = 0
             · have p0 : (pg == 0) = true := beq_iff_eq.2 p
               by_cases c : ct = 0
               · have c0 : (ct == 0) = true := beq_iff_eq.2 c
                 have HV : Hid (mayP 2 P ⟨key, 1, val, pg, ct⟩ = true) := Lib.hid (by unfold mayP childP thereP; dsimp only; (repeat' split) <;> first | rfl | (exfalso; omega) | exact decide_eq_true (by omega) | exact decide_eq_false (by omega))
                 clear v p c
                 go_wp2_with fail
                 go_ret
                 rw [HV.out]
                 exact ⟨rfl, hA⟩
               · have c0 : (ct == 0) = false := beq_eq_false_iff_ne.2 c
                 have HV : Hid (mayP 2 P ⟨key, 1, val, pg, ct⟩ = false) := Lib.hid (by unfold mayP childP thereP; dsimp only; (repeat' split) <;> first | rfl | (exfalso; omega) | exact decide_eq_true (by omega) | exact decide_eq_false (by omega))
                 clear v p c
                 go_wp2_with fail
                 go_ret
                 rw [HV.out]
                 exact ⟨rfl, hA⟩
             · have p0 : (pg == 0) = false := beq_eq_false_iff_ne.2 p
               have HV : Hid (mayP 2 P ⟨key, 1, val, pg, ct⟩ = false) := Lib.hid (by unfold mayP childP thereP; dsimp only; (repeat' split) <;> first | rfl | (exfalso; omega) | exact decide_eq_true (by omega) | exact decide_eq_false (by omega))
               clear v p
               go_wp2_with fail
               go_ret
               rw [HV.out]
               exact ⟨rfl, hA⟩
           · have v0 : ¬ (val.length : Int) ≤ (P : Int) / 16 * 3 := by omega
             have HV : Hid (mayP 2 P ⟨key, 1, val, pg, ct⟩ = false) := Lib.hid (by unfold mayP childP thereP; dsimp only; (repeat' split) <;> first | rfl | (exfalso; omega) | exact decide_eq_true (by omega) | exact decide_eq_false (by omega))
             clear v
             go_wp2_with fail
             go_ret
             rw [HV.out]
             exact ⟨rfl, hA⟩
         · have k10 : (ck == 1) = false := beq_eq_false_iff_ne.2 k1
           by_cases k2 : ck = 2
           · have k20 : (ck == 2) = true := beq_iff_eq.2 k2
             subst k2
             clear k20 k10
             by_cases v : val.length = 0
             · have v0 : ((val.length : Int) == 0) = true := beq_iff_eq.2 (by omega)
               by_cases nb : 2 ≤ pg ∧ pg < 65536
               · rw [show numKB pg = true from decide_eq_true nb]
                 by_cases g : ((P / 16 * 3 : Nat) : Int) < ct
                 · have g0 : (P : Int) / 16 * 3 < ct := by omega
                   by_cases h : ct ≤ 65536
                   · have h0 : ct ≤ 65536 := by omega
                     have HV : Hid (mayP 2 P ⟨key, 2, val, pg, ct⟩ = true) := Lib.hid (by unfold mayP childP thereP; dsimp only; (repeat' split) <;> first | rfl | (exfalso; omega) | exact decide_eq_true (by omega) | exact decide_eq_false (by omega))
                     clear v nb g h
                     go_wp2_with fail
                     go_ret
                     rw [HV.out]
                     exact ⟨rfl, hA⟩
                   · have h0 : ¬ ct ≤ 65536 := by omega
                     have HV : Hid (mayP 2 P ⟨key, 2, val, pg, ct⟩ = false) := Lib.hid (by unfold mayP childP thereP; dsimp only; (repeat' split) <;> first | rfl | (exfalso; omega) | exact decide_eq_true (by omega) | exact decide_eq_false (by omega))
                     clear v nb g h
                     go_wp2_with fail
                     go_ret
                     rw [HV.out]
                     exact ⟨rfl, hA⟩
                 · have g0 : ¬ (P : Int) / 16 * 3 < ct := by omega
                   have HV : Hid (mayP 2 P ⟨key, 2, val, pg, ct⟩ = false) := Lib.hid (by unfold mayP childP thereP; dsimp only; (repeat' split) <;> first | rfl | (exfalso; omega) | exact decide_eq_true (by omega) | exact decide_eq_false (by omega))
                   clear v nb g
                   go_wp2_with fail
                   go_ret
                   rw [HV.out]
                   exact ⟨rfl, hA⟩
               · rw [show numKB pg = false from decide_eq_false nb]
                 have HV : Hid (mayP 2 P ⟨key, 2, val, pg, ct⟩ = false) := Lib.hid (by unfold mayP childP thereP; dsimp only; (repeat' split) <;> first | rfl | (exfalso; omega) | exact decide_eq_true (by omega) | exact decide_eq_false (by omega))
                 clear v nb
                 go_wp2_with fail
                 go_ret
                 rw [HV.out]
                 exact ⟨rfl, hA⟩
             · have v0 : ((val.length : Int) == 0) = false := beq_eq_false_iff_ne.2 (by omega)
               have HV : Hid (mayP 2 P ⟨key, 2, val, pg, ct⟩ = false) := Lib.hid (by unfold mayP childP thereP; dsimp only; (repeat' split) <;> first | rfl | (exfalso; omega) | exact decide_eq_true (by omega) | exact decide_eq_false (by omega))
               clear v
               go_wp2_with fail
               go_ret
               rw [HV.out]
               exact ⟨rfl, hA⟩
           · have k20 : (ck == 2) = false := beq_eq_false_iff_ne.2 k2
             by_cases k4 : ck = 4
             · have k40 : (ck == 4) = true := beq_iff_eq.2 k4
               subst k4
               clear k40 k20 k10
               by_cases v : val.length = 0
               · have v0 : ((val.length : Int) == 0) = true := beq_iff_eq.2 (by omega)
                 by_cases nb : 2 ≤ pg ∧ pg < 65536
                 · rw [show numKB pg = true from decide_eq_true nb]
                   have p0 : (pg == 0) = false := beq_eq_false_iff_ne.2 (by omega)
                   by_cases g : 1 ≤ ct
                   · have g0 : (1 : Int) ≤ ct := by omega
                     by_cases h : ct ≤ 1073741824
                     · have h0 : ct ≤ 1073741824 := by omega
                       have HV : Hid (mayP 2 P ⟨key, 4, val, pg, ct⟩ = true) := Lib.hid (by unfold mayP childP thereP; dsimp only; (repeat' split) <;> first | rfl | (exfalso; omega) | exact decide_eq_true (by omega) | exact decide_eq_false (by omega))
                       clear v nb g h
                       go_wp2_with fail
                       go_ret
                       rw [HV.out]
                       exact ⟨rfl, hA⟩
                     · have h0 : ¬ ct ≤ 1073741824 := by omega
                       have HV : Hid (mayP 2 P ⟨key, 4, val, pg, ct⟩ = false) := Lib.hid (by unfold mayP childP thereP; dsimp only; (repeat' split) <;> first | rfl | (exfalso; omega) | exact decide_eq_true (by omega) | exact decide_eq_false (by omega))
                       clear v nb g h
                       go_wp2_with fail
                       go_ret
                       rw [HV.out]
                       exact ⟨rfl, hA⟩
                   · have g0 : ¬ (1 : Int) ≤ ct := by omega
                     have HV : Hid (mayP 2 P ⟨key, 4, val, pg, ct⟩ = false) := Lib.hid (by unfold mayP childP thereP; dsimp only; (repeat' split) <;> first | rfl | (exfalso; omega) | exact decide_eq_true (by omega) | exact decide_eq_false (by omega))
                     clear v nb g
                     go_wp2_with fail
                     go_ret
                     rw [HV.out]
                     exact ⟨rfl, hA⟩
                 · rw [show numKB pg = false from decide_eq_false nb]
                   by_cases p : pg = 0
                   · have p0 : (pg == 0) = true := beq_iff_eq.2 p
                     by_cases c : ct = 0
                     · have c0 : (ct == 0) = true := beq_iff_eq.2 c
                       have HV : Hid (mayP 2 P ⟨key, 4, val, pg, ct⟩ = true) := Lib.hid (by unfold mayP childP thereP; dsimp only; (repeat' split) <;> first | rfl | (exfalso; omega) | exact decide_eq_true (by omega) | exact decide_eq_false (by omega))
                       clear v nb p c
                       go_wp2_with fail
                       go_ret
                       rw [HV.out]
                       exact ⟨rfl, hA⟩
                     · have c0 : (ct == 0) = false := beq_eq_false_iff_ne.2 c
                       have HV : Hid (mayP 2 P ⟨key, 4, val, pg, ct⟩ = false) := Lib.hid (by unfold mayP childP thereP; dsimp only; (repeat' split) <;> first | rfl | (exfalso; omega) | exact decide_eq_true (by omega) | exact decide_eq_false (by omega))
                       clear v nb p c
                       go_wp2_with fail
                       go_ret
                       rw [HV.out]
                       exact ⟨rfl, hA⟩
                   · have p0 : (pg == 0) = false := beq_eq_false_iff_ne.2 p
                     have HV : Hid (mayP 2 P ⟨key, 4, val, pg, ct⟩ = false) := Lib.hid (by unfold mayP childP thereP; dsimp only; (repeat' split) <;> first | rfl | (exfalso; omega) | exact decide_eq_true (by omega) | exact decide_eq_false (by omega))
                     clear v nb p
                     go_wp2_with fail
                     go_ret
                     rw [HV.out]
                     exact ⟨rfl, hA⟩
               · have v0 : ((val.length : Int) == 0) = false := beq_eq_false_iff_ne.2 (by omega)
                 have HV : Hid (mayP 2 P ⟨key, 4, val, pg, ct⟩ = false) := Lib.hid (by unfold mayP childP thereP; dsimp only; (repeat' split) <;> first | rfl | (exfalso; omega) | exact decide_eq_true (by omega) | exact decide_eq_false (by omega))
                 clear v
                 go_wp2_with fail
                 go_ret
                 rw [HV.out]
                 exact ⟨rfl, hA⟩
             · have k40 : (ck == 4) = false := beq_eq_false_iff_ne.2 k4
               have HV : Hid (mayP 2 P ⟨key, ck, val, pg, ct⟩ = false) := Lib.hid (by unfold mayP childP thereP; dsimp only; (repeat' split) <;> first | rfl | (exfalso; omega) | exact decide_eq_true (by omega) | exact decide_eq_false (by omega))
               clear k1 k2 k4
               go_wp2_with fail
               go_ret
               rw [HV.out]
               exact ⟨rfl, hA⟩
       · have u0 : ¬ (key.length : Int) ≤ (P : Int) / 8 := by omega
         have u1 : (P : Int) / 8 < (key.length : Int) := by omega
         have HV : Hid (mayP 2 P ⟨key, ck, val, pg, ct⟩ = false) := Lib.hid (by unfold mayP childP thereP; dsimp only; (repeat' split) <;> first | rfl | (exfalso; omega) | exact decide_eq_true (by omega) | exact decide_eq_false (by omega))
         clear z u
         go_wp2_with fail
         go_ret
         rw [HV.out]
         exact ⟨rfl, hA⟩
   · skip
     by_cases k : ck = 3
     · have k0 : (ck == 3) = true := beq_iff_eq.2 k
       by_cases u : key.length ≤ P / 8
       · have u0 : (key.length : Int) ≤ (P : Int) / 8 := by omega
         have u1 : ¬ (P : Int) / 8 < (key.length : Int) := by omega
         by_cases nb : 2 ≤ pg ∧ pg < 65536
         · rw [show numKB pg = true from decide_eq_true nb]
           by_cases g : 1 ≤ ct
           · have g0 : (1 : Int) ≤ ct := by omega
             by_cases h : ct ≤ 1073741824
             · have h0 : ct ≤ 1073741824 := by omega
               by_cases v : val.length = 0
               · have v0 : ((val.length : Int) == 0) = true := beq_iff_eq.2 (by omega)
                 have HV : Hid (mayP 3 P ⟨key, ck, val, pg, ct⟩ = true) := Lib.hid (by unfold mayP childP thereP; dsimp only; (repeat' split) <;> first | rfl | (exfalso; omega) | exact decide_eq_true (by omega) | exact decide_eq_false (by omega))
                 clear k u nb g h v
                 go_wp2_with fail
                 go_ret
                 rw [HV.out]
                 exact ⟨rfl, hA⟩
               · have v0 : ((val.length : Int) == 0) = false := beq_eq_false_iff_ne.2 (by omega)
                 have HV : Hid (mayP 3 P ⟨key, ck, val, pg, ct⟩ = false) := Lib.hid (by unfold mayP childP thereP; dsimp only; (repeat' split) <;> first | rfl | (exfalso; omega) | exact decide_eq_true (by omega) | exact decide_eq_false (by omega))
                 clear k u nb g h v
                 go_wp2_with fail
                 go_ret
                 rw [HV.out]
                 exact ⟨rfl, hA⟩
             · have h0 : ¬ ct ≤ 1073741824 := by omega
               have HV : Hid (mayP 3 P ⟨key, ck, val, pg, ct⟩ = false) := Lib.hid (by unfold mayP childP thereP; dsimp only; (repeat' split) <;> first | rfl | (exfalso; omega) | exact decide_eq_true (by omega) | exact decide_eq_false (by omega))
               clear k u nb g h
               go_wp2_with fail
               go_ret
               rw [HV.out]
               exact ⟨rfl, hA⟩
           · have g0 : ¬ (1 : Int) ≤ ct := by omega
             have HV : Hid (mayP 3 P ⟨key, ck, val, pg, ct⟩ = false) := Lib.hid (by unfold mayP childP thereP; dsimp only; (repeat' split) <;> first | rfl | (exfalso; omega) | exact decide_eq_true (by omega) | exact decide_eq_false (by omega))
             clear k u nb g
             go_wp2_with fail
             go_ret
             rw [HV.out]
             exact ⟨rfl, hA⟩
         · rw [show numKB pg = false from decide_eq_false nb]
           have HV : Hid (mayP 3 P ⟨key, ck, val, pg, ct⟩ = false) := Lib.hid (by unfold mayP childP thereP; dsimp only; (repeat' split) <;> first | rfl | (exfalso; omega) | exact decide_eq_true (by omega) | exact decide_eq_false (by omega))
           clear k u nb
           go_wp2_with fail
           go_ret
           rw [HV.out]
           exact ⟨rfl, hA⟩
       · have u0 : ¬ (key.length : Int) ≤ (P : Int) / 8 := by omega
         have u1 : (P : Int) / 8 < (key.length : Int) := by omega
         have HV : Hid (mayP 3 P ⟨key, ck, val, pg, ct⟩ = false) := Lib.hid (by unfold mayP childP thereP; dsimp only; (repeat' split) <;> first | rfl | (exfalso; omega) | exact decide_eq_true (by omega) | exact decide_eq_false (by omega))
         clear k u
         go_wp2_with fail
         go_ret
         rw [HV.out]
         exact ⟨rfl, hA⟩
     · have k0 : (ck == 3) = false := beq_eq_false_iff_ne.2 k
       have HV : Hid (mayP 3 P ⟨key, ck, val, pg, ct⟩ = false) := Lib.hid (by unfold mayP childP thereP; dsimp only; (repeat' split) <;> first | rfl | (exfalso; omega) | exact decide_eq_true (by omega) | exact decide_eq_false (by omega))
       clear k
       go_wp2_with fail
       go_ret
       rw [HV.out]
       exact ⟨rfl, hA⟩
end Go.Proofs.YtfcnkpofcekmgaaGreat

-- espalierref01.Order: the walk.
namespace Go.Proofs.YtfcnkpofcekmgaaGreat
open Go.RowKit
theorem beq_lt (x y : UInt8) : (x < y) ↔ (x.toNat : Int) < (y.toNat : Int) := by rw [UInt8.lt_iff_toNat_lt]; omega
set_option maxRecDepth 20000 in
set_option maxHeartbeats 4000000 in
theorem Order_any (va vb : Value) (a b : List UInt8) (w : World) (ha : RdB w va a) (hb : RdB w vb b) :
    Calls Tryz.prog 152 #[va, vb] w fun e w' => e = .returned (.int .i64 (ordC a b)) ∧ Below w.heap.size w w' := by
  obtain ⟨A, ca, rfl, hma⟩ := ha.form
  obtain ⟨B, cb, rfl, hmb⟩ := hb.form
  go_enter Tryz.func152, Tryz.ntmps152
  go_wp2_with fail
  go_loopw [5] (fun i wr => ∃ j : Nat, i = .int .i64 (j : Int) ∧ j ≤ a.length ∧ j ≤ b.length ∧ Hid (ordC a b = ordC (a.drop j) (b.drop j)) ∧ Below w.heap.size w wr)
    (fun i _ => a.length - (intOf i).toNat)
  case atStart => exact ⟨0, rfl, Nat.zero_le _, Nat.zero_le _, Lib.hid rfl, Below.refl _ _⟩
  case round =>
    obtain ⟨j, rfl, hja, hjb, HE, hbl⟩ := hrel
    by_cases hlt : j < a.length ∧ j < b.length
    · obtain ⟨ja, jb⟩ := hlt
      obtain ⟨ad, rfl, hca⟩ := (ha.below hbl (Nat.le_refl _)).at_ ja
      obtain ⟨bd, rfl, hcb⟩ := (hb.below hbl (Nat.le_refl _)).at_ jb
      have i1 : (j : Int) < (a.length : Int) := by omega
      have i2 : (j : Int) < (b.length : Int) := by omega
      have HE2 := Lib.hid (HE.out.trans (by rw [List.drop_eq_getElem_cons ja, List.drop_eq_getElem_cons jb]))
      generalize a[j] = x at hca HE2
      generalize b[j] = y at hcb HE2
      have hca' : wr.drew.cell? (ad.add j) = some (.int .u8 (x.toNat : Int)) := hca
      have hcb' : wr.drew.cell? (bd.add j) = some (.int .u8 (y.toNat : Int)) := hcb
      rcases (by omega : (x.toNat : Int) < (y.toNat : Int) ∨ (y.toNat : Int) < (x.toNat : Int) ∨ x.toNat = y.toNat) with hxy | hxy | hxy
      · have HE3 := Lib.hid (HE2.out.trans (ordC_lt ((beq_lt x y).mpr hxy) _ _))
        go_upto_region 4 with (fail)
        go_region
        go_wp2_with fail
        go_ret
        rw [HE3.out]
        exact ⟨rfl, hbl.drew⟩
      · have HE3 := Lib.hid (HE2.out.trans (ordC_gt ((beq_lt y x).mpr hxy) _ _))
        go_upto_region 4 with (fail)
        go_region
        go_upto_region 6 with (fail)
        go_region
        go_wp2_with fail
        go_ret
        rw [HE3.out]
        exact ⟨rfl, hbl.drew.drew⟩
      · obtain rfl := UInt8.toNat_inj.mp hxy
        have HE3 := Lib.hid (HE2.out.trans (ordC_same _ _ _))
        clear hxy
        go_upto_region 4 with (fail)
        go_region
        go_upto_region 6 with (fail)
        go_region
        go_wp2_with fail
        go_roundw
        case rel => exact ⟨j + 1, by go_num, by omega, by omega, HE3, hbl.drew.drew⟩
        case measure => simp [intOf]; omega
    · rcases (by omega : (j = a.length ∧ a.length < b.length) ∨ (j = a.length ∧ a.length = b.length) ∨ (j < a.length ∧ j = b.length)) with ⟨h1, h2⟩ | ⟨h1, h2⟩ | ⟨h1, h2⟩
      · have HV := Lib.hid (HE.out.trans (by rw [h1, List.drop_length, List.drop_eq_getElem_cons h2]; rfl : _ = (-1 : Int)))
        have j1 : ¬ (j : Int) < (a.length : Int) := by omega
        have j2 : (a.length : Int) < (b.length : Int) := by omega
        clear hlt h1
        go_wp2_with fail
        go_ret
        rw [HV.out]
        exact ⟨rfl, hbl⟩
      · have HV := Lib.hid (HE.out.trans (by rw [List.drop_of_length_le (by omega), List.drop_of_length_le (by omega)]; rfl : _ = (0 : Int)))
        have j1 : ¬ (j : Int) < (a.length : Int) := by omega
        have j2 : ¬ (a.length : Int) < (b.length : Int) := by omega
        have j3 : ¬ (b.length : Int) < (a.length : Int) := by omega
        clear hlt h1 h2
        go_wp2_with fail
        go_ret
        rw [HV.out]
        exact ⟨rfl, hbl⟩
      · have hbd : b.drop j = [] := List.drop_of_length_le (by omega)
        have HV := Lib.hid (HE.out.trans (by rw [hbd, List.drop_eq_getElem_cons h1]; rfl : _ = (1 : Int)))
        clear hbd
        have j1 : (j : Int) < (a.length : Int) := by omega
        have j2 : ¬ (j : Int) < (b.length : Int) := by omega
        have j3 : (b.length : Int) < (a.length : Int) := by omega
        have j4 : ¬ (a.length : Int) < (b.length : Int) := by omega
        clear hlt h1 h2
        go_wp2_with fail
        go_ret
        rw [HV.out]
        exact ⟨rfl, hbl⟩
end Go.Proofs.YtfcnkpofcekmgaaGreat

-- espalierref07.add, rest, ahead: walks.
namespace Go.Proofs.YtfcnkpofcekmgaaGreat
open Go.RowKit
theorem RdIn.old {w : World} {v : Value} {l : List UInt8} {L : List Ent} (h : RdB w v l) (hm : oldE w ∈ L) : RdIn L v l :=
  ⟨oldE w, hm, fun _ hW => h.keep fun p hp => World.cell?_of_block (hW p.block hp)⟩
theorem RdIn.bytes {v : Value} {l : List UInt8} {L : List Ent} (hm : bytesE v l ∈ L) : RdIn L v l := ⟨_, hm, fun _ h => OwB.rd h⟩
theorem Sep.appended1 {w0 w w' : World} {v v' : Value} {l m : List UInt8} {L : List Ent} (h : Sep w0 w (bytesE v l :: L)) (ho : OwB w' 0 v' m) (hg : w.grownBy w' v.ownBlock) (hk : v'.ownBlock = v.ownBlock ∨ v'.ownBlock = some (w.heap.size + 1)) : Sep w0 w' (bytesE v' m :: L) :=
  h.upd (Turn.of_grown hg (fun _ e => e)) ho (fun g hg' => ⟨by
    rcases hk with e | e
    · exact .inl (e.symm.trans hg' : v.ownBlock = some g)
    · right
      have := e.symm.trans hg'
      injection this with this
      omega, (Own.lt ho g hg').2⟩)
set_option maxRecDepth 20000 in
set_option maxHeartbeats 2000000 in
/-- Bytes behind bytes. -/
theorem RKadd_sep {w0 w : World} {L : List Ent} {v u : Value} {l m : List UInt8} (h : Sep w0 w (bytesE v l :: L)) (hu : RdIn L u m) (hn : l.length + m.length ≤ 140737488355328) :
    Calls Tryz.prog 124 #[v, u] w fun e w' => ∃ v', e = .returned v' ∧ Sep w0 w' (bytesE v' (l ++ m) :: L) := by
  obtain ⟨A, ca, rfl, hma⟩ := (h.tail.rdIn hu).form
  go_enter Tryz.func124, Tryz.ntmps124
  go_wp2_with fail
  go_loopw [0, 5] (fun b i wr => ∃ j : Nat, i = .int .i64 (j : Int) ∧ j ≤ m.length ∧ Sep w0 wr (bytesE b (l ++ m.take j) :: L)) (fun _ i _ => m.length - (intOf i).toNat)
  case atStart => exact ⟨0, rfl, Nat.zero_le _, by rw [List.take_zero, List.append_nil]; exact h⟩
  case round =>
    obtain ⟨j, rfl, hj, hS⟩ := hrel
    by_cases hlt : j < m.length
    · obtain ⟨ad, rfl, hc⟩ := (hS.tail.rdIn hu).at_ hlt
      have htk := List.take_append_getElem hlt
      have hln : (l ++ m.take j).length + 1 ≤ 140737488355328 := by simp; omega
      generalize m[j] = x at hc htk
      have ho : OwB wr 0 _ (l ++ m.take j) := hS.head
      have HT := Lib.hid htk
      have ij : (j : Int) < (m.length : Int) := by omega
      clear htk
      go_wp2_with (first
        | (at_builtin; refine wp_append_B1 rfl (.tmp 12) (.tmp 17) rfl 0 _ _ rfl ho x _ rfl 5 rfl hln (Nat.zero_le _) ?_; intro v3 w3 ho3 hg3 hk3; have hS3 := hS.appended1 ho3 hg3 hk3)
        | fail)
      go_roundw
      case rel => exact ⟨j + 1, by go_num, by omega, by rw [← HT.out, ← List.append_assoc]; exact hS3⟩
      case measure => simp [intOf]; omega
    · obtain rfl : j = m.length := by omega
      rw [List.take_length] at hS
      go_wp2_with fail
      go_ret
      exact ⟨_, rfl, hS⟩
set_option maxRecDepth 20000 in
set_option maxHeartbeats 1000000 in
theorem RKrest_any (kind : Int) (i : Nat) (v : Value) (key : List UInt8) (pre : Nat) (w : World) (hk : RdB w v key) (hp : ¬ (kind = 3 ∧ i = 0) → pre ≤ key.length) :
    Calls Tryz.prog 162 #[.int .i64 kind, .int .i64 (i : Int), v, .int .i64 (pre : Int)] w fun e w' => (∃ A c, e = .returned (.slice A (restF kind i key pre).length c) ∧ RdB w (.slice A (restF kind i key pre).length c) (restF kind i key pre)) ∧ w = w' := by
  obtain ⟨A, ca, rfl, hka⟩ := hk.form
  by_cases h : kind = 3 ∧ i = 0
  · obtain ⟨rfl, rfl⟩ := h
    have HR : Hid (restF 3 0 key pre = key) := by show _ = _; unfold restF; rw [if_pos ⟨rfl, rfl⟩]
    clear hp
    go_enter Tryz.func162, Tryz.ntmps162
    go_wp2_with fail
    go_ret
    rw [HR.out]
    exact ⟨⟨_, _, rfl, hk⟩, rfl⟩
  · have HR : Hid (restF kind i key pre = key.drop pre) := by show _ = _; unfold restF; rw [if_neg h]
    obtain ⟨A2, c2', hrun, hrd⟩ := hk.run_l pre (hp h)
    have hp' := hp h
    have i1 : ¬ (key.length : Int) < (pre : Int) := by omega
    have HRD := Lib.hid hrd
    have hlen : (key.drop pre).length = key.length - pre := by simp
    have HLN := Lib.hid hlen
    clear hrd hp hlen
    by_cases h3 : kind = 3
    · have e1 : (kind == 3) = true := by simp [h3]
      have e2 : ((i : Int) == 0) = false := beq_eq_false_iff_ne.2 (by omega)
      clear h3 h
      go_enter Tryz.func162, Tryz.ntmps162
      go_wp2_with fail
      go_ret
      rw [HR.out, HLN.out]
      exact ⟨⟨_, _, rfl, HRD.out⟩, rfl⟩
    · have e1 : (kind == 3) = false := beq_eq_false_iff_ne.2 h3
      clear h3 h
      go_enter Tryz.func162, Tryz.ntmps162
      go_wp2_with fail
      go_ret
      rw [HR.out, HLN.out]
      exact ⟨⟨_, _, rfl, HRD.out⟩, rfl⟩
set_option maxRecDepth 20000 in
set_option maxHeartbeats 1000000 in
theorem RKahead_any (va vb : Value) (a b : List UInt8) (w : World) (ha : RdB w va a) (hb : RdB w vb b) :
    Calls Tryz.prog 121 #[va, vb] w fun e w' => e = .returned (.bool (decide (ordC a b < 0))) ∧ Below w.heap.size w w' := by
  have ho := Order_any va vb a b w ha hb
  generalize ordC a b = o at *
  clear ha hb
  go_enter Tryz.func121, Tryz.ntmps121
  go_wp2_with (first | (go_at_call 152; refine ho.mono ?_; rintro e w1 ⟨rfl, hw1⟩) | fail)
  go_ret
  exact ⟨rfl, hw1⟩
end Go.Proofs.YtfcnkpofcekmgaaGreat
