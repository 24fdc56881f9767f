/- Texts joined: packed.Encode; packed.Decode -/
import Derived.Test.YtfcnkpofcekmgaaNN4
import Derived.Test.YtfcnkpofcekmgaaNN11
import Derived.Test.YtfcnkpofcekmgaaNN12
import Derived.Deep.RegionHeld3
import Derived.Deep.CutRange
import Derived.Deep.DeepCutAuto
import Derived.Deep.CutBlock
-- packed.Encode: the walk.
namespace Go.Proofs.Ytfcnkpofcekmgaa
open Go.RowKit
/-- What Encode answers. -/
def EncKAt (w : World) (kind : Int) (l : List PC) (P : Int) (e : Ending) (w' : World) : Prop :=
  Below w.heap.size w w' ∧ ((isKindB kind && isPowB P) = false ∧ e = .returned (.tuple #[.slice none 0 0, .int .i64 1]) ∨
    (isKindB kind && isPowB P) = true ∧ ((encK kind l P.toNat ≠ 0 ∧ e = .returned (.tuple #[.slice none 0 0, .int .i64 (encK kind l P.toNat)])) ∨
      (encK kind l P.toNat = 0 ∧ ∃ g, e = .returned (.tuple #[.slice (some ⟨g, 0, none⟩) P.toNat P.toNat, .int .i64 0]) ∧ w.heap.size ≤ g ∧ OBlk w' g 5 (bvs (laidK kind l P.toNat)))))
set_option maxRecDepth 100000 in
set_option maxHeartbeats 8000000 in
theorem KEncode_any (kind : Int) (v : Value) (l : List CV) (P : Int) (hPr : i64r P) (w : World) (hl : RdCs w v l) (hn : l.length ≤ 2000000000000) :
    Calls Try.prog 27 #[.int .i64 kind, v, .int .i64 P] w (EncKAt w kind (pcs l) P) := by
  obtain ⟨A, c, rfl, hm, hc⟩ := hl.slice
  have hKi := fun W => KisKind_any kind W
  have hPa := fun W => KisSize_any P hPr W
  cases hk : isKindB kind with
  | false =>
    have HK : Hid ((isKindB kind && isPowB P) = false) := by show _ = _; rw [hk]; rfl
    rw [hk] at hKi
    clear hk
    go_enter Try.func27, Try.ntmps27
    go_wp2_with (first | (go_at_call 38; refine (hKi _).mono ?_; rintro e w1 ⟨rfl, rfl⟩) | fail)
    go_ret2
    exact ⟨Below.refl _ _, .inl ⟨HK.out, rfl⟩⟩
  | true =>
    cases hp : isPowB P with
    | false =>
      have HK : Hid ((isKindB kind && isPowB P) = false) := by show _ = _; rw [hk, hp]; rfl
      rw [hk] at hKi
      rw [hp] at hPa
      clear hk hp
      go_enter Try.func27, Try.ntmps27
      go_wp2_with (first | (go_at_call 38; refine (hKi _).mono ?_; rintro e w1 ⟨rfl, rfl⟩) | (go_at_call 39; refine (hPa _).mono ?_; rintro e w1 ⟨rfl, rfl⟩) | fail)
      go_ret2
      exact ⟨Below.refl _ _, .inl ⟨HK.out, rfl⟩⟩
    | true =>
      have HK : Hid ((isKindB kind && isPowB P) = true) := by show _ = _; rw [hk, hp]; rfl
      have HKD : Hid (kind = 2 ∨ kind = 3) := Lib.hid (of_decide_eq_true hk)
      obtain ⟨hP1, hP2⟩ := isPowB_range hp
      rw [hk] at hKi
      rw [hp] at hPa
      clear hk hp
      obtain ⟨Q, rfl⟩ : ∃ Q : Nat, P = (Q : Int) := ⟨P.toNat, by omega⟩
      unfold EncKAt
      rw [show ((Q : Int)).toNat = Q from rfl]
      have hQ1 : 512 ≤ Q := by omega
      have hQ2 : Q ≤ 65536 := by omega
      go_enter Try.func27, Try.ntmps27
      go_wp2_with (first | (go_at_call 38; refine (hKi _).mono ?_; rintro e w1 ⟨rfl, rfl⟩) | (go_at_call 39; refine (hPa _).mono ?_; rintro e w1 ⟨rfl, rfl⟩) | fail)
      clear hKi hPa
      go_loopw [25] (fun i wr => ∃ k : Nat, k ≤ l.length ∧ i = .int .i64 (k : Int) ∧ Hid (scanE kind Q none (pcs l) = scanE kind Q (prevK (pcs l) k) ((pcs l).drop k)) ∧ Hid (∀ j (hj : j < k) (hjl : j < (pcs l).length), OkC Q (pcs l)[j]) ∧ Below w.heap.size w wr) (fun i _ => l.length - (intOf i).toNat)
      case atStart => exact ⟨0, Nat.zero_le _, rfl, Lib.hid rfl, Lib.hid (fun j hj => by omega), Below.refl _ _⟩
      case round =>
        obtain ⟨k, hk, rfl, HSC, HOK, hB⟩ := hrel
        by_cases hlt : k < l.length
        · have ik : (k : Int) < (l.length : Int) := by omega
          have hlp : k < (pcs l).length := by rw [pcs_length]; exact hlt
          have hst := scan_step (kind := kind) (P := Q) hlp
          have hpk := prevK_succ (pcs l) hlp
          rw [← HSC.out] at hst
          have hcx : ∀ c, (pcs l)[k] = c → Hid (mayP kind Q c = true → ∀ j (hj : j < k + 1) (hjl : j < (pcs l).length), OkC Q (pcs l)[j]) := fun c hc => Lib.hid (fun hmay j hj hjl => by
            by_cases e : j = k
            · subst e; rw [hc]; exact may_ok hmay
            · exact HOK.out j (by omega) hjl)
          rw [pcs_at hlt] at hst hpk
          have hcx := hcx _ (pcs_at hlt)
          obtain ⟨ad, rfl, c0, c1, c2, c3, c4⟩ := (hl.below hB).at_ hlt
          have hx := (hl.below hB).ok _ (List.getElem_mem hlt)
          have hprev : ∀ q, prevK (pcs l) k = some q → ∃ A0 a0, 0 < k ∧ RdB wr (.slice A0 q.length a0) q ∧ wr.cell? (ad.add ((k - 1) * 5)) = some (.slice A0 q.length a0) := fun q hq => by
            unfold prevK at hq
            split at hq
            · cases hq
            · have hk1 : k - 1 < l.length := by omega
              obtain ⟨_, ea, d0, _⟩ := (hl.below hB).at_ hk1
              cases ea
              have hxp := (hl.below hB).ok _ (List.getElem_mem hk1)
              have e1 : (pcs l).getD (k - 1) default = l[k - 1].c := by simp [List.getD, pcs, hk1]
              rw [e1] at hq
              injection hq with hq
              obtain ⟨A0, a0, he, _⟩ := hxp.k.form
              rw [he, hq] at d0
              have hk2 := hxp.k
              rw [he, hq] at hk2
              exact ⟨A0, a0, by omega, hk2, d0⟩
          generalize l[k] = x at *
          obtain ⟨A1, a1, B1, b1, key, ck, val, pg, ct, rfl, _, _⟩ := CV.form hx
          have hma := fun W => Kmay_any ⟨.slice A1 key.length a1, .slice B1 val.length b1, ⟨key, ck, val, pg, ct⟩⟩ kind HKD.out Q hQ2 W
          unfold cellV at hma
          have hA0 : Below wr.heap.size wr (wr.alloc (.cells #[.slice A1 key.length a1, .int .i64 ck, .slice B1 val.length b1, .int .i64 pg, .int .i64 ct] 31)) := (Below.refl wr.heap.size wr).alloc (Nat.le_refl _) _
          have hA := hB.trans (hA0.mono hB.size)
          have hx' : CV.ok (wr.alloc (.cells #[.slice A1 key.length a1, .int .i64 ck, .slice B1 val.length b1, .int .i64 pg, .int .i64 ct] 31)) ⟨.slice A1 key.length a1, .slice B1 val.length b1, ⟨key, ck, val, pg, ct⟩⟩ := hx.below hA0
          have hcb := OBlk.new' wr 31 [.slice A1 key.length a1, .int .i64 ck, .slice B1 val.length b1, .int .i64 pg, .int .i64 ct]
          have hst' : scanE kind Q none (pcs l) = if mayP kind Q ⟨key, ck, val, pg, ct⟩ = false then 62 else if afterP (prevK (pcs l) k) key = false then 63 else scanE kind Q (prevK (pcs l) (k + 1)) ((pcs l).drop (k + 1)) := hst
          clear hst
          have hgl := hB.size
          have hxk := hx'.k
          simp only at hxk
          clear hx hB
          go_wp2_with fail
          refine (hma _ hx').mono ?_
          rintro e w2 ⟨rfl, hb2⟩
          have hA2 := hA.trans (hb2.mono hA.size)
          have hcb2 := hcb.below hb2 hcb.lt
          have hA02 := hA0.trans (hb2.mono hA0.size)
          rcases Bool.eq_false_or_eq_true (mayP kind Q ⟨key, ck, val, pg, ct⟩) with hmy | hmy
          · rw [if_neg (by rw [hmy]; simp)] at hst'
            have HCX := Lib.hid (hcx.out hmy)
            clear hma hcx hcb hA hA0 hx' c0 c1 c2 c3 c4 HOK
            have k0 : w2.cell? ⟨wr.heap.size, 0, none⟩ = some (.slice A1 key.length a1) := hcb2.cell' rfl
            have hkr : RdB w2 (.slice A1 key.length a1) key := hxk.below hb2 (Nat.le_refl _)
            rw [hmy]
            clear hmy
            by_cases hk0 : 0 < k
            · obtain ⟨kk, rfl⟩ : ∃ kk, k = kk + 1 := ⟨k - 1, by omega⟩
              obtain ⟨q, hq⟩ : ∃ q, prevK (pcs l) (kk + 1) = some q := ⟨_, prevK_succ (pcs l) (by rw [pcs_length]; omega)⟩
              obtain ⟨A0, a0, _, hqr, hqc⟩ := hprev q hq
              rw [hq] at hst'
              rw [show kk + 1 - 1 = kk by omega] at hqc
              have hq2 : w2.cell? (ad.add (kk * 5)) = some (.slice A0 q.length a0) := (hA02.cell (World.block_lt_of_cell? wr _ hqc)).trans hqc
              have hqr2 := hqr.below hA02 (Nat.le_refl _)
              have j1 : (0 : Int) ≤ (kk : Int) := by omega
              have j2 : (kk : Int) < (l.length : Int) := by omega
              have j3 : kk < l.length := by omega
              have j4 : IntKind.i64.wrap (kk : Int) = (kk : Int) := by rw [IntKind.wrap_i64]; omega
              have j5 : (0 : Int) < (kk : Int) + 1 := by omega
              have hcmp := fun m => Compare_any _ _ _ _ (w2.drewN m) (show RdB (w2.drewN m) _ _ from hqr2) (show RdB (w2.drewN m) _ _ from hkr)
              have hst2 : scanE kind Q none (pcs l) = if decide (ordC q key < 0) = false then 63 else scanE kind Q (prevK (pcs l) (kk + 1 + 1)) ((pcs l).drop (kk + 1 + 1)) := hst'
              have HST := Lib.hid hst2
              have HPK := Lib.hid hpk
              have HCM := Lib.hid hcmp
              clear hst' hst2 hq hprev hqc hqr hpk hqr2 hkr hcmp hxk
              generalize ordC q key = oc at *
              by_cases hoc : oc < 0
              · have i1 : ¬ (0 : Int) ≤ oc := by omega
                go_upto_region 8 with (fail)
                go_region_held3 (fun w' => w'.cell? (ad.add (kk * 5)) = some (.slice A0 q.length a0) ∧ w'.cell? ⟨wr.heap.size, 0, none⟩ = some (.slice A1 key.length a1))
                  (first | exact ⟨hq2, k0⟩)
                  (first
                    | (go_at_call 33; refine (HCM.out 1).mono ?_; rintro e w7 ⟨rfl, rfl⟩)
                    | fail)
                go_wp2_with fail
                exact ⟨⟨kk + 1 + 1, by omega, by go_num, Lib.hid (by rw [HST.out, if_neg (by simp [hoc])]), HCX, hA2.drew⟩, by simp [intOf]; omega⟩
              · have i1 : (0 : Int) ≤ oc := by omega
                have henc : encK kind (pcs l) Q = 63 := by
                  have := HST.out
                  rw [if_pos (by simp [hoc])] at this
                  unfold encK; rw [if_pos (by rw [this]; simp), this]
                have HE := Lib.hid henc
                clear henc
                go_upto_region 8 with (fail)
                go_region_held3 (fun w' => w'.cell? (ad.add (kk * 5)) = some (.slice A0 q.length a0) ∧ w'.cell? ⟨wr.heap.size, 0, none⟩ = some (.slice A1 key.length a1))
                  (first | exact ⟨hq2, k0⟩)
                  (first
                    | (go_at_call 33; refine (HCM.out 1).mono ?_; rintro e w7 ⟨rfl, rfl⟩)
                    | fail)
                go_wp2_with fail
                go_ret2
                rw [HE.out]
                exact ⟨hA2.drew, .inr ⟨HK.out, .inl ⟨by omega, rfl⟩⟩⟩
            · obtain rfl : k = 0 := by omega
              have e0 : afterP (prevK (pcs l) 0) key = true := rfl
              rw [e0, if_neg (by simp)] at hst'
              have HST := Lib.hid hst'
              clear hst' e0
              go_upto_region 8 with (fail)
              go_region
              go_wp2_with fail
              exact ⟨⟨1, by omega, rfl, Lib.hid HST.out, HCX, hA2.drew⟩, by simp [intOf]; omega⟩
          · have henc : encK kind (pcs l) Q = 62 := by
              rw [if_pos hmy] at hst'
              unfold encK; rw [if_pos (by rw [hst']; simp), hst']
            have HE := Lib.hid henc
            rw [hmy]
            clear hst' hmy henc
            go_wp2_with fail
            go_ret2
            rw [HE.out]
            exact ⟨hA2, .inr ⟨HK.out, .inl ⟨by omega, rfl⟩⟩⟩
        · obtain rfl : k = l.length := by omega
          have hfin : scanE kind Q none (pcs l) = 0 := by rw [HSC.out, List.drop_of_length_le (by rw [pcs_length]; omega)]; rfl
          have hokc : ∀ c ∈ pcs l, OkC Q c := fun c hc => by
            obtain ⟨j, hj, rfl⟩ := List.getElem_of_mem hc
            exact HOK.out j (by rw [pcs_length] at hj; exact hj) hj
          have hbg := bigK_okc hQ2 hokc
          rw [pcs_length] at hbg
          have hpk : ∀ (i : Nat) (hi : i < (pcs l).length), ¬ (kind = 3 ∧ i = 0) → sharedF kind (pcs l) ≤ (pcs l)[i].key.length := fun i hi hn => (key_split (kind := kind) hi hn).1
          have hsb : sharedF kind (pcs l) ≤ 131072 := by
            rcases Nat.eq_zero_or_pos (sharedF kind (pcs l)) with e | e
            · omega
            · obtain ⟨i, hi, hn⟩ := sharedF_pos e
              have h2 := hpk i hi hn
              have h3 := okc_fit (hokc _ (List.getElem_mem hi)) hQ2
              omega
          have hlr := hl.below hB
          have hSh := Kshared_any kind (.slice A l.length c) l wr hlr
          have hTk := fun W hW => Ktaken_any kind (.slice A l.length c) l (sharedF kind (pcs l)) W hW (by omega) (by omega) hpk
          have HF := Lib.hid hfin
          have HO := Lib.hid hokc
          have HPK := Lib.hid hpk
          have hps : takenF kind (pcs l) (sharedF kind (pcs l)) = psizeF kind (pcs l) := rfl
          rw [hps] at hTk
          clear hps
          obtain ⟨s, hs⟩ : ∃ s, sharedF kind (pcs l) = s := ⟨_, rfl⟩
          rw [hs] at hSh hTk hsb
          have HS := Lib.hid hs
          clear hokc hfin hpk HOK HSC hbg hs
          go_upto_if 60 with (first
            | (go_at_call 42; (with_reducible refine hSh.mono ?_); rintro e w1 ⟨rfl, hb1⟩)
            | (go_at_call 41; (with_reducible refine (hTk _ (hlr.below hb1)).mono ?_); rintro e w2 ⟨rfl, hb2⟩)
            | fail)
          have hB2 := hB.trans ((hb1.trans (hb2.mono hb1.size)).mono hB.size)
          clear hSh hTk hb1 hb2 hlr hB
          by_cases hsz : psizeF kind (pcs l) ≤ Q
          · have hE : encK kind (pcs l) Q = 0 := encK_zero.2 ⟨HF.out, hsz⟩
            have HE := Lib.hid hE
            have HZ := Lib.hid hsz
            have hft := fitK hsz
            have ha0 : a0K kind (pcs l) = 6 + s + 2 * l.length := by unfold a0K; rw [HS.out, pcs_length]
            have i1 : ¬ (Q : Int) < (psizeF kind (pcs l) : Int) := by omega
            have p1 : (0 : Int) < (Q : Int) := by omega
            have p2 : (1 : Int) < (Q : Int) := by omega
            have hkb : IntKind.u8.wrap kind = ((u8I kind).toNat : Int) := by
              have h := HKD.out
              unfold u8I
              rw [IntKind.wrap_u8, UInt8.toNat_ofNat']; omega
            have hnQ : 6 + s + 2 * l.length + 4 ≤ Q := by omega
            have hwn : IntKind.u64.wrap (l.length : Int) = (l.length : Int) := IntWalk.u64_in _ (by omega)
            have hws : IntKind.u64.wrap (s : Int) = (s : Int) := IntWalk.u64_in _ (by omega)
            have HFT := Lib.hid hft
            have HA0 := Lib.hid ha0
            clear hE hsz hft ha0 HF
            go_upto_region 15 with (first | (at_make; refine wp_make_B rfl (.tmp 61) (.tmp 61) rfl _ Q rfl rfl rfl (by omega) ?_; intro w3 hb3 hw3 hs3) | fail)
            have hg3 : w.heap.size ≤ w2.heap.size := hB2.size
            have hB3 := hB2.trans (hw3.mono hB2.size)
            clear hs3 hw3
            obtain ⟨g, hg⟩ : ∃ g, w2.heap.size = g := ⟨_, rfl⟩
            rw [hg] at hb3 hg3 ⊢
            clear hg hB2
            go_cut [] (fun wx => OBlk wx g 5 (bvs (st1K kind Q)) ∧ Below w.heap.size w wx)
            case first =>
              have z0 : w3.cell? ⟨g, 0, none⟩ = some (.int .u8 0) := hb3.cell' (by rw [bvs_replicate, List.getElem?_replicate]; simp; omega)
              have z1 : w3.cell? ⟨g, 1, none⟩ = some (.int .u8 0) := hb3.cell' (by rw [bvs_replicate, List.getElem?_replicate]; simp; omega)
              have f0 : w3.frozen? ⟨g, 0, none⟩ = false := hb3.frozen (by rw [bvs_length, List.length_replicate]; omega)
              have f1 : w3.frozen? ⟨g, 1, none⟩ = false := hb3.frozen (by rw [bvs_length, List.length_replicate]; omega)
              go_wp2_with fail
              go_meet
              have e0 := (hb3.set 0 (bv (u8I kind))).set 1 (bv 2)
              rw [show bv (u8I kind) = Value.int .u8 ((u8I kind).toNat : Int) from rfl, show bv 2 = Value.int .u8 ((2 : UInt8).toNat : Int) from rfl, ← bvs_set, ← bvs_set] at e0
              exact ⟨e0, (hB3.setCell hg3 _).setCell hg3 _⟩
            case rest =>
              obtain ⟨hb4, hB4⟩ := hcut
              clear hb3 hB3 p1 p2 hkb
              have l4 := st1K_length kind Q
              have n1 : ¬ Q = 2 := by omega
              have n2 : (2 : Int) ≤ (Q : Int) := by omega
              go_upto_region 16 with (fail)
              go_cut [] (fun wx => OBlk wx g 5 (bvs (st2K kind (pcs l) Q)) ∧ Below w.heap.size w wx)
              case first =>
                go_region_held3 (fun _ => True) (trivial)
                  (first
                    | (go_at_call 44; (with_reducible refine (Fixed_2 l.length (by omega) _).mono ?_); rintro e w7 ⟨rfl, hf7, hw7, hs7⟩)
                    | (refine step_copy_B (by rfl) (.tmp 70) (.tmp 74) (by rfl) _ (Q - 2) (Q - 2) g 2 (by rfl) _ ((hb4.drew).below hw7 (by have := hb4.lt; simpa using this)) (fun _ => rfl) (by rw [l4]; omega) _ (fixedF l.length 2) (by rfl) (hf7.rdB (fixedF_length _ 2) (by omega)) ?_; intro w8 hb8 hg8)
                    | fail)
                go_wp2_with fail
                go_meet
                rw [Nat.min_eq_left (by rw [fixedF_length]; omega), List.take_length, ← pcs_length l, st1K_next hQ1] at hb8
                exact ⟨hb8, (hB4.drew.trans (hw7.mono hB4.size)).grown hg8 (Nat.le_trans hB4.size hw7.size) (fun k hk => (Option.some.inj hk) ▸ hg3)⟩
              case rest =>
                obtain ⟨hb5, hB5⟩ := hcut
                clear hb4 hB4 l4 n1 n2 hwn
                have l5 := st2K_length (kind := kind) (l := pcs l) hQ1
                have n1 : ¬ Q = 4 := by omega
                have n2 : (4 : Int) ≤ (Q : Int) := by omega
                go_upto_region 17 with (fail)
                go_cut [] (fun wx => OBlk wx g 5 (bvs (st3K kind (pcs l) Q)) ∧ Below w.heap.size w wx)
                case first =>
                  go_region_held3 (fun _ => True) (trivial)
                    (first
                      | (go_at_call 44; (with_reducible refine (Fixed_2 s (by omega) _).mono ?_); rintro e w7 ⟨rfl, hf7, hw7, hs7⟩)
                      | (refine step_copy_B (by rfl) (.tmp 77) (.tmp 80) (by rfl) _ (Q - 4) (Q - 4) g 4 (by rfl) _ ((hb5.drew).below hw7 (by have := hb5.lt; simpa using this)) (fun _ => rfl) (by rw [l5]; omega) _ (fixedF s 2) (by rfl) (hf7.rdB (fixedF_length _ 2) (by omega)) ?_; intro w8 hb8 hg8)
                      | fail)
                  go_wp2_with fail
                  go_meet
                  rw [Nat.min_eq_left (by rw [fixedF_length]; omega), List.take_length, ← HS.out, st2K_next hQ1] at hb8
                  exact ⟨hb8, (hB5.drew.trans (hw7.mono hB5.size)).grown hg8 (Nat.le_trans hB5.size hw7.size) (fun k hk => (Option.some.inj hk) ▸ hg3)⟩
                case rest =>
                  obtain ⟨hb6, hB6⟩ := hcut
                  clear hb5 hB5 l5 n1 n2 hws
                  go_upto_if 83 with (fail)
                  go_cut [] (fun wx => OBlk wx g 5 (bvs (contK kind (pcs l) Q 0)) ∧ Below w.heap.size w wx)
                  case first =>
                    by_cases hs0 : s = 0
                    · have i2 : ¬ (0 : Int) < (s : Int) := by omega
                      have e := st3K_zero HZ.out (by rw [HS.out]; exact hs0)
                      rw [e] at hb6
                      clear e hs0
                      go_wp2_with fail
                      go_meet
                      exact ⟨hb6, hB6⟩
                    · have i2 : (0 : Int) < (s : Int) := by omega
                      obtain ⟨j, hj, hjn⟩ := sharedF_pos (kind := kind) (l := pcs l) (by rw [HS.out]; omega)
                      rw [pcs_length] at hj
                      obtain ⟨m, hm1⟩ : ∃ m, l.length = m + 1 := ⟨l.length - 1, by omega⟩
                      have hlt : m < l.length := by omega
                      have hkm := HPK.out m (by rw [pcs_length]; exact hlt) (fun h => hjn ⟨h.1, by omega⟩)
                      have hpf : prefF kind (pcs l) = ((pcs l)[m]'(by rw [pcs_length]; exact hlt)).key.take (sharedF kind (pcs l)) := by
                        unfold prefF
                        have e : (pcs l).getLast? = some ((pcs l)[m]'(by rw [pcs_length]; exact hlt)) := by
                          have e9 : (pcs l).length - 1 = m := by rw [pcs_length]; omega
                          rw [List.getLast?_eq_getElem?, e9]
                          exact List.getElem?_eq_getElem _
                        rw [e]
                      rw [HS.out, pcs_at hlt] at hkm hpf
                      obtain ⟨ad, rfl, c0w, _, _, _, _⟩ := hl.at_ hlt
                      have hbk := World.block_lt_of_cell? w _ c0w
                      have c0 := (hB6.cell hbk).trans c0w
                      clear c0w
                      have hx := (hl.below hB6).ok _ (List.getElem_mem hlt)
                      generalize l[m] = x at *
                      obtain ⟨A1, a1, B1, b1, key, ck, val, pg, ct, rfl, _, _⟩ := CV.form hx
                      simp only at hkm hpf c0
                      have hxk : RdB _ (.slice A1 key.length a1) key := hx.k
                      obtain ⟨A7, c7, hrun, hrd⟩ := hxk.run_h s hkm
                      have j1 : (0 : Int) ≤ (l.length : Int) - 1 := by omega
                      have j2 : (l.length : Int) - 1 < (l.length : Int) := by omega
                      have j3 : ((l.length : Int) - 1).toNat = m := by omega
                      have j4 : IntKind.i64.wrap ((l.length : Int) - 1) = (l.length : Int) - 1 := by rw [IntKind.wrap_i64]; omega
                      have j5 : (1 : Int) ≤ (l.length : Int) := by omega
                      have j6 : 0 < l.length := by omega
                      have j7 : l.length - 1 = m := by omega
                      have n1 : ¬ Q = 6 := by omega
                      have n2 : (6 : Int) ≤ (Q : Int) := by omega
                      have hkl : (key.take s).length = s := by rw [List.length_take]; omega
                      have HKL := Lib.hid hkl
                      have HPF := Lib.hid hpf
                      have l6 := st3K_length (kind := kind) (l := pcs l) hQ1
                      have HM := Lib.hid hm1
                      clear hkl hpf hm1 hs0 hjn hx hxk
                      generalize key.take s = kt at *
                      go_upto_region 19 with (fail)
                      go_region_held3 (fun w' => w'.cell? (ad.add (m * 5)) = some (.slice A1 key.length a1))
                        (first
                          | exact c0
                          | exact hg8.cell c0 (by simp; omega))
                        (first
                          | (refine step_copy_B (by rfl) (.tmp 85) (.tmp 94) (by rfl) _ (Q - 6) (Q - 6) g 6 (by rfl) _ hb6.drew (fun _ => rfl) (by rw [l6]; omega) _ kt (by rfl) hrd.drew ?_; intro w8 hb8 hg8)
                          | fail)
                      go_wp2_with fail
                      go_meet
                      rw [Nat.min_eq_left (by rw [HKL.out]; omega), List.take_length, ← HPF.out, st3K_next HZ.out] at hb8
                      exact ⟨hb8, hB6.drew.grown hg8 hB6.size (fun k hk => (Option.some.inj hk) ▸ hg3)⟩
                  case rest =>
                    obtain ⟨hb7, hB7⟩ := hcut
                    clear hb6 hB6
                    go_wp2_with fail
                    go_loopw [12, 104] (fun a i wr => ∃ k : Nat, k ≤ l.length ∧ i = .int .i64 (k : Int) ∧ a = .int .i64 ((a0K kind (pcs l) + (bodyK kind (pcs l) k).length : Nat) : Int) ∧ OBlk wr g 5 (bvs (contK kind (pcs l) Q k)) ∧ Below w.heap.size w wr) (fun _ i _ => l.length - (intOf i).toNat)
                    case atStart => exact ⟨0, Nat.zero_le _, rfl, by rw [bodyK_zero, HA0.out]; simp only [List.length_nil]; go_num, hb7, hB7⟩
                    case round =>
                      clear hb7 hB7
                      obtain ⟨k, hk, rfl, rfl, hb, hB⟩ := hrel
                      by_cases hlt : k < l.length
                      · have ik : (k : Int) < (l.length : Int) := by omega
                        have hlp : k < (pcs l).length := by rw [pcs_length]; exact hlt
                        have hcs := contK_slot (kind := kind) (P := Q) hlp
                        have hcc := contK_cell HZ.out hlp
                        have hbs := congrArg List.length (bodyK_succ (kind := kind) hlp)
                        have hbl := bodyK_le (kind := kind) (show k + 1 ≤ (pcs l).length from hlp)
                        rw [List.length_append] at hbs
                        rw [pcs_at hlt] at hcc hbs
                        rw [HS.out] at hcs hcc hbs
                        rw [HS.out] at hbl
                        have hft := HFT.out
                        rw [HS.out] at hft
                        have hlc := contK_length HZ.out (Nat.le_of_lt hlp)
                        have hlm := midK_length HZ.out hlp
                        have hoc := HO.out _ (show l[k].c ∈ pcs l by rw [← pcs_at hlt]; exact List.getElem_mem _)
                        have hpk := HPK.out k hlp
                        rw [HS.out, pcs_at hlt] at hpk
                        obtain ⟨ad, rfl, c0, c1, c2, c3, c4⟩ := (hl.below hB).at_ hlt
                        have hx := (hl.below hB).ok _ (List.getElem_mem hlt)
                        have hx0 := hl.ok _ (List.getElem_mem hlt)
                        generalize l[k] = x at *
                        obtain ⟨A1, a1, B1, b1, key, ck, val, pg, ct, rfl, _, _⟩ := CV.form hx
                        have hwr := fun W hW => Kwritten_any Q hQ2 kind k ⟨.slice A1 key.length a1, .slice B1 val.length b1, ⟨key, ck, val, pg, ct⟩⟩ s W hW hoc hpk
                        unfold cellV at hwr
                        have hA0 : Below wr.heap.size wr (wr.alloc (.cells #[.slice A1 key.length a1, .int .i64 ck, .slice B1 val.length b1, .int .i64 pg, .int .i64 ct] 31)) := (Below.refl wr.heap.size wr).alloc (Nat.le_refl _) _
                        have hA := hB.trans (hA0.mono hB.size)
                        have hbA := hb.alloc (.cells #[.slice A1 key.length a1, .int .i64 ck, .slice B1 val.length b1, .int .i64 pg, .int .i64 ct] 31)
                        have hcb := OBlk.new' wr 31 [.slice A1 key.length a1, .int .i64 ck, .slice B1 val.length b1, .int .i64 pg, .int .i64 ct]
                        have hgl := hb.lt
                        simp only at hcc hbs hwr
                        generalize pcF kind k ⟨key, ck, val, pg, ct⟩ s = pl at *
                        have hq : a0K kind (pcs l) + (bodyK kind (pcs l) (k + 1)).length = (a0K kind (pcs l) + (bodyK kind (pcs l) k).length) + pl.length := by omega
                        have hqP : (a0K kind (pcs l) + (bodyK kind (pcs l) k).length) + pl.length + 4 ≤ Q := by omega
                        have HQ := Lib.hid hq
                        have HCC := Lib.hid hcc
                        have HLC := Lib.hid hlc
                        have HLM := Lib.hid hlm
                        have HCS := Lib.hid hcs
                        have hsk : 6 + s + 2 * k + 2 ≤ Q := by omega
                        generalize a0K kind (pcs l) + (bodyK kind (pcs l) k).length = q at *
                        clear hbs hbl hft hlc hlm hcs hcc hq hB hb hoc hx hpk
                        have m1 : (0 : Int) ≤ (6 : Int) + (s : Int) + 2 * (k : Int) := by omega
                        have m2 : (6 : Int) + (s : Int) + 2 * (k : Int) ≤ (Q : Int) := by omega
                        have m3 : ((6 : Int) + (s : Int) + 2 * (k : Int)).toNat = 6 + s + 2 * k := by omega
                        have m4 : ¬ Q = 6 + s + 2 * k := by omega
                        have m5 : IntKind.i64.wrap (2 * (k : Int)) = 2 * (k : Int) := by rw [IntKind.wrap_i64]; omega
                        have m6 : IntKind.i64.wrap ((6 : Int) + (s : Int)) = (6 : Int) + (s : Int) := by rw [IntKind.wrap_i64]; omega
                        have m7 : IntKind.i64.wrap ((6 : Int) + (s : Int) + 2 * (k : Int)) = (6 : Int) + (s : Int) + 2 * (k : Int) := by rw [IntKind.wrap_i64]; omega
                        have m8 : IntKind.u64.wrap (q : Int) = (q : Int) := IntWalk.u64_in _ (by omega)
                        have m9 : (q : Int) ≤ (Q : Int) := by omega
                        have m10 : ¬ Q = q := by omega
                        go_upto_region 24 with (fail)
                        go_cut [] (fun wx => OBlk wx g 5 (bvs (midK kind (pcs l) Q k)) ∧ OBlk wx wr.heap.size 31 [.slice A1 key.length a1, .int .i64 ck, .slice B1 val.length b1, .int .i64 pg, .int .i64 ct] ∧ Below w.heap.size w wx)
                        case first =>
                          go_region_held3 (fun _ => True) (trivial)
                            (first
                              | (go_at_call 44; (with_reducible refine (Fixed_2 q (by omega) _).mono ?_); rintro e w7 ⟨rfl, hf7, hw7, hs7⟩)
                              | (refine step_copy_B (by rfl) (.tmp 115) (.tmp 118) (by rfl) _ (Q - (6 + s + 2 * k)) (Q - (6 + s + 2 * k)) g (6 + s + 2 * k) (by rfl) _ ((hbA.drew).below hw7 (by have := hbA.lt; simpa using this)) (fun _ => rfl) (by rw [HLC.out]; omega) (.slice (some ⟨wr.heap.size + 1, 0, none⟩) 2 2) (fixedF q 2) (by rfl) (by have h := hf7.rdB (fixedF_length q 2) (by omega); simp at h; exact h) ?_; intro w8 hb8 hg8)
                              | fail)
                          go_wp2_with fail
                          go_meet
                          rw [Nat.min_eq_left (by rw [fixedF_length]; omega), List.take_length, HCS.out] at hb8
                          exact ⟨hb8, ((hcb.drew).below hw7 (by simp)).grown hg8 (by simp only [ne_eq, Option.some.injEq]; omega), (hA.drew.trans (hw7.mono hA.size)).grown hg8 (Nat.le_trans hA.size hw7.size) (fun k hk => (Option.some.inj hk) ▸ hg3)⟩
                        case rest =>
                          obtain ⟨hb8, hcb8, hB8⟩ := hcut
                          clear hbA hcb hA hA0 c0 c1 c2 c3 c4 m1 m2 m3 m4 m5 m6 m7
                          have hmin : min pl.length (Q - q) = pl.length := Nat.min_eq_left (by omega)
                          have hq3 : IntKind.i64.wrap ((q : Int) + (pl.length : Int)) = (q : Int) + (pl.length : Int) := by rw [IntKind.wrap_i64]; omega
                          go_upto_region 25 with (fail)
                          obtain ⟨c0, c1, c2, c3, c4⟩ := cells5 hcb8
                          have hcz := hcb8.lt
                          go_region_held3 (fun w' => w'.cell? ⟨wr.heap.size, 0, none⟩ = some (.slice A1 key.length a1) ∧ w'.cell? ⟨wr.heap.size, 1, none⟩ = some (.int .i64 ck) ∧ w'.cell? ⟨wr.heap.size, 2, none⟩ = some (.slice B1 val.length b1) ∧ w'.cell? ⟨wr.heap.size, 3, none⟩ = some (.int .i64 pg) ∧ w'.cell? ⟨wr.heap.size, 4, none⟩ = some (.int .i64 ct))
                            (first
                              | exact ⟨c0, c1, c2, c3, c4⟩
                              | exact cells5 (hcb8.drew.below hw9 hcb8.lt)
                              | exact cells5 ((hcb8.drew.below hw9 hcb8.lt).grown hg10 (by simp only [ne_eq, Option.some.injEq]; omega)))
                            (first
                              | (go_at_call 45; refine (hwr _ (hx0.below hB8.drew)).mono ?_; rintro e w9 ⟨v9, rfl, ho9, hw9⟩)
                              | (refine step_copy_B (by rfl) (.tmp 123) (.tmp 128) (by rfl) _ (Q - q) (Q - q) g q (by rfl) _ (hb8.drew.below hw9 hb8.lt) (fun _ => rfl) (by rw [HLM.out]; omega) v9 pl (by rfl) ho9.rd ?_; intro w10 hb10 hg10)
                              | fail)
                          go_wp2_with fail
                          rw [hmin, List.take_length, HCC.out] at hb10
                          go_roundw
                          case rel => exact ⟨k + 1, by omega, by go_num, by rw [HQ.out]; go_num, hb10, (hB8.drew.trans (hw9.mono hB8.size)).grown hg10 (Nat.le_trans hB8.size hw9.size) (fun k hk => (Option.some.inj hk) ▸ hg3)⟩
                          case measure => simp [intOf]; omega
                      · obtain rfl : k = l.length := by omega
                        obtain ⟨hce1, hce2⟩ := contK_end HZ.out
                        have hlc : (contK kind (pcs l) Q l.length).length = Q := contK_length HZ.out (by rw [pcs_length]; omega)
                        rw [pcs_length] at hce1 hce2
                        have HL := Lib.hid hlc
                        have HC1 := Lib.hid hce1
                        have HC2 := Lib.hid hce2
                        have hsl : sumF (preK kind (pcs l) Q) < 4294967296 := sumF_lt _
                        obtain ⟨en, hen⟩ : ∃ en : Nat, en + 4 = Q := ⟨Q - 4, by omega⟩
                        have he : (Q : Int) - 4 = (en : Int) := by omega
                        have hws : IntKind.u64.wrap ((sumF (preK kind (pcs l) Q) : Nat) : Int) = ((sumF (preK kind (pcs l) Q) : Nat) : Int) := IntWalk.u64_in _ (by omega)
                        have hp3 : (512 : Int) ≤ (Q : Int) := by omega
                        have hp4 : (Q : Int) ≤ 65536 := by omega
                        have b1 : (0 : Int) ≤ (en : Int) := by omega
                        have b2 : (en : Int) ≤ (Q : Int) := by omega
                        have b3 : en ≤ Q := by omega
                        have b6 : IntKind.i64.wrap (en : Int) = (en : Int) := by rw [IntKind.wrap_i64]; omega
                        have HEN := Lib.hid hen
                        have b4 : en < Q := by omega
                        have b5 : ¬ (Q = en) := by omega
                        rw [show Q - 4 = en by omega] at HC1 HC2
                        clear hen hce1 hce2 hlc
                        generalize contK kind (pcs l) Q l.length = L at *
                        have hbd : RdB wr (.slice (some ⟨g, 0, none⟩) en Q) (preK kind (pcs l) Q) := by
                          have := RdB.slice0 (n := en) hb (by rw [HL.out]; exact b3) HL.out (by omega)
                          rw [HC1.out] at this
                          exact this
                        generalize preK kind (pcs l) Q = M at *
                        go_wp2_with fail
                        go_region_held3 (fun _ => True) (trivial)
                          (first
                            | (go_at_call 46; (with_reducible refine (Sum_any _ [M] _ ?_).mono ?_); (exact RdL.one hbd.drew _); rintro e w7 ⟨rfl, hw7⟩)
                            | (go_at_call 44; (with_reducible refine (Fixed_4 (sumF M) (by omega) _).mono ?_); rintro e w9 ⟨rfl, hf9, hw9, hs9⟩)
                            | (refine step_copy_B (by rfl) (.tmp 135) (.tmp 143) (by rfl) _ (Q - en) (Q - en) g en (by rfl) L ((((hb.alloc _).drew).below hw7 (by have := hb.lt; simp; omega)).below hw9 (by have := hb.lt; have := hw7.size; simp at this; omega)) (fun _ => rfl) (by rw [HL.out]; omega) (.slice (some ⟨w7.heap.size, 0, none⟩) 4 4) (fixedF (sumF M) 4) (by rfl) (hf9.rdB (fixedF_length _ 4) (by omega)) ?_; intro w8 hb8 hg8)
                            | fail)
                        go_wp2_with fail
                        go_ret2
                        rw [Nat.min_eq_left (by rw [fixedF_length]; have := HEN.out; omega), List.take_length, HC2.out] at hb8
                        have hb7 : Below w.heap.size w w7 := ((hB.alloc hB.size _).drew).trans (hw7.mono (by have := hB.size; simp; omega))
                        have hb9 : Below w.heap.size w w9 := hb7.trans (hw9.mono hb7.size)
                        exact ⟨hb9.grown hg8 hb9.size (fun j hj => (Option.some.inj hj) ▸ hg3), .inr ⟨HK.out, .inr ⟨HE.out, g, rfl, hg3, hb8⟩⟩⟩
          · have hE : encK kind (pcs l) Q = 61 := by
              unfold encK
              rw [if_neg (by rw [HF.out]; simp), if_pos (by omega)]
            have HE := Lib.hid hE
            have i1 : (Q : Int) < (psizeF kind (pcs l) : Int) := by omega
            clear hE hsz
            go_wp2_with fail
            go_ret2
            rw [HE.out]
            exact ⟨hB2, .inr ⟨HK.out, .inl ⟨by omega, rfl⟩⟩⟩
end Go.Proofs.Ytfcnkpofcekmgaa

-- packed.Decode: the walk.
namespace Go.Proofs.Ytfcnkpofcekmgaa
open Go.RowKit
theorem numK_lt (b : List UInt8) (at_ w : Nat) : numAt b at_ w < 256 ^ w := by
  unfold numAt
  refine Nat.lt_of_lt_of_le (numF_lt _) (Nat.pow_le_pow_right (by omega) (by simp; omega))
set_option maxRecDepth 20000 in
set_option maxHeartbeats 1000000 in
theorem Knum_any (vb : Value) (b : List UInt8) (bb at_ : Nat) (X : Int) (hX : X = (at_ : Int)) (ha : at_ + 2 ≤ b.length) (w : World) (hv : RdB w vb b) (hc : w.cell? ⟨bb, 0, none⟩ = some vb) :
    Calls Try.prog 47 #[.int .i64 X, .pointer (some ⟨bb, 0, none⟩)] w fun e w' => e = .returned (.int .i64 (numAt b at_ 2 : Nat)) ∧ w' = w := by
  subst hX
  obtain ⟨A, c, rfl, hm⟩ := hv.form
  have hr := ReadFixed_any (.slice A b.length c) b at_ 2 (by omega) (by omega) ha w hv
  rw [show ((2 : Nat) : Int) = 2 from rfl] at hr
  have hl := numK_lt b at_ 2
  unfold numAt at hl ⊢
  generalize numF ((b.drop at_).take 2) = N at *
  have e1 : IntKind.i64.wrap (N : Int) = (N : Int) := by rw [IntKind.wrap_i64]; omega
  go_enter Try.func47, Try.ntmps47
  go_wp2_with (first | (go_at_call 48; (with_reducible refine hr.mono ?_); rintro e w1 ⟨rfl, rfl⟩) | fail)
  go_ret
  exact ⟨rfl, rfl⟩
/-- What Decode tells. -/
def DecK (w : World) (b : List UInt8) (e : Ending) (w' : World) : Prop :=
  (∃ (kind : Int) (l : List CV) (v : Value), isPk b kind (pcs l) ∧ e = .returned (.tuple #[.int .i64 kind, v, .int .i64 0]) ∧ RngC l ∧ Sep w w' [csE v l, oldE w]) ∨
    ((∀ kind l, ¬ isPk b kind l) ∧ e = .returned (.tuple #[.int .i64 0, .slice none 0 0, .int .i64 60]) ∧ Below w.heap.size w w')
theorem cellsK_step {b d : List UInt8} {kind : Int} {pre : List UInt8} {i a m : Nat} (h : numAt b (6 + pre.length + 2 * i) 2 = a) (ha : a ≤ d.length) :
    cellsK b d kind pre i a (m + 1) = if (cellS d kind i pre a).2.2 = true then none else (cellsK b d kind pre (i + 1) (cellS d kind i pre a).2.1 m).map ((cellS d kind i pre a).1 :: ·) := by
  rw [cellsK, if_neg (by simp [h]), cellS_read d kind i pre a ha]
  split <;> rename_i h1
  · split at h1
    · rename_i h2; rw [if_pos h2]
    · cases h1
  · split at h1
    · cases h1
    · rename_i h2
      injection h1 with h1
      injection h1 with h1 h3
      rw [if_neg h2, h1, h3]
theorem cellsK_off {b d : List UInt8} {kind : Int} {pre : List UInt8} {i a m : Nat} (h : numAt b (6 + pre.length + 2 * i) 2 ≠ a) : cellsK b d kind pre i a (m + 1) = none := by
  rw [cellsK, if_pos h]
set_option maxRecDepth 100000 in
set_option maxHeartbeats 8000000 in
theorem KDecode_any (v : Value) (b : List UInt8) (w : World) (hv : RdB w v b) : Calls Try.prog 28 #[v] w (DecK w b) := by
  obtain ⟨A, c, rfl, hm⟩ := hv.form
  have hPa := fun W => KisSize_any (b.length : Int) (by omega) W
  have hB0 : Below w.heap.size w (w.alloc (.cells #[.slice A b.length c] 29)) := (Below.refl _ _).alloc (Nat.le_refl _) _
  cases hp : isPowB (b.length : Int) with
  | false =>
    have HN : Hid (∀ kind l, ¬ isPk b kind l) := Lib.hid fun kind l h => by have := h.1; rw [hp] at this; cases this
    rw [hp] at hPa
    clear hp
    go_enter Try.func28, Try.ntmps28
    go_wp2_with (first | (go_at_call 39; refine (hPa _).mono ?_; rintro e w1 ⟨rfl, rfl⟩) | fail)
    refine bodyPost_ret (v := .tuple #[.int .i64 0, .slice none 0 0, .int .i64 60]) ?_ rfl ?_
    · simp [results, Try.results28, go_sem]
    · exact .inr ⟨HN.out, rfl, hB0⟩
  | true =>
    obtain ⟨hP1, hP2⟩ := isPowB_range hp
    have hb1 : 512 ≤ b.length := by omega
    have hb2 : b.length ≤ 65536 := by omega
    have HPG := Lib.hid hp
    have HNO : Hid (∀ kind l, isPk b kind l → parseK b = some l ∧ kindF b = kind ∧ b.getD 1 0 = 2) := Lib.hid fun kind l h => isPk_parse h
    rw [hp] at hPa
    clear hp
    obtain ⟨k0, hk0⟩ : ∃ k0, b[0]? = some k0 := ⟨_, List.getElem?_eq_getElem (by omega)⟩
    obtain ⟨k1, hk1⟩ : ∃ k1, b[1]? = some k1 := ⟨_, List.getElem?_eq_getElem (by omega)⟩
    have hgd : kindF b = (k0.toNat : Int) := by unfold kindF; rw [List.getD, hk0]; rfl
    have hg1 : b.getD 1 0 = k1 := by rw [List.getD, hk1]; rfl
    have HG1 := Lib.hid hg1
    have HKF := Lib.hid hgd
    obtain ⟨ad, rfl, c0⟩ := hv.at_ (j := 0) (by omega)
    obtain ⟨ad', had, c1⟩ := hv.at_ (j := 1) (by omega)
    obtain rfl : ad = ad' := Option.some.inj had
    have c0' : w.cell? ad = some (.int .u8 (k0.toNat : Int)) := by
      rw [List.getElem?_eq_getElem (by omega)] at hk0
      rw [← Option.some.inj hk0]
      have := c0
      rw [show ad.add 0 = ad from rfl] at this
      exact this
    have c1' : w.cell? (ad.add 1) = some (.int .u8 (k1.toNat : Int)) := by
      rw [List.getElem?_eq_getElem (by omega)] at hk1
      rw [← Option.some.inj hk1]; exact c1
    have hd0 := hB0.cell (World.block_lt_of_cell? _ _ c0')
    have hd1 := hB0.cell (World.block_lt_of_cell? _ _ c1')
    rw [c0'] at hd0
    rw [c1'] at hd1
    have hd1 : World.cell? _ ⟨ad.block, ad.off + 1, none⟩ = _ := hd1
    clear hk0 hk1 hgd hg1 had c0 c1 c0' c1'
    have hk0l := k0.toNat_lt
    have hk1l := k1.toNat_lt
    have j0 : (0 : Int) < (b.length : Int) := by omega
    have j1 : (1 : Int) < (b.length : Int) := by omega
    have j2 : 0 < b.length := by omega
    have j3 : 1 < b.length := by omega
    have hkw : IntKind.i64.wrap (k0.toNat : Int) = (k0.toNat : Int) := by rw [IntKind.wrap_i64]; omega
    have hKi := fun W => KisKind_any (k0.toNat : Int) W
    generalize hK0 : k0.toNat = K0 at *
    by_cases h1 : k1.toNat = 2
    · cases hik : isKindB (K0 : Int) with
      | false =>
        have HN : Hid (∀ kind l, ¬ isPk b kind l) := Lib.hid fun kind l h => by
          have h1 := (HNO.out kind l h).2.1
          have h2 := h.2.1
          rw [HKF.out] at h1
          rw [← h1, hik] at h2
          cases h2
        rw [hik] at hKi
        rw [h1] at hd1
        clear hik h1
        go_enter Try.func28, Try.ntmps28
        go_wp2_with (first | (go_at_call 39; refine (hPa _).mono ?_; rintro e w1 ⟨rfl, rfl⟩) | (go_at_call 38; refine (hKi _).mono ?_; rintro e w1 ⟨rfl, rfl⟩) | fail)
        refine bodyPost_ret (v := .tuple #[.int .i64 0, .slice none 0 0, .int .i64 60]) ?_ rfl ?_
        · simp [results, Try.results28, go_sem]
        · exact .inr ⟨HN.out, rfl, hB0⟩
      | true =>
        rw [hik] at hKi
        rw [h1] at hd1
        have HIK := Lib.hid hik
        clear hik h1
        have hOb := OBlk.new' w 29 [.slice (some ad) b.length c]
        have hN2 := fun k => Knum_any (.slice (some ad) b.length c) b w.heap.size 2 2 rfl (by omega) ((w.alloc (.cells #[.slice (some ad) b.length c] 29)).drewN k) (hv.below (below_drewN hB0 k) (Nat.le_refl _)) ((hOb.drewN k).cell' (j := 0) rfl)
        have hN4 := fun k => Knum_any (.slice (some ad) b.length c) b w.heap.size 4 4 rfl (by omega) ((w.alloc (.cells #[.slice (some ad) b.length c] 29)).drewN k) (hv.below (below_drewN hB0 k) (Nat.le_refl _)) ((hOb.drewN k).cell' (j := 0) rfl)
        have hl1 := numK_lt b 2 2
        have hl2 := numK_lt b 4 2
        obtain ⟨en, hen⟩ : ∃ en : Nat, b.length = en + 4 := ⟨b.length - 4, by omega⟩
        have hen2 : b.length - 4 = en := by omega
        have hpf : parseK b = if b.length - 4 < 6 + numAt b 4 2 + 2 * numAt b 2 2 then none else cellsK b (b.take (b.length - 4)) (kindF b) (preP b) 0 (6 + numAt b 4 2 + 2 * numAt b 2 2) (numAt b 2 2) := rfl
        have hpre : preP b = (b.drop 6).take (numAt b 4 2) := rfl
        rw [HKF.out, hpre, hen2] at hpf
        clear hpre
        have hpl : 6 + numAt b 4 2 ≤ b.length → ((b.drop 6).take (numAt b 4 2)).length = numAt b 4 2 := fun h => by rw [List.length_take, List.length_drop]; omega
        have hrd6 := fun (h : 6 + numAt b 4 2 ≤ b.length) => hv.run_lh 6 (6 + numAt b 4 2) (by omega) h
        have htd : (b.take (6 + numAt b 4 2)).drop 6 = (b.drop 6).take (numAt b 4 2) := by rw [List.drop_take]; congr 1; omega
        rw [htd, show 6 + numAt b 4 2 - 6 = numAt b 4 2 by omega] at hrd6
        clear htd
        generalize (b.drop 6).take (numAt b 4 2) = pre at *
        generalize numAt b 2 2 = n at *
        generalize numAt b 4 2 = m at *
        obtain ⟨DA, dc, hdrun, hdrd⟩ := hv.run_h en (by omega)
        have hdl : (b.take en).length = en := by rw [List.length_take]; omega
        have HPF := Lib.hid hpf
        have e1 : IntKind.i64.wrap ((b.length : Int) - 4) = (en : Int) := by rw [IntKind.wrap_i64]; omega
        have e2 : (b.length : Int) - 4 = (en : Int) := by omega
        have e3 : IntKind.i64.wrap (en : Int) = (en : Int) := by rw [IntKind.wrap_i64]; omega
        have e4 : IntKind.i64.wrap (6 + (m : Int)) = 6 + (m : Int) := by rw [IntKind.wrap_i64]; omega
        have e5 : IntKind.i64.wrap (2 * (n : Int)) = 2 * (n : Int) := by rw [IntKind.wrap_i64]; omega
        have e6 : IntKind.i64.wrap (6 + (m : Int) + 2 * (n : Int)) = 6 + (m : Int) + 2 * (n : Int) := by rw [IntKind.wrap_i64]; omega
        have HEN := Lib.hid hen
        have hen3 : en + 4 ≤ b.length := by omega
        clear hpf hen hen2
        go_enter Try.func28, Try.ntmps28
        go_upto_region 4 with (first | (go_at_call 39; refine (hPa _).mono ?_; rintro e w1 ⟨rfl, rfl⟩) | (go_at_call 38; refine (hKi _).mono ?_; rintro e w1 ⟨rfl, rfl⟩) | fail)
        go_quiet (first
          | (go_at_call_of 47 (Value.int IntKind.i64 2); exact Calls.quiet_of_same (hN2 _))
          | (go_at_call_of 47 (Value.int IntKind.i64 4); exact Calls.quiet_of_same (hN4 _)))
        go_upto_region 6 with (fail)
        have hS0 : Sep w (((w.alloc (.cells #[.slice (some ad) b.length c] 29)).drewN nq).alloc (.cells #[.slice DA en dc, .int .i64 (6 + (m : Int) + 2 * (n : Int)), .bool false] 85)) [rdrE (w.heap.size + 1) (.slice DA en dc) (6 + m + 2 * n) false, blkE w.heap.size 29 [.slice (some ad) b.length c], oldE w] := by
          have h := ((((Sep.start w).alloc 29 [.slice (some ad) b.length c]).drewN nq).alloc 85 [.slice DA en dc, .int .i64 (6 + (m : Int) + 2 * (n : Int)), .bool false])
          have e : ((w.alloc (.cells [Value.slice (some ad) b.length c].toArray 29)).drewN nq).heap.size = w.heap.size + 1 := World.size_alloc _ _
          rw [e] at h
          unfold rdrE
          rw [show ((6 + m + 2 * n : Nat) : Int) = 6 + (m : Int) + 2 * (n : Int) by omega]
          exact h
        clear hN2 hN4 hKi hPa hOb hd0 hd1 j0 j1 j2 j3
        generalize hbb : w.heap.size + 1 = rb at *
        clear hbb
        generalize hww : (((w.alloc (.cells #[.slice (some ad) b.length c] 29)).drewN nq).alloc (.cells #[.slice DA en dc, .int .i64 (6 + (m : Int) + 2 * (n : Int)), .bool false] 85)) = w1 at *
        clear hww
        have y0 : w1.cell? ⟨rb, 0, none⟩ = some (.slice DA en dc) := (show OBlk w1 rb 85 _ from hS0.head).cell' (j := 0) rfl
        have y1 : w1.cell? ⟨rb, 1, none⟩ = some (.int .i64 ((6 + m + 2 * n : Nat) : Int)) := (show OBlk w1 rb 85 _ from hS0.head).cell' (j := 1) rfl
        generalize ha0 : 6 + m + 2 * n = a0 at *
        have ha0i : 6 + (m : Int) + 2 * (n : Int) = (a0 : Int) := by omega
        rw [ha0i] at e6
        try simp only [ha0i]
        by_cases h1 : en < a0
        · have HN : Hid (∀ kind l, ¬ isPk b kind l) := Lib.hid fun kind l h => by
            have := (HNO.out kind l h).1
            rw [HPF.out, if_pos h1] at this
            cases this
          have i1 : (en : Int) < (a0 : Int) := by omega
          have hB1 := hS0.belowOld (v := w) (by simp)
          go_quiet (fail)
          go_wp2_with fail
          refine bodyPost_ret (v := .tuple #[.int .i64 0, .slice none 0 0, .int .i64 60]) ?_ rfl ?_
          · simp [results, Try.results28, go_sem]
          · exact .inr ⟨HN.out, rfl, by have := below_drewN hB1; first | exact hB1 | exact this _⟩
        · have i1 : ¬ (en : Int) < (a0 : Int) := by omega
          have HPF2 : Hid (parseK b = cellsK b (b.take en) (K0 : Int) pre 0 a0 n) := by show _ = _; rw [HPF.out, if_neg h1]
          obtain ⟨PA, pc, hprun, hprd⟩ := hrd6 (by omega)
          have hpl2 := hpl (by omega)
          have hprun' : ∀ w', (Instr.slice 29 (.slice (some ad) b.length c) (some (.int .i64 6)) (some (.int .i64 (6 + (m : Int)))) none).run Try.prog w' = .ok (.slice PA m pc) w' := fun w' => by have := hprun w'; rw [Int.natCast_add] at this; exact this
          have HPL := Lib.hid hpl2
          have hm1 : 6 + m ≤ en := by omega
          have hmn : 6 + m + 2 * n ≤ en := by omega
          have hn1 : 2 * n ≤ en := by omega
          clear HPF hrd6 hpl hpl2 hprun ha0 ha0i e6 e5
          obtain ⟨i0, hi, hz0, hz1, hz2⟩ := info_parts cell_info
          go_quiet (fail)
          have hS1 := hS0.drewN nq
          have hold : oldE w ∈ [rdrE rb (.slice DA en dc) a0 false, blkE w.heap.size 29 [.slice (some ad) b.length c], oldE w] := by simp
          go_wp2_with fail
          clear hS0 y0 y1
          generalize w1.drewN nq = w2 at *
          go_loopw [10, 64] (fun cv i wr => ∃ (k : Nat) (l : List CV) (a : Nat), k ≤ n ∧ i = .int .i64 (k : Int) ∧ a ≤ en ∧ Hid (l.length = k) ∧ RngC l ∧ Hid (cellsK b (b.take en) (K0 : Int) pre 0 a0 n = (cellsK b (b.take en) (K0 : Int) pre k a (n - k)).map (pcs l ++ ·)) ∧ Sep w wr (rdrE rb (.slice DA en dc) a false :: ownE 31 5 cv l.length (flatC l) :: (cellsE l ++ [blkE w.heap.size 29 [.slice (some ad) b.length c], oldE w]))) (fun _ i _ => n - (intOf i).toNat)
          case atStart => exact ⟨0, [], a0, Nat.zero_le _, rfl, by omega, Lib.hid rfl, by simp [RngC], Lib.hid (by simp [pcs]), hS1.tail.nilC.cons hS1.head hS1.lt (fun A hA g hg => by rcases List.mem_cons.1 hA with rfl | hA; (intro h; cases h); exact hS1.far hA g hg)⟩
          case round =>
            clear hS1
            obtain ⟨k, l, a, hk, rfl, ha, HLK, hR, HP, hS⟩ := hrel
            have hB := hS.belowOld (v := w) (by simp)
            have hown := (show Own wr 0 31 5 _ l.length (flatC l) from hS.tail.head)
            obtain ⟨B, cc, rfl⟩ := Own.slice hown
            have hO1 : OBlk wr w.heap.size 29 [.slice (some ad) b.length c] := hS.of_mem (E := blkE _ _ _) (by simp)
            have hO2 : OBlk wr rb 85 [.slice DA en dc, .int .i64 (a : Int), .bool false] := hS.head
            have y1 : wr.cell? ⟨rb, 1, none⟩ = some (.int .i64 (a : Int)) := hO2.cell' (j := 1) rfl
            rw [HLK.out] at hown
            rw [HLK.out]
            by_cases hlt : k < n
            · have ik : (k : Int) < (n : Int) := by omega
              have hNk := fun q => Knum_any (.slice (some ad) b.length c) b w.heap.size (6 + m + 2 * k) (6 + (m : Int) + 2 * (k : Int)) (by omega) (by omega) (wr.drewN q) (hv.below (below_drewN hB q) (Nat.le_refl _)) ((hO1.drewN q).cell' (j := 0) rfl)
              have HNL := Lib.hid (numK_lt b (6 + m + 2 * k) 2)
              generalize hNN : numAt b (6 + m + 2 * k) 2 = N at *
              have e7 : IntKind.i64.wrap (2 * (k : Int)) = 2 * (k : Int) := by rw [IntKind.wrap_i64]; omega
              have e8 : IntKind.i64.wrap (6 + (m : Int) + 2 * (k : Int)) = 6 + (m : Int) + 2 * (k : Int) := by rw [IntKind.wrap_i64]; omega
              have hnk : n - k = (n - (k + 1)) + 1 := by omega
              by_cases hq : N = a
              · have hst := cellsK_step (b := b) (d := b.take en) (kind := (K0 : Int)) (pre := pre) (i := k) (a := a) (m := n - (k + 1)) (by rw [HPL.out, hNN]; exact hq) (by rw [hdl]; exact ha)
                rw [← hnk] at hst
                have HST := Lib.hid hst
                have hcel := fun q => Rcell_sep (hS.drewN q) (by simp) hdrd hprd (by rw [hdl]; omega) (by rw [HPL.out]; omega) (by rw [hdl]; exact ha) (K0 : Int) k
                have hzl := cellS_le (d := b.take en) (K0 : Int) k pre (t := a) (by rw [hdl]; exact ha)
                rw [hdl] at hzl
                generalize cellS (b.take en) (K0 : Int) k pre a = z at *
                obtain ⟨zc, zt, zb⟩ := z
                simp only at hcel hzl
                subst hq
                clear hst hNN hnk
                have hne : ((N : Int) != (N : Int)) = false := by simp
                go_wp2_with fail
                go_quiet (first
                  | (go_at_call 47; exact Calls.quiet_of_same (hNk _)))
                have hcel := hcel nq
                have y9 : wr.cell? ⟨w.heap.size, 0, none⟩ = some (.slice (some ad) b.length c) := hO1.cell' (j := 0) rfl
                clear hNk e7 e8 y1 hown
                go_upto_region 15 with (first
                  | (go_at_call 49; (with_reducible refine hcel.mono ?_); rintro e w3 ⟨x, rfl, hx, ⟨hr1, hr2, hr3⟩, hS3⟩; obtain ⟨kv, vv, key, ck, val, pg, ct⟩ := x; simp only at hx hr1 hr2 hr3 hS3; have hkO := (show OwB w3 0 kv key from hS3.head); have hvO := (show OwB w3 0 vv val from hS3.tail.head); obtain ⟨xK, xk, rfl⟩ := Own.slice hkO; obtain ⟨xV, xv, rfl⟩ := Own.slice hvO; have hone := cells_one (x := ⟨.slice xK key.length xk, .slice xV val.length xv, ⟨key, ck, val, pg, ct⟩⟩) hkO hvO; have hS4 := hS3.alloc 31 [.slice xK key.length xk, .int .i64 ck, .slice xV val.length xv, .int .i64 pg, .int .i64 ct]; have hown2 := (show Own _ 0 31 5 _ l.length (flatC l) from hS4.tail.tail.tail.tail.head); rw [HLK.out] at hown2; have hsrc := Rd.five w3 (.slice xK key.length xk) (.int .i64 ck) (.slice xV val.length xv) (.int .i64 pg) (.int .i64 ct) 31; unfold cellV)
                  | (at_builtin; refine wp_append rfl (.tmp 79) (.tmp 88) _ _ rfl 0 31 i0 _ 5 72 Try.underlying59 hi hz0 hz1 hz2 rfl (.slice B k cc) k (flatC l) rfl hown2 (.slice (some ⟨w3.heap.size, 0, none⟩) 1 1) 1 _ rfl (Rd.src _ Try.underlying59 (by omega) hsrc hone) (by omega) (by omega) (Nat.zero_le _) ?_; intro v' w' ho' hg' hk'; obtain ⟨B', c', rfl⟩ := Own.slice ho')
                  | fail)
                rw [HLK.out] at hS4
                have hS5 := (hS4.sw [_, _, _, _]).appC ho' hg' (hk'.imp id fun h => ⟨_, h, Nat.le_refl _⟩)
                have hrb := (show OBlk w' rb 85 [.slice DA en dc, .int .i64 (zt : Int), .bool zb] from hS5.tail.tail.tail.tail.head)
                have y2 : w'.cell? ⟨rb, 2, none⟩ = some (.bool zb) := hrb.cell' (j := 2) rfl
                have hB5 := hS5.belowOld (v := w) (by simp)
                clear hS4 hS3 hkO hvO hown2 hsrc hone hcel y9 hO1 hO2 hrb
                cases zb with
                | true =>
                  have HN : Hid (∀ kind l, ¬ isPk b kind l) := Lib.hid fun kind l' h => by
                    have := (HNO.out kind l' h).1
                    rw [HPF2.out, HP.out, HST.out] at this
                    cases this
                  clear hS5
                  go_wp2_with fail
                  refine bodyPost_ret (v := .tuple #[.int .i64 0, .slice none 0 0, .int .i64 60]) ?_ rfl ?_
                  · simp [results, Try.results28, go_sem]
                  · exact .inr ⟨HN.out, rfl, hB5⟩
                | false =>
                  have hP2 : cellsK b (b.take en) (K0 : Int) pre 0 a0 n = (cellsK b (b.take en) (K0 : Int) pre (k + 1) zt (n - (k + 1))).map (pcs (l ++ [⟨.slice xK key.length xk, .slice xV val.length xv, ⟨key, ck, val, pg, ct⟩⟩]) ++ ·) := by
                    rw [HP.out, HST.out]
                    show Option.map _ (if false = true then _ else Option.map _ _) = _
                    rw [if_neg (by simp), Option.map_map]
                    congr 1
                    funext z
                    simp [pcs, ← hx]
                  have HP2 := Lib.hid hP2
                  have hS6 := hS5.sw1.tail
                  rw [← HLK.out] at hS6
                  have hS7 := Sep.csSnocFar (y := ⟨.slice xK key.length xk, .slice xV val.length xv, ⟨key, ck, val, pg, ct⟩⟩) [rdrE rb (.slice DA en dc) zt false] hS6
                  have hS8 := hS7.unpack
                  have hS9 := Sep.sw (E := rdrE rb (.slice DA en dc) zt false) (ownE 31 5 _ _ _ :: cellsE _) hS8
                  rw [HLK.out] at hS9
                  have hS10 : Sep w w' (rdrE rb (.slice DA en dc) zt false :: ownE 31 5 (.slice B' (k + 1) c') (l ++ [(⟨.slice xK key.length xk, .slice xV val.length xv, ⟨key, ck, val, pg, ct⟩⟩ : CV)]).length (flatC (l ++ [(⟨.slice xK key.length xk, .slice xV val.length xv, ⟨key, ck, val, pg, ct⟩⟩ : CV)])) :: (cellsE (l ++ [(⟨.slice xK key.length xk, .slice xV val.length xv, ⟨key, ck, val, pg, ct⟩⟩ : CV)]) ++ [blkE w.heap.size 29 [.slice (some ad) b.length c], oldE w])) := hS9
                  have HS9 := Lib.hid hS10
                  have HX := Lib.hid hx
                  clear hP2 hS5 hS6 hS7 hS8 hS9 hS10 hS hx
                  go_wp2_with fail
                  go_roundw
                  case rel => exact ⟨k + 1, l ++ [⟨.slice xK key.length xk, .slice xV val.length xv, ⟨key, ck, val, pg, ct⟩⟩], zt, by omega, by go_num, hzl, Lib.hid (by rw [List.length_append, HLK.out]; rfl), fun y hy => by rcases List.mem_append.1 hy with hy | hy; exact hR y hy; obtain rfl := List.mem_singleton.1 hy; exact ⟨hr1, hr2, hr3⟩, HP2, HS9.out⟩
                  case measure => simp [intOf]; omega
              · have HN : Hid (∀ kind l, ¬ isPk b kind l) := Lib.hid fun kind l' h => by
                  have := (HNO.out kind l' h).1
                  rw [HPF2.out, HP.out, hnk, cellsK_off (by rw [HPL.out, hNN]; exact hq)] at this
                  cases this
                have hne : ((N : Int) != (a : Int)) = true := by simp only [bne, beq_eq_false_iff_ne.2 (show (N : Int) ≠ (a : Int) by omega)]; rfl
                clear hq hNN hnk HP
                go_wp2_with fail
                go_quiet (first
                  | (go_at_call 47; exact Calls.quiet_of_same (hNk _)))
                go_wp2_with fail
                refine bodyPost_ret (v := .tuple #[.int .i64 0, .slice none 0 0, .int .i64 60]) ?_ rfl ?_
                · simp [results, Try.results28, go_sem]
                · exact .inr ⟨HN.out, rfl, below_drewN hB _⟩
            · obtain rfl : k = n := by omega
              have hpl : parseK b = some (pcs l) := by
                rw [HPF2.out, HP.out, Nat.sub_self]
                simp [cellsK]
              have HPL2 := Lib.hid hpl
              have hrd := hS.openRd (u := .slice B l.length cc) (by simp) (fun E hE => by simp [hE]) hR
              have hE := KEncode_any (K0 : Int) (.slice B l.length cc) l (b.length : Int) (by unfold i64r; omega) wr hrd (by rw [HLK.out]; omega)
              rw [HLK.out] at hE
              have y9 : wr.cell? ⟨w.heap.size, 0, none⟩ = some (.slice (some ad) b.length c) := hO1.cell' (j := 0) rfl
              have hEQ := fun v' (a' : List UInt8) W (hW : Below w.heap.size w W) (h' : RdB W v' a') => Equal_any v' (.slice (some ad) b.length c) a' b W h' (hv.below hW (Nat.le_refl _))
              have HISP : Hid (isPowB (b.length : Int) = true) := HPG
              have HS := Lib.hid hS
              clear hpl hrd hS hown
              go_wp2_with fail
              refine hE.mono ?_
              unfold EncKAt
              simp only [Int.toNat_natCast]
              rintro e w2 ⟨hw2, ⟨hf, rfl⟩ | ⟨ht, ⟨hne, rfl⟩ | ⟨hz, g, rfl, hg, hbk⟩⟩⟩
              · exact absurd hf (by rw [HIK.out, HISP.out]; simp)
              · have HN : Hid (∀ kind l, ¬ isPk b kind l) := Lib.hid fun kind l' h => by
                  have h1 := HNO.out kind l' h
                  rw [HKF.out, HPL2.out] at h1
                  obtain ⟨h1, h2, _⟩ := h1
                  injection h1 with h1
                  have h3 := h.2.2.1
                  rw [← h1, ← h2] at h3
                  exact hne h3
                have hB2 := hB.trans (hw2.mono hB.size)
                have hnb : (encK (K0 : Int) (pcs l) b.length != 0) = true := by simp only [bne, beq_eq_false_iff_ne.2 hne]; rfl
                generalize encK (K0 : Int) (pcs l) b.length = ee at *
                clear hne hE hEQ ht
                go_wp2_with fail
                refine bodyPost_ret (v := .tuple #[.int .i64 0, .slice none 0 0, .int .i64 60]) ?_ rfl ?_
                · simp [results, Try.results28, go_sem]
                · exact .inr ⟨HN.out, rfl, hB2⟩
              · have hB2 := hB.trans (hw2.mono hB.size)
                have hll : (laidK (K0 : Int) (pcs l) b.length).length = b.length := laidK_length (encK_zero.1 hz).2
                have hEQ2 := hEQ _ _ w2 hB2 (hbk.rdB hll (by omega))
                have y9' := (hw2.cell (World.block_lt_of_cell? _ _ y9)).trans y9
                have HZ := Lib.hid hz
                have HS2 := Lib.hid (HS.out.below hw2)
                rcases Bool.eq_false_or_eq_true (laidK (K0 : Int) (pcs l) b.length == b) with hq | hq
                · rw [hq] at hEQ2
                  have HY : Hid (isPk b (K0 : Int) (pcs l)) := Lib.hid ⟨HISP.out, HIK.out, HZ.out, eq_of_beq hq⟩
                  clear hq hE hEQ ht hz hll hbk y9
                  go_wp2_with fail
                  refine hEQ2.mono ?_
                  rintro e w3 ⟨rfl, rfl⟩
                  go_wp2_with fail
                  refine bodyPost_ret (v := .tuple #[.int .i64 (K0 : Int), .slice B k cc, .int .i64 0]) ?_ rfl ?_
                  · simp [results, Try.results28, go_sem]
                  · have h9 := HS2.out.tail
                    have h10 := Sep.pack (D := ownE 31 5 (.slice B l.length cc) l.length (flatC l) :: cellsE l) h9
                    refine .inl ⟨_, l, .slice B l.length cc, HY.out, by rw [HLK.out], hR, ?_⟩
                    exact (Sep.sw1 h10).tail
                · rw [hq] at hEQ2
                  have HN : Hid (∀ kind l, ¬ isPk b kind l) := Lib.hid fun kind l' h => by
                    have h1 := HNO.out kind l' h
                    rw [HKF.out, HPL2.out] at h1
                    obtain ⟨h1, h2, _⟩ := h1
                    injection h1 with h1
                    have h3 := h.2.2.2
                    rw [← h1, ← h2] at h3
                    rw [h3] at hq
                    simp at hq
                  clear hq hE hEQ ht hz hll hbk y9
                  go_wp2_with fail
                  refine hEQ2.mono ?_
                  rintro e w3 ⟨rfl, rfl⟩
                  go_wp2_with fail
                  refine bodyPost_ret (v := .tuple #[.int .i64 0, .slice none 0 0, .int .i64 60]) ?_ rfl ?_
                  · simp [results, Try.results28, go_sem]
                  · exact .inr ⟨HN.out, rfl, hB2⟩
    · have HN : Hid (∀ kind l, ¬ isPk b kind l) := Lib.hid fun kind l h => by
        have h2 := (HNO.out kind l h).2.2
        rw [HG1.out] at h2
        rw [h2] at h1
        exact h1 rfl
      have hq : (((k1.toNat : Nat) : Int) != 2) = true := by simp only [bne, beq_eq_false_iff_ne.2 (show ((k1.toNat : Nat) : Int) ≠ 2 by omega)]; rfl
      clear h1
      go_enter Try.func28, Try.ntmps28
      go_wp2_with (first | (go_at_call 39; refine (hPa _).mono ?_; rintro e w1 ⟨rfl, rfl⟩) | (go_at_call 38; refine (hKi _).mono ?_; rintro e w1 ⟨rfl, rfl⟩) | fail)
      refine bodyPost_ret (v := .tuple #[.int .i64 0, .slice none 0 0, .int .i64 60]) ?_ rfl ?_
      · simp [results, Try.results28, go_sem]
      · exact .inr ⟨HN.out, rfl, hB0⟩
end Go.Proofs.Ytfcnkpofcekmgaa
