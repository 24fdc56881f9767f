/- Texts joined: espalierref07.Encode; packed pages; Cells that were lent are read.; Pieces of memory; espalierlaw07.PackedEncodes; The row's last step from 'Below' alone (the guide's small lemma 9).; A law that returns true and changes nothing below -/
import Derived.Test.YtaniabhajngdeaaKN2
import Derived.Test.YtaniabhajngdeaaKN7
import Derived.Test.YtaniabhajngdeaaKN9
import Derived.Test.YtaniabhajngdeaaKN14
import Derived.Test.YtaniabhajngdeaaKE15
import Derived.Test.YtaniabhajngdeaaKE16
import Derived.Test.YtaniabhajngdeaaKE17
import Derived.Deep.RegionHeld3
import Derived.Below
import Derived.ChangeSame
import Derived.WalkKit
import Derived.ProofKit
import Derived.OpenShut
import Derived.SizedLaws
import Derived.Carry
import Derived.Lib.SmallJoins
import Derived.WideKeyArgs
-- espalierref07.Encode: the walk.
namespace Go.Proofs.Ytaniabhajngdeaa
open Go.RowKit
def REncKAt (w : World) (kind : Int) (l : List PC) (P : Int) (e : Ending) (w' : World) : Prop :=
  Below w.heap.size w w' ∧ ((isKindB kind && isPowB P) = false ∧ e = .returned (.tuple #[.slice none 0 0, .int .i64 1]) ∨
    (isKindB kind && isPowB P) = true ∧ ((encK kind l P.toNat ≠ 0 ∧ e = .returned (.tuple #[.slice none 0 0, .int .i64 (encK kind l P.toNat)])) ∨
      (encK kind l P.toNat = 0 ∧ ∃ v, e = .returned (.tuple #[v, .int .i64 0]) ∧ OwB w' w.heap.size v (laidK kind l P.toNat))))
def slnK : Value → Nat
  | .slice _ n _ => n
  | _ => 0
theorem KFixed_2 (n : Nat) (hn : n < 18446744073709551616) (w : World) : Calls Try.prog 56 #[.int .u64 n, .int .i64 2] w fun e w' => ∃ v, e = .returned v ∧ OwB w' w.heap.size v (fixedF n 2) ∧ Below w.heap.size w w' :=
  RFixed_any n hn 2 (by omega) (by omega) w
theorem KFixed_4 (n : Nat) (hn : n < 18446744073709551616) (w : World) : Calls Try.prog 56 #[.int .u64 n, .int .i64 4] w fun e w' => ∃ v, e = .returned v ∧ OwB w' w.heap.size v (fixedF n 4) ∧ Below w.heap.size w w' :=
  RFixed_any n hn 4 (by omega) (by omega) w
theorem pslots_step (kind : Int) (s a : Nat) (l : List PC) {k : Nat} (hk : k < l.length) : pslotsF kind s a 0 (l.take (k + 1)) = pslotsF kind s a 0 (l.take k) ++ fixedF (a + (pbodyF kind s 0 (l.take k)).length) 2 := by
  rw [List.take_succ_eq_append_getElem hk, pslotsF_append]
  simp only [pslotsF, List.append_nil]
theorem pbody_step (kind : Int) (s : Nat) (l : List PC) {k : Nat} (hk : k < l.length) : pbodyF kind s 0 (l.take (k + 1)) = pbodyF kind s 0 (l.take k) ++ pcF kind k l[k] s := by
  rw [List.take_succ_eq_append_getElem hk, pbodyF_append]
  simp only [pbodyF, List.append_nil, List.length_take, Nat.zero_add, Nat.min_eq_left (Nat.le_of_lt hk)]
theorem pbody_take_le (kind : Int) (s : Nat) (l : List PC) (k : Nat) : (pbodyF kind s 0 (l.take k)).length ≤ (pbodyF kind s 0 l).length := by
  conv => rhs; rw [← List.take_append_drop k l, pbodyF_append]
  simp
set_option maxRecDepth 100000 in
set_option maxHeartbeats 8000000 in
theorem RKEncode_any (kind : Int) (v : Value) (l : List CV) (P : Int) (w : World) (hl : RdCs w v l) (hn : l.length ≤ 2000000000000) :
    Calls Try.prog 17 #[.int .i64 kind, v, .int .i64 P] w (REncKAt w kind (pcs l) P) := by
  obtain ⟨A, c, rfl, hm, hc⟩ := hl.slice
  have hPa := RKIsSize_any P w
  have hcut0 : ∀ b2 b3 : Bool, (kind != 2) = b2 → (kind != 3) = b3 → isKindB kind = !(b2 && b3) := fun b2 b3 h2 h3 => by
    subst h2 h3
    unfold isKindB
    by_cases e2 : kind = 2
    · simp [e2]
    · by_cases e3 : kind = 3
      · simp [e3]
      · simp [e2, e3]
  have HC0 := Lib.hid hcut0
  obtain ⟨kp, hkp⟩ : ∃ b, isPowB P = b := ⟨_, rfl⟩
  obtain ⟨b2, hb2⟩ : ∃ b, (kind != 2) = b := ⟨_, rfl⟩
  obtain ⟨b3, hb3⟩ : ∃ b, (kind != 3) = b := ⟨_, rfl⟩
  have HKB : Hid (isKindB kind = !(b2 && b3)) := Lib.hid (hcut0 b2 b3 hb2 hb3)
  have HKP := Lib.hid hkp
  rw [hkp] at hPa
  clear hkp hcut0
  go_enter Try.func17, Try.ntmps17
  go_upto_region 2 with (first | (go_at_call 53; refine hPa.mono ?_; rintro e w1 ⟨rfl, rfl⟩) | fail)
  clear hPa
  go_cut [35] (fun a wx => a = .bool ((b2 && b3) || !kp) ∧ w = wx)
  case first =>
    cases b2 <;> cases b3 <;> cases kp <;>
    · go_wp2_with fail
      go_meet
      exact ⟨rfl, rfl⟩
  case rest =>
   obtain ⟨rfl, rfl⟩ := hcut
   clear hb2 hb3
   obtain ⟨bb, hbb⟩ : ∃ b, ((b2 && b3) || !kp) = b := ⟨_, rfl⟩
   rw [hbb]
   have HKK : Hid ((isKindB kind && isPowB P) = !bb) := Lib.hid (by rw [HKB.out, HKP.out, ← hbb]; cases b2 <;> cases b3 <;> cases kp <;> rfl)
   clear hbb HC0 HKB HKP
   cases bb with
   | true =>
    go_wp2_with fail
    go_ret2
    unfold REncKAt
    exact ⟨Below.refl _ _, .inl ⟨HKK.out, rfl⟩⟩
   | false =>
    have HK : Hid ((isKindB kind && isPowB P) = true) := HKK
    have hkk := HK.out
    simp only [Bool.and_eq_true] at hkk
    obtain ⟨hk0, hp0⟩ := hkk
    have HKD : Hid (kind = 2 ∨ kind = 3) := Lib.hid (of_decide_eq_true hk0)
    obtain ⟨hP1, hP2⟩ := isPowB_range hp0
    clear hk0 hp0 HKK
    obtain ⟨Q, rfl⟩ : ∃ Q : Nat, P = (Q : Int) := ⟨P.toNat, by omega⟩
    have hQ1 : 512 ≤ Q := by omega
    have hQ2 : Q ≤ 65536 := by omega
    go_wp2_with fail
    go_loopw [9, 10, 11] (fun i _ _ wr => ∃ k : Nat, k ≤ l.length ∧ i = .int .i64 (k : Int) ∧ Hid (scanE kind Q none (pcs l) = scanE kind Q (prevK (pcs l) k) ((pcs l).drop k)) ∧ Hid (∀ j (hj : j < k) (hjl : j < (pcs l).length), OkC Q (pcs l)[j]) ∧ Below w.heap.size w wr) (fun i _ _ _ => l.length - (intOf i).toNat)
    case atStart => exact ⟨0, Nat.zero_le _, rfl, Lib.hid rfl, Lib.hid (fun j hj => by omega), Below.refl _ _⟩
    case round =>
      obtain ⟨k, hk, rfl, HSC, HOK, hB⟩ := hrel
      by_cases hlt : k < l.length
      · have ik : (k : Int) < (l.length : Int) := by omega
        have hlp : k < (pcs l).length := by rw [pcs_length]; exact hlt
        have hst := scan_step (kind := kind) (P := Q) hlp
        have hpk := prevK_succ (pcs l) hlp
        rw [← HSC.out] at hst
        have hcx : ∀ c, (pcs l)[k] = c → Hid (mayP kind Q c = true → ∀ j (hj : j < k + 1) (hjl : j < (pcs l).length), OkC Q (pcs l)[j]) := fun c hc => Lib.hid (fun hmay j hj hjl => by
          by_cases e : j = k
          · subst e; rw [hc]; exact may_ok hmay
          · exact HOK.out j (by omega) hjl)
        rw [pcs_at hlt] at hst hpk
        have hcx := hcx _ (pcs_at hlt)
        obtain ⟨ad, rfl, c0, c1, c2, c3, c4⟩ := (hl.below hB).at_ hlt
        have hx := (hl.below hB).ok _ (List.getElem_mem hlt)
        have hprev : ∀ q, prevK (pcs l) k = some q → ∃ A0 a0, 0 < k ∧ RdB wr (.slice A0 q.length a0) q ∧ wr.cell? (ad.add ((k - 1) * 5)) = some (.slice A0 q.length a0) := fun q hq => by
          unfold prevK at hq
          split at hq
          · cases hq
          · have hk1 : k - 1 < l.length := by omega
            obtain ⟨_, ea, d0, _⟩ := (hl.below hB).at_ hk1
            cases ea
            have hxp := (hl.below hB).ok _ (List.getElem_mem hk1)
            have e1 : (pcs l).getD (k - 1) default = l[k - 1].c := by simp [List.getD, pcs, hk1]
            rw [e1] at hq
            injection hq with hq
            obtain ⟨A0, a0, he, _⟩ := hxp.k.form
            rw [he, hq] at d0
            have hk2 := hxp.k
            rw [he, hq] at hk2
            exact ⟨A0, a0, by omega, hk2, d0⟩
        generalize l[k] = x at *
        obtain ⟨A1, a1, B1, b1, key, ck, val, pg, ct, rfl, _, _⟩ := CV.form hx
        have hma := RKMay_any kind Q HKD.out hQ2 _ wr hx
        have hxk : RdB wr (.slice A1 key.length a1) key := hx.k
        have hst' : scanE kind Q none (pcs l) = if mayP kind Q ⟨key, ck, val, pg, ct⟩ = false then 62 else if afterP (prevK (pcs l) k) key = false then 63 else scanE kind Q (prevK (pcs l) (k + 1)) ((pcs l).drop (k + 1)) := hst
        have HCX := Lib.hid hcx.out
        unfold cellV at hma
        rcases Bool.eq_false_or_eq_true (mayP kind Q ⟨key, ck, val, pg, ct⟩) with hmy | hmy
        · rw [if_neg (by rw [hmy]; simp)] at hst'
          have HCN := Lib.hid (HCX.out hmy)
          have hma' : Calls Try.prog 54 #[.int .i64 kind, .agg #[.slice A1 key.length a1, .int .i64 ck, .slice B1 val.length b1, .int .i64 pg, .int .i64 ct], .int .i64 (Q : Int)] wr fun e w' => e = .returned (.bool true) ∧ Below wr.heap.size wr w' := by
            rw [← hmy]; exact hma
          clear hma hmy hst hx hcx
          have HST0 := Lib.hid hst'
          have HPV := Lib.hid hprev
          have HPK0 := Lib.hid hpk
          clear hst' hprev hpk
          go_upto_region 10 with (first | (go_at_call 54; refine hma'.mono ?_; rintro e w2 ⟨rfl, hb2⟩) | fail)
          have hB2 := hB.trans (hb2.mono hB.size)
          have hst' := HST0.out
          have hprev := HPV.out
          have hpk := HPK0.out
          clear HST0 HPV HPK0
          by_cases hk0 : 0 < k
          · obtain ⟨kk, rfl⟩ : ∃ kk, k = kk + 1 := ⟨k - 1, by omega⟩
            obtain ⟨q, hq⟩ : ∃ q, prevK (pcs l) (kk + 1) = some q := ⟨_, prevK_succ (pcs l) (by rw [pcs_length]; omega)⟩
            obtain ⟨A0, a0, _, hqr, hqc⟩ := hprev q hq
            rw [hq] at hst'
            rw [show kk + 1 - 1 = kk by omega] at hqc
            have j1 : (0 : Int) ≤ (kk : Int) := by omega
            have j2 : (kk : Int) < (l.length : Int) := by omega
            have j3 : kk < l.length := by omega
            have j4 : IntKind.i64.wrap (kk : Int) = (kk : Int) := by rw [IntKind.wrap_i64]; omega
            have j5 : (0 : Int) < (kk : Int) + 1 := by omega
            have j6 : (0 : Int) ≤ (kk : Int) + 1 := by omega
            have j7 : (kk : Int) + 1 < (l.length : Int) := by omega
            have j8 : ((kk : Int) + 1).toNat = kk + 1 := by omega
            have j9 : IntKind.i64.wrap ((kk : Int) + 1) = (kk : Int) + 1 := by rw [IntKind.wrap_i64]; omega
            have j10 : kk + 1 < l.length := by omega
            have hst2 : scanE kind Q none (pcs l) = if decide (ordC q key < 0) = false then 63 else scanE kind Q (prevK (pcs l) (kk + 1 + 1)) ((pcs l).drop (kk + 1 + 1)) := hst'
            have HST := Lib.hid hst2
            clear hst' hst2 hq hprev hpk
            have e1 : w2.cell? (ad.add (kk * 5)) = some (.slice A0 q.length a0) := (hb2.cell (World.block_lt_of_cell? wr _ hqc)).trans hqc
            have e2 : w2.cell? (ad.add ((kk + 1) * 5)) = some (.slice A1 key.length a1) := (hb2.cell (World.block_lt_of_cell? wr _ c0)).trans c0
            have hq2 := hqr.below hb2 (Nat.le_refl _)
            have hx2 := hxk.below hb2 (Nat.le_refl _)
            have hah := RKahead_any _ _ q key w2.drew hq2.drew hx2.drew
            have HAH := Lib.hid hah
            have HC : Hid (∀ w', Below w2.heap.size w2 w' → w'.cell? (ad.add (kk * 5)) = some (.slice A0 q.length a0) ∧ w'.cell? (ad.add ((kk + 1) * 5)) = some (.slice A1 key.length a1)) := Lib.hid fun w' hb' =>
              ⟨(hb'.cell (World.block_lt_of_cell? w2 _ e1)).trans e1, (hb'.cell (World.block_lt_of_cell? w2 _ e2)).trans e2⟩
            clear hma' hqc c0 c1 c2 c3 c4 hqr hxk hb2 hah
            generalize hod : decide (ordC q key < 0) = od at *
            clear hod
            cases od with
            | true =>
              have hsn : scanE kind Q none (pcs l) = scanE kind Q (prevK (pcs l) (kk + 1 + 1)) ((pcs l).drop (kk + 1 + 1)) := by rw [HST.out, if_neg (by simp)]
              have HSN := Lib.hid hsn
              clear hsn
              go_upto_region 11 with (fail)
              go_region_held3 (fun w' => w'.cell? (ad.add (kk * 5)) = some (.slice A0 q.length a0) ∧ w'.cell? (ad.add ((kk + 1) * 5)) = some (.slice A1 key.length a1))
                (first | exact ⟨e1, e2⟩ | exact HC.out _ hb7 | go_keep)
                (first
                  | (go_at_call 55; refine HAH.out.mono ?_; rintro e w7 ⟨rfl, hw7⟩; have hb7 : Below w2.heap.size w2 w7 := (Below.refl _ _).drew.trans hw7)
                  | fail)
              go_wp2_with fail
              exact ⟨⟨kk + 1 + 1, by omega, by go_num, HSN, HCN, hB2.trans (hb7.mono hB2.size)⟩, by simp [intOf]; omega⟩
            | false =>
              have henc : encK kind (pcs l) Q = 63 := by
                have := HST.out
                rw [if_pos (by simp)] at this
                unfold encK; rw [if_pos (by rw [this]; simp), this]
              have HE := Lib.hid henc
              clear henc
              go_upto_region 11 with (fail)
              go_region_held3 (fun w' => w'.cell? (ad.add (kk * 5)) = some (.slice A0 q.length a0) ∧ w'.cell? (ad.add ((kk + 1) * 5)) = some (.slice A1 key.length a1))
                (first | exact ⟨e1, e2⟩ | exact HC.out _ hb7 | go_keep)
                (first
                  | (go_at_call 55; refine HAH.out.mono ?_; rintro e w7 ⟨rfl, hw7⟩; have hb7 : Below w2.heap.size w2 w7 := (Below.refl _ _).drew.trans hw7)
                  | fail)
              go_wp2_with fail
              go_ret2
              unfold REncKAt
              rw [show ((Q : Int)).toNat = Q from rfl, HE.out]
              exact ⟨hB2.trans (hb7.mono hB2.size), .inr ⟨HK.out, .inl ⟨by omega, rfl⟩⟩⟩
          · obtain rfl : k = 0 := by omega
            have e0 : afterP (prevK (pcs l) 0) key = true := rfl
            rw [e0, if_neg (by simp)] at hst'
            have HST := Lib.hid hst'
            clear hst' e0
            go_wp2_with fail
            exact ⟨⟨1, by omega, rfl, HST, HCN, hB2⟩, by simp [intOf]; omega⟩
        · have henc : encK kind (pcs l) Q = 62 := by
            rw [if_pos hmy] at hst'
            unfold encK; rw [if_pos (by rw [hst']; simp), hst']
          have HE := Lib.hid henc
          have hma' : Calls Try.prog 54 #[.int .i64 kind, .agg #[.slice A1 key.length a1, .int .i64 ck, .slice B1 val.length b1, .int .i64 pg, .int .i64 ct], .int .i64 (Q : Int)] wr fun e w' => e = .returned (.bool false) ∧ Below wr.heap.size wr w' := by
            rw [← hmy]; exact hma
          clear hma hst' hst hmy henc hx hcx
          go_wp2_with (first | (go_at_call 54; refine hma'.mono ?_; rintro e w2 ⟨rfl, hb2⟩) | fail)
          go_ret2
          unfold REncKAt
          rw [show ((Q : Int)).toNat = Q from rfl, HE.out]
          exact ⟨hB.trans (hb2.mono hB.size), .inr ⟨HK.out, .inl ⟨by omega, rfl⟩⟩⟩
      · obtain rfl : k = l.length := by omega
        have hall : ∀ c ∈ pcs l, OkC Q c := fun c hc => by
          obtain ⟨j, hj, rfl⟩ := List.getElem_of_mem hc
          exact HOK.out j (by rw [pcs_length] at hj; exact hj) hj
        have hsc : scanE kind Q none (pcs l) = 0 := by
          rw [HSC.out, List.drop_of_length_le (by rw [pcs_length]; omega)]; rfl
        have hbg := bigK_okc hQ2 hall
        rw [pcs_length] at hbg
        have hcb : ∀ x ∈ l, x.c.key.length + x.c.val.length ≤ 100000000000000 := fun x hx => by
          have h := okc_fit (hall x.c (by unfold pcs; exact List.mem_map_of_mem hx)) hQ2
          omega
        have hkb : ∀ x ∈ l, x.c.key.length ≤ 100000000000000 := fun x hx => by have := hcb x hx; omega
        have hpk : ∀ (i : Nat) (hi : i < (pcs l).length), ¬ (kind = 3 ∧ i = 0) → sharedF kind (pcs l) ≤ (pcs l)[i].key.length := fun i hi hn => (key_split (kind := kind) hi hn).1
        obtain ⟨w1, rfl⟩ : ∃ w1, w1 = wr := ⟨_, rfl⟩
        have hsz := RKSize_any kind _ l _ (hl.below hB) hn (by omega) hcb
        have HSCZ := Lib.hid hsc
        have HCB := Lib.hid hcb
        have HKBD := Lib.hid hkb
        have HPK := Lib.hid hpk
        clear hall hsc HSC HOK hbg hcb hkb hpk
        obtain ⟨S, hSS⟩ : ∃ S, psizeF kind (pcs l) = S := ⟨_, rfl⟩
        rw [hSS] at hsz
        have HSS := Lib.hid hSS
        have hSe : S = 10 + sharedF kind (pcs l) + 2 * l.length + (pbodyF kind (sharedF kind (pcs l)) 0 (pcs l)).length := by rw [← hSS, ← pcs_length l]; rfl
        clear hSS
        by_cases hbig : Q < S
        · have henc : encK kind (pcs l) Q = 61 := by
            unfold encK
            rw [HSCZ.out, if_neg (by simp), if_pos (by rw [HSS.out]; exact hbig)]
          have HE := Lib.hid henc
          have ib : (Q : Int) < (S : Int) := by omega
          clear henc hSe
          go_wp2_with (first | (go_at_call 14; refine hsz.mono ?_; rintro e w2 ⟨rfl, hb2⟩) | fail)
          go_ret2
          unfold REncKAt
          rw [show ((Q : Int)).toNat = Q from rfl, HE.out]
          exact ⟨hB.trans (hb2.mono hB.size), .inr ⟨HK.out, .inl ⟨by omega, rfl⟩⟩⟩
        · have henc : encK kind (pcs l) Q = 0 := by
            unfold encK
            rw [HSCZ.out, if_neg (by simp), if_neg (by rw [HSS.out]; exact hbig)]
          have HE := Lib.hid henc
          have hSQ : Hid (psizeF kind (pcs l) ≤ Q) := Lib.hid (by rw [HSS.out]; omega)
          have ib : ¬ ((Q : Int) < (S : Int)) := by omega
          have hpl := prefF_length kind (pcs l)
          have HLD : Hid (laidK kind (pcs l) Q = preK kind (pcs l) Q ++ fixedF (sumF (preK kind (pcs l) Q)) 4) := Lib.hid rfl
          have hprl : (preK kind (pcs l) Q).length = Q - 4 := preK_length hSQ.out
          have HPRL := Lib.hid hprl
          have hprk : preK kind (pcs l) Q = (([u8I kind, 2] ++ fixedF l.length 2) ++ fixedF (sharedF kind (pcs l)) 2) ++ prefF kind (pcs l) ++ pslotsF kind (sharedF kind (pcs l)) (6 + sharedF kind (pcs l) + 2 * l.length) 0 (pcs l) ++ pbodyF kind (sharedF kind (pcs l)) 0 (pcs l) ++ List.replicate (Q - S) 0 := by
            unfold preK
            rw [HSS.out, pcs_length]
            simp
          have HPRK := Lib.hid hprk
          have HSE := Lib.hid hSe
          have HSH := fun W hW => RKShared_any kind (.slice A l.length c) l W hW hn HKBD.out
          have HBY := Lib.hid (fun (k : Nat) (hk : k < l.length) W (hW : l[k].ok W) => RKbytes_any kind k l[k] (sharedF kind (pcs l)) W hW (fun h => by
            have := HPK.out k (by rw [pcs_length]; exact hk) h
            rw [pcs_at hk] at this; exact this) (HCB.out _ (List.getElem_mem hk)))
          have HST := Lib.hid (fun (k : Nat) (hk : k < l.length) => pslots_step kind (sharedF kind (pcs l)) (6 + sharedF kind (pcs l) + 2 * l.length) (pcs l) (k := k) (by rw [pcs_length]; exact hk))
          have HBS := Lib.hid (fun (k : Nat) (hk : k < l.length) => (pbody_step kind (sharedF kind (pcs l)) (pcs l) (k := k) (by rw [pcs_length]; exact hk)).trans (by rw [pcs_at hk]))
          have hBL := pbody_take_le kind (sharedF kind (pcs l)) (pcs l)
          have hsl := fun k => pslotsF_length kind (sharedF kind (pcs l)) (6 + sharedF kind (pcs l) + 2 * l.length) 0 ((pcs l).take k)
          have HSL := Lib.hid hsl
          clear henc hprl hprk HCB HKBD HPK hsl
          generalize sharedF kind (pcs l) = s at *
          generalize prefF kind (pcs l) = pf at *
          obtain ⟨B, hBq⟩ : ∃ B, (pbodyF kind s 0 (pcs l)).length = B := ⟨_, rfl⟩
          rw [hBq] at hSe hBL
          have HBQ := Lib.hid hBq
          have HBL := Lib.hid hBL
          have HPL := Lib.hid hpl
          have hfit : 10 + s + 2 * l.length + B ≤ Q := by omega
          have hS1 : Sep w w1 [oldE w] := (Sep.start w).below hB
          clear hBq hSe hBL hpl hB
          go_upto_region 17 with (first | (go_at_call 14; refine hsz.mono ?_; rintro e w2 ⟨rfl, hb2⟩) | fail)
          have hS2 := hS1.below hb2
          have hsh := HSH w2 (hl.below (hS2.belowOld (v := w) (by simp)))
          clear hS1 hb2 hsz HSH ib
          go_upto_region 18 with (first | (go_at_call 44; refine hsh.mono ?_; rintro e w3 ⟨v3, rfl, ho3, hb3⟩) | fail)
          obtain ⟨PA, pc, rfl⟩ := Own.slice ho3
          have hS3 := hS2.bytes hb3 ho3 (Nat.le_refl _)
          rw [HPL.out] at hS3 ⊢
          have hkw := wrap_u8I kind
          have hS4 := (hS3.alloc 5 (bvs [u8I kind, 2])).weak (E' := bytesE (.slice (some ⟨w3.heap.size, 0, none⟩) 2 2) [u8I kind, 2]) (fun h => OBlk.owB' (m := [u8I kind, 2]) h (Nat.zero_le _) (by simp [maxLen])) (fun g hg => (Option.some.inj hg).symm)
          have HS4 := Lib.hid hS4
          clear hS4 hsh ho3 hb3 hS2 hS3
          go_upto_region 19 with (fail)
          have hS4 : Sep w (w3.alloc (.cells #[.int .u8 ((u8I kind).toNat : Int), .int .u8 2] 5)) [bytesE (.slice (some ⟨w3.heap.size, 0, none⟩) 2 2) [u8I kind, 2], bytesE (.slice PA s pc) pf, oldE w] := HS4.out
          generalize w3.alloc (.cells #[.int .u8 ((u8I kind).toNat : Int), .int .u8 2] 5) = w4 at *
          generalize w3.heap.size = g4 at *
          have hwn : IntKind.u64.wrap (l.length : Int) = (l.length : Int) := IntWalk.u64_in _ (by omega)
          clear HS4 hkw
          go_upto_region 20 with (first | (go_at_call 56; refine (KFixed_2 l.length (by omega) _).mono ?_; rintro e w5 ⟨v5, rfl, ho5, hb5⟩) | fail)
          have hS5 : Sep w w5 [bytesE (.slice (some ⟨g4, 0, none⟩) 2 2) [u8I kind, 2], bytesE v5 (fixedF l.length 2), bytesE (.slice PA s pc) pf, oldE w] := (hS4.bytes hb5 ho5 (Nat.le_refl _)).sw1
          have ha6 := RKadd_sep (u := v5) hS5 (RdIn.bytes (l := fixedF l.length 2) (by simp)) (by simp [fixedF_length])
          clear hS4 ho5 hb5 hwn
          go_upto_region 21 with (first | (go_at_call 57; refine ha6.mono ?_; rintro e w6 ⟨v6, rfl, hS6⟩) | fail)
          have hS6 : Sep w w6 [bytesE v6 ([u8I kind, 2] ++ fixedF l.length 2), bytesE (.slice PA s pc) pf, oldE w] := (hS6.sw1).tail
          have hws : IntKind.u64.wrap (s : Int) = (s : Int) := IntWalk.u64_in _ (by omega)
          clear hS5 ha6
          go_upto_region 22 with (first | (go_at_call 56; refine (KFixed_2 s (by omega) _).mono ?_; rintro e w7 ⟨v7, rfl, ho7, hb7⟩) | fail)
          have hS7 : Sep w w7 [bytesE v6 ([u8I kind, 2] ++ fixedF l.length 2), bytesE v7 (fixedF s 2), bytesE (.slice PA s pc) pf, oldE w] := (hS6.bytes hb7 ho7 (Nat.le_refl _)).sw1
          have ha8 := RKadd_sep (u := v7) hS7 (RdIn.bytes (l := fixedF s 2) (by simp)) (by simp [fixedF_length])
          clear hS6 ho7 hb7 hws
          go_upto_region 23 with (first | (go_at_call 57; refine ha8.mono ?_; rintro e w8 ⟨v8, rfl, hS8⟩) | fail)
          have hS8 : Sep w w8 [bytesE v8 (([u8I kind, 2] ++ fixedF l.length 2) ++ fixedF s 2), bytesE (.slice PA s pc) pf, oldE w] := (hS8.sw1).tail
          have ha9 := RKadd_sep (u := .slice PA s pc) hS8 (RdIn.bytes (l := pf) (by simp)) (by simp [fixedF_length, HPL.out]; omega)
          have hl9 : (([u8I kind, 2] ++ fixedF l.length 2) ++ fixedF s 2 ++ pf).length = 6 + s := by simp [fixedF_length, HPL.out]; omega
          clear hS7 ha8
          go_upto_region 24 with (first | (go_at_call 57; refine ha9.mono ?_; rintro e w9 ⟨v9, rfl, hS9⟩) | fail)
          generalize ([u8I kind, 2] ++ fixedF l.length 2) ++ fixedF s 2 ++ pf = H0 at *
          have ho9 : OwB w9 0 v9 H0 := hS9.head
          obtain ⟨OA, oc, rfl⟩ := Own.slice ho9
          rw [hl9] at hS9 ⊢
          obtain ⟨a0, ha0⟩ : ∃ a0, 6 + s + 2 * l.length = a0 := ⟨_, rfl⟩
          have HA0 := Lib.hid ha0
          have HL9 := Lib.hid hl9
          clear hS8 ha9 ho9 hl9
          go_wp2_with fail
          rw [show (6 + (s : Int) + 2 * (l.length : Int)) = (a0 : Int) by omega]
          have ha0Q : a0 + B + 4 ≤ Q := by omega
          clear ha0
          go_loopw [14, 18, 19, 20, 21] (fun o bd i _ _ wr => ∃ k : Nat, k ≤ l.length ∧ i = .int .i64 (k : Int) ∧ Sep w wr [bytesE o (H0 ++ pslotsF kind s (6 + s + 2 * l.length) 0 ((pcs l).take k)), bytesE bd (pbodyF kind s 0 ((pcs l).take k)), bytesE (.slice PA s pc) pf, oldE w]) (fun _ _ i _ _ _ => l.length - (intOf i).toNat)
          case atStart => exact ⟨0, Nat.zero_le _, rfl, by simpa [pslotsF, pbodyF] using hS9.nil.sw1⟩
          case round =>
            clear hS9
            obtain ⟨k, hk, rfl, hS⟩ := hrel
            by_cases hlt : k < l.length
            · have ik : (k : Int) < (l.length : Int) := by omega
              have hst := HST.out k hlt
              have hbs := HBS.out k hlt
              have hbk := HBL.out k
              have hbk1 := HBL.out (k + 1)
              have hslk := HSL.out k
              have hl9 := HL9.out
              rw [hbs, List.length_append] at hbk1
              rw [List.length_take, pcs_length, Nat.min_eq_left hk] at hslk
              have hBw := hS.belowOld (v := w) (by simp)
              obtain ⟨ad, rfl, -⟩ := (hl.below hBw).at_ hlt
              have HCE := Lib.hid (fun W (hb : Below w.heap.size w W) => (hl.below hb).at_ hlt)
              have HOK := Lib.hid (fun W (hb : Below w.heap.size w W) => (hl.below hb).ok _ (List.getElem_mem hlt))
              have hby := HBY.out k hlt
              have hx := (hl.below hBw).ok _ (List.getElem_mem hlt)
              generalize l[k] = x at *
              obtain ⟨A1, a1, B1, b1, key, ck, val, pg, ct, rfl, _, _⟩ := CV.form hx
              unfold cellV at hby
              simp only at hbs hbk1 hby
              obtain ⟨BA, bc, rfl⟩ := Own.slice (hS.tail.head : OwB wr 0 _ _)
              obtain ⟨q, hq⟩ : ∃ q, (pbodyF kind s 0 ((pcs l).take k)).length = q := ⟨_, rfl⟩
              obtain ⟨p, hp⟩ : ∃ p, a0 + q = p := ⟨_, rfl⟩
              have hst2 : pslotsF kind s (6 + s + 2 * l.length) 0 ((pcs l).take (k + 1)) = pslotsF kind s (6 + s + 2 * l.length) 0 ((pcs l).take k) ++ fixedF p 2 := by
                rw [hst, hq, HA0.out, hp]
              have hw1 : IntKind.u64.wrap ((a0 : Int) + (q : Int)) = (p : Int) := by rw [IntWalk.u64_in _ (by omega)]; omega
              have hpb : p < 18446744073709551616 := by omega
              rw [hq] at hS hbk hbk1 ⊢
              have hlo : (H0 ++ pslotsF kind s (6 + s + 2 * l.length) 0 ((pcs l).take k)).length ≤ 131072 := by rw [List.length_append, hl9, hslk]; omega
              have hln : (pcF kind k ⟨key, ck, val, pg, ct⟩ s).length + q ≤ 65536 := by omega
              have FIN : Hid (∀ W o bd, Sep w W [bytesE o (H0 ++ pslotsF kind s (6 + s + 2 * l.length) 0 ((pcs l).take k) ++ fixedF p 2), bytesE bd (pbodyF kind s 0 ((pcs l).take k) ++ pcF kind k ⟨key, ck, val, pg, ct⟩ s), bytesE (.slice PA s pc) pf, oldE w] →
                  Sep w W [bytesE o (H0 ++ pslotsF kind s (6 + s + 2 * l.length) 0 ((pcs l).take (k + 1))), bytesE bd (pbodyF kind s 0 ((pcs l).take (k + 1))), bytesE (.slice PA s pc) pf, oldE w]) := Lib.hid (fun W o bd h => by
                rw [hst2, hbs, ← List.append_assoc]; exact h)
              have HQ := Lib.hid hq
              clear hst hst2 hbs hbk hbk1 hslk hl9 hBw hx hp hq
              generalize hOUT : H0 ++ pslotsF kind s (6 + s + 2 * l.length) 0 ((pcs l).take k) = OUT at *
              generalize hBOD : pbodyF kind s 0 ((pcs l).take k) = BOD at *
              generalize pcF kind k ⟨key, ck, val, pg, ct⟩ s = PCF at *
              clear hOUT hBOD
              go_upto_region 30 with (first | (go_at_call 56; refine (KFixed_2 p hpb _).mono ?_; rintro e w5 ⟨v5, rfl, ho5, hb5⟩) | fail)
              have hS5 := (hS.bytes hb5 ho5 (Nat.le_refl _)).sw1
              have ha6 := RKadd_sep (u := v5) hS5 (RdIn.bytes (l := fixedF p 2) (by simp)) (by rw [fixedF_length]; omega)
              clear hS ho5 hb5 hw1
              go_upto_region 31 with (first | (go_at_call 57; refine ha6.mono ?_; rintro e w6 ⟨v6, rfl, hS6⟩) | fail)
              have hS6 : Sep w w6 [bytesE v6 (OUT ++ fixedF p 2), bytesE (.slice BA q bc) BOD, bytesE (.slice PA s pc) pf, oldE w] := (hS6.sw1).tail
              have hB6 := hS6.belowOld (v := w) (by simp)
              obtain ⟨_, ea, d0, d1, d2, d3, d4⟩ := HCE.out w6 hB6
              cases ea
              have hby6 := hby w6 (HOK.out w6 hB6)
              clear hS5 ha6 hby
              go_upto_region 32 with (first | (go_at_call 58; refine hby6.mono ?_; rintro e w7 ⟨v7, rfl, ho7, hb7⟩) | fail)
              have hS7 : Sep w w7 [bytesE (.slice BA q bc) BOD, bytesE v7 PCF, bytesE v6 (OUT ++ fixedF p 2), bytesE (.slice PA s pc) pf, oldE w] := (hS6.bytes hb7 ho7 (Nat.le_refl _)).sw [bytesE v7 PCF, bytesE v6 (OUT ++ fixedF p 2)]
              have ha8 := RKadd_sep (u := v7) hS7 (RdIn.bytes (l := PCF) (by simp)) (by rw [HQ.out]; omega)
              clear hS6 hb7 ho7 hB6 d0 d1 d2 d3 d4 hby6
              go_wp2_with (first | (go_at_call 57; refine ha8.mono ?_; rintro e w8 ⟨v8, rfl, hS8⟩) | fail)
              have hS9 : Sep w w8 [bytesE v6 (OUT ++ fixedF p 2), bytesE v8 (BOD ++ PCF), bytesE (.slice PA s pc) pf, oldE w] := ((hS8.sw1).tail).sw1
              exact ⟨⟨k + 1, by omega, by go_num, FIN.out _ _ _ hS9⟩, by simp [intOf]; omega⟩
            · obtain rfl : k = l.length := by omega
              have e : (pcs l).take l.length = pcs l := List.take_of_length_le (by rw [pcs_length]; omega)
              rw [e] at hS
              have hslk := HSL.out l.length
              rw [e, pcs_length] at hslk
              have hl9 := HL9.out
              have hbq := HBQ.out
              have hH : (H0 ++ pslotsF kind s (6 + s + 2 * l.length) 0 (pcs l) ++ pbodyF kind s 0 (pcs l)).length = a0 + B := by
                have := HA0.out
                rw [List.length_append, List.length_append, hl9, hslk, hbq]; omega
              have hl1 : (H0 ++ pslotsF kind s (6 + s + 2 * l.length) 0 (pcs l)).length + (pbodyF kind s 0 (pcs l)).length ≤ 140737488355328 := by
                rw [← List.length_append, hH]; omega
              have ha := RKadd_sep hS (RdIn.bytes (l := pbodyF kind s 0 (pcs l)) (List.mem_cons_self ..)) hl1
              have hz : ∀ z, a0 + B + z = Q - 4 → H0 ++ pslotsF kind s (6 + s + 2 * l.length) 0 (pcs l) ++ pbodyF kind s 0 (pcs l) ++ List.replicate z 0 = preK kind (pcs l) Q := fun z hz => by
                have h1 := HPRK.out
                have h2 := HA0.out
                have h3 := HSS.out
                have h5 := HSE.out
                rw [HBQ.out] at h5
                rw [h1, show z = Q - S by omega]
              have HZ := Lib.hid hz
              have HPL2 := HPRL.out
              clear e hslk hl9 hbq hl1 hz
              generalize hHH : H0 ++ pslotsF kind s (6 + s + 2 * l.length) 0 (pcs l) ++ pbodyF kind s 0 (pcs l) = H at *
              clear hHH
              go_wp2_with (first | (go_at_call 57; refine ha.mono ?_; rintro e w5 ⟨v5, rfl, hS5⟩) | fail)
              have hS5 : Sep w w5 [bytesE v5 H, oldE w] := ((hS5.sw1).tail.sw1).tail
              clear ha hS
              go_loopw [14] (fun b wr => ∃ z : Nat, a0 + B + z ≤ Q - 4 ∧ Sep w wr [bytesE b (H ++ List.replicate z 0), oldE w]) (fun b _ => Q - slnK b)
              case atStart => exact ⟨0, by omega, by simpa using hS5⟩
              case round =>
                clear hS5
                obtain ⟨z, hz, hS⟩ := hrel
                have hob : OwB wr 0 _ _ := hS.head
                obtain ⟨Ab, cb, rfl⟩ := Own.slice hob
                have hnl : (H ++ List.replicate z 0).length = a0 + B + z := by rw [List.length_append, hH, List.length_replicate]
                have HRZ : Hid (H ++ List.replicate (z + 1) 0 = (H ++ List.replicate z 0) ++ [0]) := Lib.hid (by rw [List.replicate_succ', List.append_assoc])
                have HPR := HZ.out z
                obtain ⟨n, hn'⟩ : ∃ n, (H ++ List.replicate z (0 : UInt8)).length = n := ⟨_, rfl⟩
                rw [hn'] at hnl
                generalize H ++ List.replicate z 0 = bz at *
                have HPR := Lib.hid HPR
                rw [hn'] at hob hS ⊢
                have hn1 : n ≤ a0 + B + z := by omega
                have hn2 : a0 + B + z ≤ n := by omega
                clear hnl
                by_cases hlt : n < Q - 4
                · have ilt : (n : Int) < (Q : Int) - 4 := by omega
                  have hn140 : bz.length + 1 ≤ 140737488355328 := by omega
                  clear HPR
                  go_wp2_with (first
                    | (at_builtin; refine wp_append_B1 rfl (.tmp 137) (.tmp 138) rfl 0 _ _ rfl hob 0 _ rfl 5 rfl hn140 (Nat.zero_le _) ?_; intro v8 w8 ho8 hg8 hk8; have hS8 := hS.appended1 ho8 hg8 hk8)
                    | fail)
                  obtain ⟨A8, c8, rfl⟩ := Own.slice (hS8.head : OwB w8 0 _ _)
                  have hl8 : (bz ++ [(0 : UInt8)]).length = n + 1 := by rw [List.length_append, hn']; rfl
                  exact ⟨⟨z + 1, by omega, by rw [HRZ.out]; exact hS8⟩, by show Q - (bz ++ [(0 : UInt8)]).length < Q - n; rw [hl8]; omega⟩
                · have ilt : ¬ (n : Int) < (Q : Int) - 4 := by omega
                  have hpre := HPR.out (by omega)
                  have hsl4 : sumF (preK kind (pcs l) Q) < 4294967296 := sumF_lt _
                  have hpl2 : (preK kind (pcs l) Q).length + 4 ≤ 140737488355328 := by rw [HPL2]; omega
                  subst hpre
                  have hso := SumOf_any _ (preK kind (pcs l) Q) wr hob.rd
                  generalize hsm : sumF (preK kind (pcs l) Q) = sm at *
                  have hsw : IntKind.u64.wrap (sm : Int) = (sm : Int) := IntWalk.u64_in _ (by omega)
                  have hn3 : n + 4 ≤ 70000 := by omega
                  have HLL := Lib.hid hn'
                  clear hsm HPR HRZ hn1 hn2 hn' hpl2 HPL2
                  go_upto_region 37 with (first
                    | (go_at_call 59; refine hso.mono ?_; rintro e w10 ⟨rfl, rfl⟩)
                    | fail)
                  go_upto_region 38 with (first
                    | (go_at_call 56; refine (KFixed_4 sm (by omega) _).mono ?_; rintro e w10 ⟨v10, rfl, ho10, hb10⟩)
                    | fail)
                  have hS10 := (hS.bytes hb10 ho10 (Nat.le_refl _)).sw1
                  have ha11 := RKadd_sep (u := v10) hS10 (RdIn.bytes (l := fixedF sm 4) (by simp)) (by rw [fixedF_length, HLL.out]; omega)
                  clear hso ho10 hb10
                  go_wp2_with (first | (go_at_call 57; refine ha11.mono ?_; rintro e w11 ⟨v11, rfl, hS11⟩) | fail)
                  go_ret2
                  unfold REncKAt
                  rw [show ((Q : Int)).toNat = Q from rfl, HE.out, HLD.out]
                  exact ⟨(hS11.sw1.tail).belowOld (v := w) (by simp), .inr ⟨HK.out, .inr ⟨rfl, v11, rfl, (hS11.sw1.tail).ownOld (by simp)⟩⟩⟩
end Go.Proofs.Ytaniabhajngdeaa

-- packed pages: Encode of both sides, told alike.
namespace Go.Proofs.Ytaniabhajngdeaa
open Go.RowKit
/-! ### Encode -/
def encKZ (kind : Int) (l : List PC) (P : Int) : Int := if (isKindB kind && isPowB P) = true then encK kind l P.toNat else 1
def encKL (kind : Int) (l : List PC) (P : Int) : List UInt8 := if encKZ kind l P = 0 then laidK kind l P.toNat else []
theorem encKL_length (kind : Int) (l : List PC) (P : Int) : (encKL kind l P).length ≤ 65536 := by
  unfold encKL
  split
  · rename_i h
    unfold encKZ at h
    split at h
    · rename_i h2
      rw [Bool.and_eq_true] at h2
      have := isPowB_range h2.2
      rw [laidK_length (encK_zero.1 h).2]; omega
    · cases h
  · simp
theorem encKZ_range (kind : Int) (l : List PC) (P : Int) : 0 ≤ encKZ kind l P ∧ encKZ kind l P ≤ 63 := by
  unfold encKZ
  split
  · exact encK_range _ _ _
  · simp
theorem KEncZ (kind : Int) (v : Value) (l : List CV) (P : Int) (hPr : i64r P) (w : World) (hl : RdCs w v l) (hn : l.length ≤ 2000000000000) :
    Calls Try.prog 16 #[.int .i64 kind, v, .int .i64 P] w fun e w' => ∃ u, e = .returned (.tuple #[u, .int .i64 (encKZ kind (pcs l) P)]) ∧ OwB w' w.heap.size u (encKL kind (pcs l) P) ∧ Below w.heap.size w w' := by
  refine (KEncode_any kind v l P hPr w hl hn).mono ?_
  unfold EncKAt encKL encKZ
  rintro e w' ⟨hb, ⟨h1, rfl⟩ | ⟨h1, ⟨h2, rfl⟩ | ⟨h2, g, rfl, hg, ho⟩⟩⟩
  · rw [if_neg (by rw [h1]; simp), if_neg (by decide)]
    exact ⟨_, rfl, OwB.nil _ _, hb⟩
  · rw [if_pos h1, if_neg h2]
    exact ⟨_, rfl, OwB.nil _ _, hb⟩
  · rw [if_pos h1, if_pos h2, h2]
    rw [Bool.and_eq_true] at h1
    have hP := isPowB_range h1.2
    have hl := laidK_length (kind := kind) (encK_zero.1 h2).2
    have h3 := ho.owB' hg (by rw [hl]; simp only [maxLen]; omega)
    rw [hl] at h3
    exact ⟨_, rfl, h3, hb⟩
theorem RKEncZ (kind : Int) (v : Value) (l : List CV) (P : Int) (w : World) (hl : RdCs w v l) (hn : l.length ≤ 2000000000000) :
    Calls Try.prog 17 #[.int .i64 kind, v, .int .i64 P] w fun e w' => ∃ u, e = .returned (.tuple #[u, .int .i64 (encKZ kind (pcs l) P)]) ∧ OwB w' w.heap.size u (encKL kind (pcs l) P) ∧ Below w.heap.size w w' := by
  refine (RKEncode_any kind v l P w hl hn).mono ?_
  unfold REncKAt encKL encKZ
  rintro e w' ⟨hb, ⟨h1, rfl⟩ | ⟨h1, ⟨h2, rfl⟩ | ⟨h2, u, rfl, ho⟩⟩⟩
  · rw [if_neg (by rw [h1]; simp), if_neg (by decide)]
    exact ⟨_, rfl, OwB.nil _ _, hb⟩
  · rw [if_pos h1, if_neg h2]
    exact ⟨_, rfl, OwB.nil _ _, hb⟩
  · rw [if_pos h1, if_pos h2, h2]
    exact ⟨_, rfl, ho, hb⟩
theorem encKZ_pk {kind : Int} {l : List PC} {b : List UInt8} : isPk b kind l ↔ encKZ kind l (b.length : Int) = 0 ∧ encKL kind l (b.length : Int) = b := by
  unfold isPk encKL encKZ
  rw [Int.toNat_natCast]
  constructor
  · rintro ⟨h1, h2, h3, h4⟩
    rw [if_pos (by rw [h1, h2]; rfl), if_pos h3]
    exact ⟨h3, h4⟩
  · rintro ⟨h1, h2⟩
    split at h1
    · rename_i h
      rw [if_pos h, if_pos h1] at h2
      rw [Bool.and_eq_true] at h
      exact ⟨h.2, h.1, h1, h2⟩
    · cases h1
end Go.Proofs.Ytaniabhajngdeaa

-- Cells that were lent are read.
namespace Go.Proofs.Ytaniabhajngdeaa
open Go.RowKit
theorem gsum_mem : ∀ {l : List PC} {c : PC}, c ∈ l → 1 + c.key.length + c.val.length ≤ gsum l
  | x :: r, c, h => by
    simp only [gsum]
    rcases List.mem_cons.1 h with rfl | h
    · omega
    · have := gsum_mem h; omega
theorem lent3E_mem {ps : List (Nat × Nat)} {cs : List PC} {i : Nat} (h1 : i < ps.length) (h2 : i < cs.length) : lentP3 ps[i].1 cs[i].key ∈ lent3E ps cs ∧ lentP3 ps[i].2 cs[i].val ∈ lent3E ps cs := by
  have h : [lentP3 ps[i].1 cs[i].key, lentP3 ps[i].2 cs[i].val] ∈ List.zipWith (fun p c => [lentP3 p.1 c.key, lentP3 p.2 c.val]) ps cs := by
    have hi : i < (List.zipWith (fun (p : Nat × Nat) (c : PC) => [lentP3 p.1 c.key, lentP3 p.2 c.val]) ps cs).length := by simp; omega
    have e : (List.zipWith (fun (p : Nat × Nat) (c : PC) => [lentP3 p.1 c.key, lentP3 p.2 c.val]) ps cs)[i] = [lentP3 ps[i].1 cs[i].key, lentP3 ps[i].2 cs[i].val] := by simp
    rw [← e]; exact List.getElem_mem hi
  exact ⟨List.mem_flatten.2 ⟨_, h, by simp⟩, List.mem_flatten.2 ⟨_, h, by simp⟩⟩
def RngP (cs : List PC) : Prop := ∀ c ∈ cs, i64r c.kind ∧ i64r c.page ∧ i64r c.count
theorem RdCs.rngP {w : World} {v : Value} {l : List CV} (h : RdCs w v l) : RngP (pcs l) := fun c hc => by
  obtain ⟨x, hx, rfl⟩ := List.mem_map.1 hc
  exact ⟨(h.ok x hx).r1, (h.ok x hx).r2, (h.ok x hx).r3⟩
theorem lentP3_rd {w0 w : World} {L : List Ent} {g : Nat} {b : List UInt8} (h : Sep w0 w L) (hm : lentP3 g b ∈ L) : RdB w (.slice (some ⟨g, 0, none⟩) b.length (b.length + 3)) b := by
  have ho : OwB w 0 (.slice (some ⟨g, 0, none⟩) (b.length + 3) (b.length + 3)) (b ++ marks) := h.of_mem hm
  have h1 := OwB.take ho (m := b.length) (by omega)
  rw [List.take_left' rfl] at h1
  exact h1.rd
theorem Sep.lent3_rd {w0 w : World} {L : List Ent} {G n : Nat} {ps : List (Nat × Nat)} {cs : List PC} (h : Sep w0 w L) (hb : blkE G 50 (flatC (lentL3 ps cs ++ [markCV (-7), markCV (-8)])) ∈ L) (he : ∀ E ∈ lent3E ps cs, E ∈ L)
    (hp : ps.length = cs.length) (hn : cs.length = n) (hm : n + 2 ≤ 140737488355328) (hr : RngP cs) : RdCs w (.slice (some ⟨G, 0, none⟩) n (n + 2)) (lentL3 ps cs) := by
  have hll := lentL3_length hp
  have hB : OBlk w G 50 (flatC (lentL3 ps cs ++ [markCV (-7), markCV (-8)])) := h.of_mem hb
  refine ⟨⟨by rw [flatC_length], _, n + 2, by rw [hll, hn], by omega, by simp only [maxLen]; omega, fun j u hj => ⟨_, rfl, ?_⟩⟩, fun x hx => ?_⟩
  · rw [add_row, hB.cell, flatC_append, Nat.zero_add, List.getElem?_append_left (List.getElem?_eq_some_iff.1 hj).1]
    exact hj
  · obtain ⟨i, hi', rfl⟩ := List.getElem_of_mem hx
    rw [hll] at hi'
    have hip : i < ps.length := by rw [hp]; exact hi'
    obtain ⟨e1, e2⟩ := lent3E_mem hip hi'
    have ex : (lentL3 ps cs)[i]'(by omega) = lentCV3 ps[i] cs[i] := by simp only [lentL3, List.getElem_zipWith]
    rw [ex]
    obtain ⟨r1, r2, r3⟩ := hr cs[i] (List.getElem_mem hi')
    exact ⟨lentP3_rd h (he _ e1), lentP3_rd h (he _ e2), r1, r2, r3⟩
end Go.Proofs.Ytaniabhajngdeaa

-- Pieces of memory: a book.
namespace Go.Proofs.Ytaniabhajngdeaa
open Go.RowKit
/-! ### the book -/
def bkF (xs : List (Value × List UInt8)) (j : Nat) : List UInt8 := (xs.getD j (.slice none 0 0, [])).2
def bookE (bb : Nat) (v : Value) (xs : List (Value × List UInt8)) : Ent :=
  ⟨fun g => g = bb ∨ v.ownBlock = some g ∨ InL (xs.map Prod.fst) g, fun w => BookAt w 0 bb v (xs.map Prod.fst) (bkF xs), fun h k =>
    ⟨k.blk.of_heap (h bb (.inl rfl)), Own.heap k.own (fun g hg => h g (.inr (.inl hg))), fun j u hj => Own.heap (k.each j u hj) (fun g hg => h g (.inr (.inr ⟨j, u, hj, hg⟩))), k.apart⟩⟩
theorem Sep.book {w0 w : World} {L : List Ent} (h : Sep w0 w L) : Sep w0 (w.alloc (.cells #[.slice none 0 0] 37)) (bookE w.heap.size (.slice none 0 0) [] :: L) := by
  refine (h.alloc 37 [.slice none 0 0]).weak (fun hp => ⟨hp, Own.nil _ _ _ _, fun j u hj => by simp at hj, fun i j u u' _ hi => by simp at hi⟩) (fun g hg => ?_)
  rcases hg with rfl | hg | ⟨j, u, hj, _⟩
  · rfl
  · cases hg
  · simp at hj
theorem Take_sep {w0 w : World} {L : List Ent} {bb : Nat} {v u : Value} {xs : List (Value × List UInt8)} {l : List UInt8} (h : Sep w0 w (bookE bb v xs :: bytesE u l :: L)) (hn : xs.length ≤ 100000000) :
    Calls Try.prog 19 #[.pointer (some ⟨bb, 0, none⟩), u] w fun e w' => (∃ x, e = .returned x) ∧ ∃ v', Sep w0 w' (bookE bb v' (xs ++ [(u, l)]) :: L) := by
  have hB : BookAt w 0 bb v (xs.map Prod.fst) (bkF xs) := h.head
  have hU : OwB w 0 u l := h.tail.head
  refine (Take_any w 0 bb v _ _ u l hB (Nat.zero_le _) (by simpa using hn) hU (fun j y hj g hg hy => h.far (List.mem_cons_self ..) g (.inr (.inr ⟨j, y, hj, hy⟩)) hg)).mono ?_
  rintro e w' ⟨hx, v', hb', ht, hv'⟩
  refine ⟨hx, v', h.join.upd (ht.mono fun b hb => .inl (hb.elim .inl (fun h => .inr (.inl h)))) (E' := bookE bb v' (xs ++ [(u, l)])) ?_ (fun g hg => ?_)⟩
  · refine ⟨hb'.blk, by simpa using hb'.own, fun j y hj => ?_, by simpa using hb'.apart⟩
    rw [List.map_append] at hj
    have h1 := hb'.each j y hj
    have hlt := (List.getElem?_eq_some_iff.1 hj).1
    simp only [List.length_append, List.length_map, List.map_cons, List.map_nil, List.length_singleton] at hlt
    have e1 : bkF (xs ++ [(u, l)]) j = if j = (xs.map Prod.fst).length then l else bkF xs j := by
      unfold bkF
      rw [List.length_map]
      by_cases hj' : j = xs.length
      · subst hj'; simp [List.getD]
      · rw [if_neg hj']
        simp [List.getD, List.getElem?_append_left (show j < xs.length by omega)]
    rw [e1]; exact h1
  · have hsz := ht.size
    rcases hg with rfl | hg | ⟨j, y, hj, hy⟩
    · exact ⟨.inl (.inl (.inl rfl)), hb'.blk.lt⟩
    · refine ⟨?_, (Own.lt hb'.own g hg).2⟩
      rcases hv' g hg with h1 | h1
      · exact .inl (.inl (.inr (.inl h1)))
      · exact .inr h1
    · refine ⟨.inl ?_, (Own.lt (hb'.each j y (by simpa using hj)) g hy).2⟩
      rw [List.map_append, List.getElem?_append] at hj
      split at hj
      · exact .inl (.inr (.inr ⟨j, y, hj, hy⟩))
      · right
        rw [List.map_cons, List.map_nil, List.getElem?_singleton] at hj
        split at hj
        · injection hj with hj; rw [← hj] at hy; exact hy
        · cases hj
theorem Owned_sep {w0 w : World} {L : List Ent} {bb : Nat} {v : Value} {xs : List (Value × List UInt8)} (h : Sep w0 w (bookE bb v xs :: L)) (hn : xs.length ≤ 8388608) (hl : ∀ p ∈ xs, p.2.length ≤ 1000000000) :
    Calls Try.prog 20 #[.pointer (some ⟨bb, 0, none⟩)] w fun e w' => e = .returned (.bool true) ∧ Sep w0 w' L := by
  refine (BookOwned_any v _ _ 0 bb w h.head (by simpa using hn) (fun j hj => ?_)).mono ?_
  · rw [List.length_map] at hj
    have e : bkF xs j = xs[j].2 := by simp [bkF, List.getD, hj]
    rw [e]; exact hl _ (List.getElem_mem hj)
  · rintro e w' ⟨rfl, ht, _⟩
    exact ⟨rfl, h.kill (ht.mono fun b hb => .inr (.inr hb))⟩
end Go.Proofs.Ytaniabhajngdeaa

-- espalierlaw07.PackedEncodes: the walk.
namespace Go.Proofs.Ytaniabhajngdeaa
open Go.RowKit
set_option maxRecDepth 100000 in
set_option maxHeartbeats 8000000 in
theorem kencodes_any (kind : Int) (v : Value) (l : List CV) (P : Int) (hPr : i64r P) (w : World) (hl : RdCs w v l) (hb : ∀ c ∈ pcs l, c.key.length ≤ 140737488355328 ∧ c.val.length ≤ 140737488355328) :
    Calls Try.prog 5 #[.int .i64 kind, v, .int .i64 P] w fun e w' => e = .returned (.bool true) ∧ Below w.heap.size w w' := by
  have hgr := KGreat_any v l w hl hb
  obtain ⟨A, c, rfl, hm, hc⟩ := hl.slice
  go_enter Try.func5, Try.ntmps5
  go_upto_if 26 with (first
    | (go_at_call 11; (with_reducible refine hgr.mono ?_); rintro e w1 ⟨g, rfl, hgs, hw1⟩)
    | fail)
  clear hgr
  cases g with
  | true =>
    go_wp2_with fail
    go_ret
    exact ⟨rfl, hw1⟩
  | false =>
    have hgs' := hgs rfl
    have hlen := gsum_len (pcs l)
    rw [pcs_length] at hlen
    have hl300 : l.length ≤ 300000 := by omega
    have hl1 := hl.below hw1
    clear hgs hgs' hlen
    go_upto_region 5 with (first
      | (go_at_call 10; refine (live_any _).mono ?_; rintro e w2 ⟨rfl, hw2⟩)
      | fail)
    have hB := hw1.trans (hw2.mono hw1.size)
    have hl2 := hl1.below hw2
    clear hw1 hw2 hl1 hl
    have hLn := Klent_any _ l w2 hl2 (by omega) hb
    go_upto_region 6 with (first
      | (go_at_call 12; (with_reducible refine hLn.mono ?_); rintro e w3 ⟨G, ps, rfl, hps, hS3⟩)
      | fail)
    clear hLn
    have hpl := pcs_lentL3 hps
    have hll := lentL3_length hps
    rw [pcs_length] at hll
    have hr3 := hS3.lent3_rd (G := G) (by simp) (fun E hE => by simp [hE]) hps (pcs_length l) (by omega) hl2.rngP
    have hE := KEncZ kind _ _ P hPr w3 hr3 (by rw [hll]; omega)
    rw [hpl] at hE
    have HPS := Lib.hid hps
    have HPL := Lib.hid hpl
    have HLL := Lib.hid hll
    clear hps hpl hr3 hll
    go_upto_region 7 with (first
      | (go_at_call 16; (with_reducible refine hE.mono ?_); rintro e w4 ⟨va, rfl, ho, hw4⟩)
      | fail)
    have hS4 := hS3.bytes hw4 ho (Nat.le_refl _)
    clear hE hS3 hw4 ho
    have hE := RKEncZ kind _ l P w4 (hS4.rdC7 (v := w2) (by simp) hl2) (by omega)
    go_upto_region 8 with (first
      | (go_at_call 17; (with_reducible refine hE.mono ?_); rintro e w5 ⟨vw, rfl, ho, hw5⟩)
      | fail)
    have hS5 := hS4.bytes hw5 ho (Nat.le_refl _)
    clear hE hS4 hw5 ho
    have hE := KEncZ kind _ _ P hPr w5 (hS5.lent3_rd (G := G) (by simp) (fun E hE => by simp [hE]) HPS.out (pcs_length l) (by omega) hl2.rngP) (by rw [HLL.out]; omega)
    rw [HPL.out] at hE
    go_upto_region 9 with (first
      | (go_at_call 16; (with_reducible refine hE.mono ?_); rintro e w6 ⟨vb, rfl, ho, hw6⟩)
      | fail)
    have hS6 := hS5.bytes hw6 ho (Nat.le_refl _)
    clear hE hS5 hw6 ho
    have HLE := Lib.hid (encKL_length kind (pcs l) P)
    generalize hEL : encKL kind (pcs l) P = EL at *
    generalize hEZ : encKZ kind (pcs l) P = EZ at *
    have hxb : OwB w6 0 vb EL := hS6.head
    have hxw : OwB w6 0 vw EL := hS6.tail.head
    have hxa : OwB w6 0 va EL := hS6.tail.tail.head
    have hs1 := Same_any va vw EL EL w6 hxa.rd hxw.rd
    have hs2 := Same_any vb vw EL EL w6 hxb.rd hxw.rd
    have hqq : (EL == EL) = true := by simp
    rw [hqq] at hs1 hs2
    clear hxb hxw hxa hqq
    go_upto_region 10 with (first
      | (go_at_call 18; (with_reducible refine hs1.mono ?_); rintro e w7 ⟨rfl, rfl⟩)
      | fail)
    go_upto_region 11 with (first
      | (go_at_call 18; (with_reducible refine hs2.mono ?_); rintro e w7 ⟨rfl, rfl⟩)
      | fail)
    clear hs1 hs2
    have hS7 : Sep w2 _ (blkE G 50 (flatC (lentL3 ps (pcs l) ++ [markCV (-7), markCV (-8)])) :: (lent3E ps (pcs l) ++ [bytesE va EL, bytesE vb EL, bytesE vw EL, oldE w2])) := hS6.perm (by
      have e : bytesE vb EL :: bytesE vw EL :: bytesE va EL :: blkE G 50 (flatC (lentL3 ps (pcs l) ++ [markCV (-7), markCV (-8)])) :: (lent3E ps (pcs l) ++ [oldE w2]) = [bytesE vb EL, bytesE vw EL, bytesE va EL] ++ (blkE G 50 (flatC (lentL3 ps (pcs l) ++ [markCV (-7), markCV (-8)])) :: (lent3E ps (pcs l) ++ [oldE w2])) := rfl
      rw [e]
      refine List.perm_middle.trans (List.Perm.cons _ ?_)
      refine (List.perm_append_comm_assoc _ _ _).trans (List.Perm.append_left _ ?_)
      exact ((List.perm_middle (l₁ := [bytesE vb EL, bytesE vw EL])).trans (List.Perm.refl _)).trans (List.Perm.refl _))
    clear hS6
    have hA := KasLent_sep hS7 (w5 := w2) (by simp) hl2 HPS.out (by omega) hb
    go_upto_region 12 with (first
      | (go_at_call 15; (with_reducible refine hA.mono ?_); rintro e w8 ⟨rfl, hS8⟩)
      | fail)
    clear hA hS7
    have hS9 := hS8.book
    go_upto_region 13 with (fail)
    generalize hwb : w8.alloc (.cells #[.slice none 0 0] 37) = w9 at *
    generalize w8.heap.size = bb at *
    clear hwb hS8
    have hT := Take_sep hS9 (by simp)
    go_upto_region 14 with (first
      | (go_at_call 19; (with_reducible refine hT.mono ?_); rintro e w10 ⟨⟨_, rfl⟩, _, hS10⟩)
      | fail)
    clear hT hS9
    have hT := Take_sep hS10 (by simp)
    go_upto_region 15 with (first
      | (go_at_call 19; (with_reducible refine hT.mono ?_); rintro e w11 ⟨⟨_, rfl⟩, _, hS11⟩)
      | fail)
    clear hT hS10
    have hO := Owned_sep hS11 (by simp) (fun p hp => by
      simp at hp
      have := HLE.out
      rcases hp with rfl | rfl <;> simp only <;> omega)
    go_upto_region 16 with (first
      | (go_at_call 20; (with_reducible refine hO.mono ?_); rintro e w12 ⟨rfl, hS12⟩)
      | fail)
    clear hO hS11
    have hE := KEncZ kind _ l P hPr w12 (hS12.rdC7 (v := w2) (by simp) hl2) (by omega)
    rw [hEL, hEZ] at hE
    go_upto_region 17 with (first
      | (go_at_call 16; (with_reducible refine hE.mono ?_); rintro e w13 ⟨vl, rfl, ho, hw13⟩)
      | fail)
    have hS13 := hS12.bytes hw13 ho (Nat.le_refl _)
    clear hE hS12 hw13 ho
    have hxl : OwB w13 0 vl EL := hS13.head
    have hxw : OwB w13 0 vw EL := hS13.tail.head
    have hs1 := Same_any vl vw EL EL w13 hxl.rd hxw.rd
    have hqq : (EL == EL) = true := by simp
    rw [hqq] at hs1
    have hqz : (EZ == EZ) = true := beq_self_eq_true _
    have HS13 := Lib.hid hS13
    clear hxl hxw hqq hS13 hEL hEZ
    go_wp2_with (first
      | (go_at_call 18; (with_reducible refine hs1.mono ?_); rintro e w14 ⟨rfl, rfl⟩)
      | fail)
    go_ret
    exact ⟨rfl, hB.trans ((HS13.out.belowOld (v := w2) (by simp)).mono hB.size)⟩
end Go.Proofs.Ytaniabhajngdeaa

-- The row's last step from 'Below' alone (the guide's small lemma 9).
namespace Go.Proofs.Ytaniabhajngdeaa
open Go.RowKit Go.WideShapes Go.ChangeShapes
section
variable {H : Type} {enc : TypeId × Value → H} {P : Program}
theorem post_of_below {f : Func} {s : ChangeSpec} {apart fresh handsOn again : Bool} {W W' : World} {args : Array Value} {v : Value} {ds gs : List (DataW H)} {before pa pv : List MemPlace}
    (hW : DataW.Whole enc P f.params.toList s.vars apart W args.toList ds gs before)
    (hres : ∀ (b : Nat) (sp : Nat → Bool) (hd : Bool), DataW.TrodAll enc P W' b sp hd f.resultTypes.toList (v.resultList f.resultTypes.size) (s.fn H (ds ++ gs)).results [])
    (hargs : ∀ sp : Nat → Bool, (∀ p ∈ before, sp p.block = true) → DataW.TrodAll enc P W' 0 sp true f.params.toList args.toList (s.fn H (ds ++ gs)).args pa)
    (hvars : ∀ sp : Nat → Bool, (∀ p ∈ before, sp p.block = true) → DataW.TrodVars enc P W' sp s.vars (s.fn H (ds ++ gs)).vars pv)
    (hps : before = pa ++ pv) (hb : Below W.heap.size W W')
    (hok : ∀ (j : Nat) (t : TypeId) (r : Value), f.resultTypes[j]? = some t → (v.resultList f.resultTypes.size)[j]? = some r → Value.okWide P W' .any 0 t r) :
    s.post enc P f apart fresh handsOn again W args v W' := by
  have hlt : ∀ p ∈ before, p.block < W.heap.size := fun p hp => hW.lt p hp
  have hold : ∀ p ∈ before, (fun b => decide (b < W.heap.size)) p.block = true := fun p hp => by simpa using hlt p hp
  refine ⟨ds, gs, before, [], pa, pv, hW, hres _ _ _, hargs _ hold, hvars _ hold, World.keptBut_mono (fun p hp => ⟨hp, ?_⟩) (hb.frame (· ∈ before)), fun _ => ?_⟩
  · rw [hps, List.mem_append] at hp
    exact Or.inr hp
  · obtain ⟨_, _, _, _, _, hz, hn⟩ := hW
    refine ⟨hok, _, _, ([] ++ pa) ++ pv, ⟨[] ++ pa, pv, trodAll_append (hargs _ (fun _ _ => rfl)) (hres _ _ _), hvars _ (fun _ _ => rfl), rfl, ?_, ?_⟩, ?_⟩
    · intro b off hp
      have hin : MemPlace.cell b off ∈ before := by rw [hps]; simpa using hp
      rw [hb.frozen (hlt _ hin)]
      exact hz b off hin
    · intro ha
      have := hn ha
      rw [hps] at this
      simpa using this
    · intro p hp _
      rw [hps]
      simpa using hp
end
end Go.Proofs.Ytaniabhajngdeaa

-- A law that returns true and changes nothing below: from its walk to the row's own form.
namespace Go.Proofs.Ytaniabhajngdeaa
open Go.RowKit Go.WideShapes Go.ChangeShapes Go.Joins
section
variable {H : Type} {enc : TypeId × Value → H} {P : Program}
theorem trodAll_stays (hl : laidOutB P = true) {W W' : World} {sp' : Nat → Bool} : ∀ {ts : List TypeId} {vs : List Value} {ds : List (DataW H)} {ps : List MemPlace}, (ts.all fun t => P.readableRec t && decide (t < P.types.size)) = true →
    DataW.TrodAll enc P W 0 (fun _ => true) true ts vs ds ps → (∀ p ∈ ps, W.sameAt W' p) → (∀ p ∈ ps, sp' p.block = true) → DataW.TrodAll enc P W' 0 sp' true ts vs ds ps
  | [], [], [], _, _, h, _, _ => h
  | t :: ts, _ :: _, _ :: _, _, hr, ⟨p, q, h1, h2, e⟩, hk, hs => by
    simp only [List.all_cons, Bool.and_eq_true, decide_eq_true_eq] at hr
    obtain ⟨⟨hr1, hr2⟩, hr3⟩ := hr
    exact ⟨p, q, WideElems.Trod_stays hl hr1 hr2 h1 (fun x hx => hk x (by rw [e]; exact List.mem_append_left _ hx)) (fun x hx => hs x (by rw [e]; exact List.mem_append_left _ hx)),
      trodAll_stays hl hr3 h2 (fun x hx => hk x (by rw [e]; exact List.mem_append_right _ hx)) (fun x hx => hs x (by rw [e]; exact List.mem_append_right _ hx)), e⟩
theorem trodAll_len {w : World} {base : Nat} {spare : Nat → Bool} {held : Bool} : ∀ {ts : List TypeId} {vs : List Value} {ds : List (DataW H)} {ps : List MemPlace}, DataW.TrodAll enc P w base spare held ts vs ds ps → ds.length = ts.length
  | [], [], [], _, _ => rfl
  | _ :: _, _ :: _, _ :: _, _, ⟨_, _, _, h2, _⟩ => by simp [trodAll_len h2]
theorem law_post {fn : Func} {s : ChangeSpec} {tb : TypeId} {W W' : World} {args : Array Value} {ds gs : List (DataW H)} {before : List MemPlace} (hvars : s.vars = []) (hrt : fn.resultTypes = #[tb]) (htb : P.underlying tb = some .bool) (hl : laidOutB P = true)
    (hr : (fn.params.toList.all fun t => P.readableRec t && decide (t < P.types.size)) = true) (hs : ∀ ds : List (DataW H), ds.length = fn.params.size → s.fn H ds = { results := [.lit (.bool true)], args := ds })
    (hW : DataW.Whole enc P fn.params.toList s.vars false W args.toList ds gs before) (hb : Below W.heap.size W W') : s.post enc P fn false true false false W args (.bool true) W' := by
  have hW' := hW
  obtain ⟨p, q, hA, hV, rfl, hfz, hnd⟩ := hW
  rw [hvars] at hV
  obtain ⟨rfl, rfl⟩ := trodVars_none hV
  have hlen : ds.length = fn.params.size := by simpa using trodAll_len hA
  have hfn := hs ds hlen
  have hlt : ∀ x ∈ p, x.block < W.heap.size := fun x hx => hW'.lt x (List.mem_append_left _ hx)
  refine post_of_below (pa := p) (pv := []) hW' ?_ ?_ ?_ (by simp) hb (ok_one hrt rfl (okWide_bool_mk htb _))
  · intro b sp hd
    rw [List.append_nil, hfn, hrt]
    exact trodAll_cons_mk (shut_bool htb _) trodAll_mk0
  · intro sp hsp
    rw [List.append_nil, hfn]
    exact trodAll_stays hl hr hA (fun x hx => hb.same (hlt x hx)) (fun x hx => hsp x (List.mem_append_left _ hx))
  · intro sp _
    rw [List.append_nil, hfn, hvars]
    exact (rfl : DataW.TrodVars enc P W' sp [] [] [])
end
theorem law_lifts {H : Type} {enc : TypeId × Value → H} {C : Checked} {os : Os} {fno : FuncId} {fn : Func} {s : ChangeSpec} {conds : List PathCond} {tb : TypeId}
    (own : ownKnob C.prog.godebug = none) (started : os.Started) (noInit : C.prog.inits.idxOf? fno = none) (hfn : C.prog.funcs[fno]? = some fn)
    (witness : ∃ (w : World) (tape : Tape) (i : Input), w.os = os ∧ (w.forCall tape i).Shaped C.prog ∧ i.vars = [] ∧ Input.okWide C.prog (w.forCall tape i) .any w.heap.size fno i ∧
      s.pre6 enc C.prog fn conds false (w.forCall tape i).memory i.args ∧ ({} : Assume).holds C.prog (lone (Frame.enter C.prog fno i.args .normal) [] (w.forCall tape i)))
    (hvars : s.vars = []) (hrt : fn.resultTypes = #[tb]) (htb : C.prog.underlying tb = some .bool) (hl : laidOutB C.prog = true)
    (hr : (fn.params.toList.all fun t => C.prog.readableRec t && decide (t < C.prog.types.size)) = true) (hs : ∀ ds : List (DataW H), ds.length = fn.params.size → s.fn H ds = { results := [.lit (.bool true)], args := ds })
    (walk : ∀ (W : World) (base : Nat) (args : Array Value) (ds : List (DataW H)) (p : List MemPlace), (∀ (j : Nat) t v, fn.params[j]? = some t → args[j]? = some v → Value.okWide C.prog W .any base t v) →
      DataW.TrodAll enc C.prog W 0 (fun _ => true) true fn.params.toList args.toList ds p → (DataW.weightsEach C.prog fn.params.toList ds).all (· ≤ reachBytes) = true →
      Calls C.prog fno args W fun e W' => e = .returned (.bool true) ∧ Below W.heap.size W W') :
    ReturnsInHanded {} C os fno .any (s.pre6 enc C.prog fn conds false) (s.post enc C.prog fn false true false false) := by
  refine returnsInHanded_of_change_sized own started noInit hfn witness ?_
  intro W base args ds gs before hval hW _ hsz _
  have hW' := hW
  obtain ⟨p, q, hA, hV, _, _, _⟩ := hW
  rw [hvars] at hV
  obtain ⟨rfl, rfl⟩ := trodVars_none hV
  have hv : s.plain.varTypes C.prog = [] := by
    unfold ChangeSpec.plain DataSpec.varTypes
    simp [hvars]
  rw [hv, List.append_nil, List.append_nil] at hsz
  refine (walk W base args ds p hval hA hsz).mono fun e W' h => ?_
  obtain ⟨rfl, hb⟩ := h
  exact ⟨_, rfl, law_post hvars hrt htb hl hr hs hW' hb⟩
section
variable {H : Type} {enc : TypeId × Value → H} {W : World}
theorem cells_u8 : Try.prog.cellsOf 5 = 1 := by kernel_rfl
theorem bytes_u8 : Try.prog.bytesOf 5 = 1 := by kernel_rfl
set_option maxRecDepth 100000 in
/-- An argument of type []byte. -/
theorem open_bytes {base : Nat} {v : Value} {d : DataW H} {p : List MemPlace} {ts : List TypeId} {ds : List (DataW H)} {j : Nat} (hv : Value.okWide Try.prog W .any base 29 v) (h : DataW.Trod enc Try.prog W 0 (fun _ => true) true 29 v d p)
    (hsz : (DataW.weightsEach Try.prog ts ds).all (· ≤ reachBytes) = true) (ht : ts[j]? = some 29) (hd : ds[j]? = some d) :
    ∃ l : List UInt8, RdB W v l ∧ l.length ≤ 140737488351232 := by
  obtain ⟨a0, len, cap, rfl⟩ := okWide_slice Try.underlying29 hv
  obtain ⟨fuel, hf⟩ := h
  rcases open_ints Try.underlying29 Try.underlying5 cells_u8 hf with ⟨hcs, _⟩ | ⟨a, len', cap', zs, hcs, _, hl, hm, hz, hx, hcell, hwz⟩
  · simp [Value.cells] at hcs
    obtain ⟨rfl, rfl, rfl⟩ := hcs
    exact ⟨[], RdB.nil, by simp⟩
  · simp [Value.cells] at hcs
    obtain ⟨rfl, rfl, rfl⟩ := hcs
    simp only [if_true] at hz
    simp only [Prod.mk.injEq] at hx
    obtain ⟨rfl, _⟩ := hx
    have hs := sized_slice hsz ht hd Try.underlying29
    rw [bytes_u8] at hs
    simp only [lits, List.length_map, List.length_take, List.length_drop, reachBytes] at hs
    refine ⟨(zs.take len).map fun z => UInt8.ofNat z.toNat, ?_, by simp; omega⟩
    have hlen : ((zs.take len).map fun z => UInt8.ofNat z.toNat).length = len := by simp; omega
    refine ⟨some a, cap, by rw [hlen], by rw [hlen]; exact hl, hm, fun j hj => ⟨a, rfl, ?_⟩⟩
    rw [hlen] at hj
    rw [hcell j (by omega)]
    have hjz : j < zs.length := by omega
    have hmem : zs[j] ∈ zs := List.getElem_mem hjz
    have hw := hwz _ hmem
    have hg : zs.getD j 0 = zs[j] := by simp [List.getD, hjz]
    rw [hg]
    simp [Lit.wf, IntKind.min, IntKind.max, IntKind.signed, IntKind.bits] at hw
    simp
    omega
end
end Go.Proofs.Ytaniabhajngdeaa
