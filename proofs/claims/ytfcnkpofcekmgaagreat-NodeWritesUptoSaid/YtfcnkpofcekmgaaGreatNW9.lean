/- Texts joined: espalierref03.IsPage; espalierref01.SumOf; espalierref06.Encode; Encode of both sides, told alike.; Uint and ReadUint; ink.Uint, espalierref01.Uint; ink.common -/
import Derived.Test.YtfcnkpofcekmgaaGreatNW1
import Derived.Test.YtfcnkpofcekmgaaGreatNW2
import Derived.Test.YtfcnkpofcekmgaaGreatNW3
import Derived.Test.YtfcnkpofcekmgaaGreatNW4
import Derived.Test.YtfcnkpofcekmgaaGreatNW7
import Derived.Test.YtfcnkpofcekmgaaGreatNW8
import Derived.Laws.Cover1
import Derived.Laws.Entries
import Derived.Laws.Externs
import Derived.Deep.RegionHeld3
import Derived.Deep.DeepCutAuto
-- espalierref03.IsPage: the walk.
namespace Go.Proofs.YtfcnkpofcekmgaaGreat
open Go.RowKit
set_option maxRecDepth 20000 in
set_option maxHeartbeats 2000000 in
theorem IsPage_any (p : Int) (w : World) : Calls Tryz.prog 107 #[.int .i64 p] w fun e w' => e = .returned (.bool (isPowB p)) ∧ w = w' := by
  go_enter Tryz.func107, Tryz.ntmps107
  go_wp2_with fail
  go_loopw [3] (fun i wr => ∃ j : Nat, j ≤ 8 ∧ i = .int .i64 (pw j) ∧ Hid (∀ k, k < j → p ≠ pw k) ∧ w = wr) (fun i _ => (131072 - intOf i).toNat)
  case atStart => exact ⟨0, by omega, rfl, Lib.hid (by omega), rfl⟩
  case round =>
    obtain ⟨j, hj, rfl, HN, rfl⟩ := hrel
    rcases (by omega : j = 8 ∨ j < 8) with rfl | hlt
    · have HV := Lib.hid (show isPowB p = false from decide_eq_false fun h => by
        obtain ⟨k, hk, e⟩ := (isPow_pw p).1 h
        exact HN.out k hk e)
      have e8 : pw 8 = 131072 := by decide
      rw [e8]
      go_wp2_with fail
      go_ret
      rw [HV.out]
      exact ⟨rfl, rfl⟩
    · have hb : 512 ≤ pw j ∧ pw j ≤ 65536 ∧ pw (j + 1) = 2 * pw j := by
        rcases (by omega : j = 0 ∨ j = 1 ∨ j = 2 ∨ j = 3 ∨ j = 4 ∨ j = 5 ∨ j = 6 ∨ j = 7) with rfl | rfl | rfl | rfl | rfl | rfl | rfl | rfl <;> decide
      obtain ⟨h1, h2, h3⟩ := hb
      by_cases hp : p = pw j
      · have HV := Lib.hid (show isPowB p = true from decide_eq_true ((isPow_pw p).2 ⟨j, hlt, hp⟩))
        have hb : (pw j == p) = true := by simp [hp]
        clear hp h3
        generalize pw j = x at *
        go_wp2_with fail
        go_ret
        rw [HV.out]
        exact ⟨rfl, rfl⟩
      · have HN2 := Lib.hid (show ∀ k, k < j + 1 → p ≠ pw k from fun k hk => by
          rcases (by omega : k < j ∨ k = j) with h | rfl
          · exact HN.out k h
          · exact hp)
        have hb : (pw j == p) = false := by
          rw [Bool.eq_false_iff]
          simp only [ne_eq, beq_iff_eq]
          exact fun e => hp e.symm
        have H3 := Lib.hid h3
        clear hp h3
        generalize hx : pw j = x at *
        clear hx
        go_wp2_with fail
        go_roundw
        case rel => exact ⟨j + 1, by omega, by rw [H3.out], HN2, trivial⟩
        case measure => simp [intOf]; omega
end Go.Proofs.YtfcnkpofcekmgaaGreat

-- espalierref01.SumOf: the walk.
namespace Go.Proofs.YtfcnkpofcekmgaaGreat
open Go.RowKit
set_option maxHeartbeats 400000 in
theorem SumOf_any (v : Value) (l : List UInt8) (w : World) (hv : RdB w v l) :
    Calls Tryz.prog 119 #[v] w fun e w' => e = .returned (.int .u32 (sumF l : Nat)) ∧ w = w' := by
  obtain ⟨A, c, rfl, hm⟩ := hv.form
  go_enter Tryz.func119, Tryz.ntmps119
  go_wp2
  go_loop [3, 4] (fun q i => ∃ j : Nat, i = .int .i64 (j : Int) ∧ j ≤ l.length ∧ q = .int .u32 (crcF 4294967295 (l.take j) : Nat)) (fun _ i => l.length - (intOf i).toNat)
  case atStart => exact ⟨0, rfl, by omega, rfl⟩
  case round =>
    obtain ⟨j, rfl, hj, rfl⟩ := hrel
    by_cases hlt : j < l.length
    · obtain ⟨ad, rfl, hcell⟩ := hv.at_ hlt
      have hq : crcF 4294967295 (l.take j) < 4294967296 := crcF_lt _ _ (by omega)
      have hs : crcF 4294967295 (l.take (j + 1)) = crcByte (crcF 4294967295 (l.take j)) l[j] := by
        rw [List.take_succ_eq_append_getElem hlt, crcF_snoc]
      have HS := Lib.hid hs
      clear hs
      generalize l[j] = x at *
      generalize crcF 4294967295 (l.take j) = q at *
      go_wp2_with (go_at_call 160; refine (step_any q hq x _).mono ?_; rintro e w' ⟨rfl, rfl⟩)
      go_round
      case rel => exact ⟨j + 1, by go_num, by omega, by rw [HS.out]⟩
      case measure => simp [intOf]; omega
    · obtain rfl : j = l.length := by omega
      rw [List.take_length]
      have hr0 : crcF 4294967295 l < 4294967296 := crcF_lt _ _ (by omega)
      have hn : bits .xor .u32 (crcF 4294967295 l : Nat) 4294967295 = (sumF l : Nat) := u32_xor_nat _ 4294967295 hr0 (by omega)
      go_wp2
      go_ret
      exact ⟨rfl, rfl⟩
end Go.Proofs.YtfcnkpofcekmgaaGreat

-- espalierref06.Encode: the walk.
namespace Go.Proofs.YtfcnkpofcekmgaaGreat
open Go.RowKit
def REncAt (w : World) (kind : Int) (l : List PC) (P : Int) (e : Ending) (w' : World) : Prop :=
  Below w.heap.size w w' ∧ ((isKindB kind && isPowB P) = false ∧ e = .returned (.tuple #[.slice none 0 0, .int .i64 1]) ∨
    (isKindB kind && isPowB P) = true ∧ ((encE kind l P.toNat ≠ 0 ∧ e = .returned (.tuple #[.slice none 0 0, .int .i64 (encE kind l P.toNat)])) ∨
      (encE kind l P.toNat = 0 ∧ ∃ v, e = .returned (.tuple #[v, .int .i64 0]) ∧ OwB w' w.heap.size v (laidF kind l P.toNat))))
def slnE : Value → Nat
  | .slice _ n _ => n
  | _ => 0
theorem strE {w : World} {v : Value} {l : List UInt8} (h : RdB w v l) (n : Nat) : (convert 41 9 v).run Tryz.prog (w.drewN n) = .ok (.string ⟨l.toArray⟩) (w.drewN n) :=
  run_B_string (w := w.drewN n) h
theorem belowE {B : Nat} {w w' : World} (h : Below B w w') : ∀ n, Below B w (w'.drewN n)
  | 0 => h
  | n + 1 => (belowE h n).drew
set_option maxRecDepth 20000 in
theorem RIsKind_any (k : Int) (w : World) : Calls Tryz.prog 114 #[.int .i64 k] w fun e w' => e = .returned (.bool (isKindB k)) ∧ w = w' := by
  by_cases h1 : k = 2
  · subst h1
    go_enter Tryz.func114, Tryz.ntmps114
    go_wp2_with fail
    go_ret
    exact ⟨rfl, rfl⟩
  · have e1 : (k == 2) = false := beq_eq_false_iff_ne.2 h1
    by_cases h2 : k = 3
    · subst h2
      go_enter Tryz.func114, Tryz.ntmps114
      go_wp2_with fail
      go_ret
      exact ⟨rfl, rfl⟩
    · have e2 : (k == 3) = false := beq_eq_false_iff_ne.2 h2
      have HK : Hid (isKindB k = false) := by show _ = _; unfold isKindB; exact decide_eq_false (by omega)
      clear h1 h2
      go_enter Tryz.func114, Tryz.ntmps114
      go_wp2_with fail
      go_ret
      rw [HK.out]
      exact ⟨rfl, rfl⟩
set_option maxRecDepth 100000 in
set_option maxHeartbeats 8000000 in
theorem REncode_any (kind : Int) (v : Value) (l : List CV) (P : Int) (w : World) (hl : RdCs w v l) (hn : l.length ≤ 2000000000000) :
    Calls Tryz.prog 63 #[.int .i64 kind, v, .int .i64 P] w (REncAt w kind (pcs l) P) := by
  obtain ⟨A, c, rfl, hm, hc⟩ := hl.slice
  have hKi := fun W => RIsKind_any kind W
  have hPa := fun W => IsPage_any P W
  cases hp : isPowB P with
  | false =>
    have HK : Hid ((isKindB kind && isPowB P) = false) := by show _ = _; rw [hp, Bool.and_false]
    rw [hp] at hPa
    clear hp
    go_enter Tryz.func63, Tryz.ntmps63
    go_wp2_with (first | (go_at_call 107; refine (hPa _).mono ?_; rintro e w1 ⟨rfl, rfl⟩) | fail)
    go_ret2
    exact ⟨Below.refl _ _, .inl ⟨HK.out, rfl⟩⟩
  | true =>
    cases hk : isKindB kind with
    | false =>
      have HK : Hid ((isKindB kind && isPowB P) = false) := by show _ = _; rw [hk]; rfl
      rw [hk] at hKi
      rw [hp] at hPa
      clear hk hp
      go_enter Tryz.func63, Tryz.ntmps63
      go_wp2_with (first | (go_at_call 107; refine (hPa _).mono ?_; rintro e w1 ⟨rfl, rfl⟩) | (go_at_call 114; refine (hKi _).mono ?_; rintro e w1 ⟨rfl, rfl⟩) | fail)
      go_ret2
      exact ⟨Below.refl _ _, .inl ⟨HK.out, rfl⟩⟩
    | true =>
      have HK : Hid ((isKindB kind && isPowB P) = true) := by show _ = _; rw [hk, hp]; rfl
      have HKD := Lib.hid hk
      obtain ⟨hP1, hP2⟩ := isPowB_range hp
      rw [hk] at hKi
      rw [hp] at hPa
      clear hp
      obtain ⟨Q, rfl⟩ : ∃ Q : Nat, P = (Q : Int) := ⟨P.toNat, by omega⟩
      unfold REncAt
      rw [show ((Q : Int)).toNat = Q from rfl]
      have hQ1 : 512 ≤ Q := by omega
      have hQ2 : Q ≤ 65536 := by omega
      have hkd : kind = 2 ∨ kind = 3 := of_decide_eq_true hk
      have HKI := Lib.hid hkd
      clear hk hkd
      go_enter Tryz.func63, Tryz.ntmps63
      go_wp2_with (first | (go_at_call 107; refine (hPa _).mono ?_; rintro e w1 ⟨rfl, rfl⟩) | (go_at_call 114; refine (hKi _).mono ?_; rintro e w1 ⟨rfl, rfl⟩) | fail)
      clear hKi hPa
      go_loopw [9] (fun i wr => ∃ k : Nat, k ≤ l.length ∧ i = .int .i64 (k : Int) ∧ Hid (scanE kind Q none (pcs l) = scanE kind Q (prevK (pcs l) k) ((pcs l).drop k)) ∧ Hid (∀ j (hj : j < k) (hjl : j < (pcs l).length), OkC Q (pcs l)[j]) ∧ Below w.heap.size w wr) (fun i _ => l.length - (intOf i).toNat)
      case atStart => exact ⟨0, Nat.zero_le _, rfl, Lib.hid rfl, Lib.hid (fun j hj => by omega), Below.refl _ _⟩
      case round =>
        obtain ⟨k, hk, rfl, HSC, HOK, hB⟩ := hrel
        by_cases hlt : k < l.length
        · have ik : (k : Int) < (l.length : Int) := by omega
          have hlp : k < (pcs l).length := by rw [pcs_length]; exact hlt
          have hst := scan_step (kind := kind) (P := Q) hlp
          have hpk := prevK_succ (pcs l) hlp
          rw [← HSC.out] at hst
          have hcx : ∀ c, (pcs l)[k] = c → Hid (mayP kind Q c = true → ∀ j (hj : j < k + 1) (hjl : j < (pcs l).length), OkC Q (pcs l)[j]) := fun c hc => Lib.hid (fun hmay j hj hjl => by
            by_cases e : j = k
            · subst e; rw [hc]; exact may_ok hmay
            · exact HOK.out j (by omega) hjl)
          rw [pcs_at hlt] at hst hpk
          have hcx := hcx _ (pcs_at hlt)
          obtain ⟨ad, rfl, c0, c1, c2, c3, c4⟩ := (hl.below hB).at_ hlt
          have hx := (hl.below hB).ok _ (List.getElem_mem hlt)
          have hprev : ∀ q, prevK (pcs l) k = some q → ∃ A0 a0, 0 < k ∧ RdB wr (.slice A0 q.length a0) q ∧ wr.cell? (ad.add ((k - 1) * 5)) = some (.slice A0 q.length a0) := fun q hq => by
            unfold prevK at hq
            split at hq
            · cases hq
            · have hk1 : k - 1 < l.length := by omega
              obtain ⟨_, ea, d0, _⟩ := (hl.below hB).at_ hk1
              cases ea
              have hxp := (hl.below hB).ok _ (List.getElem_mem hk1)
              have e1 : (pcs l).getD (k - 1) default = l[k - 1].c := by simp [List.getD, pcs, hk1]
              rw [e1] at hq
              injection hq with hq
              obtain ⟨A0, a0, he, _⟩ := hxp.k.form
              rw [he, hq] at d0
              have hk2 := hxp.k
              rw [he, hq] at hk2
              exact ⟨A0, a0, by omega, hk2, d0⟩
          have hx0 := hx
          generalize l[k] = x at *
          obtain ⟨A1, a1, B1, b1, key, ck, val, pg, ct, rfl, _, _⟩ := CV.form hx
          have hma := RMay_any kind Q HKI.out hQ2 _ wr hx
          have hxk : RdB wr (.slice A1 key.length a1) key := hx.k
          have hst' : scanE kind Q none (pcs l) = if mayP kind Q ⟨key, ck, val, pg, ct⟩ = false then 62 else if afterP (prevK (pcs l) k) key = false then 63 else scanE kind Q (prevK (pcs l) (k + 1)) ((pcs l).drop (k + 1)) := hst
          have HCX := Lib.hid hcx.out
          unfold cellV at hma
          rcases Bool.eq_false_or_eq_true (mayP kind Q ⟨key, ck, val, pg, ct⟩) with hmy | hmy
          · rw [if_neg (by rw [hmy]; simp)] at hst'
            have HCN := Lib.hid (HCX.out hmy)
            have hma' : Calls Tryz.prog 115 #[.int .i64 kind, .int .i64 (Q : Int), .agg #[.slice A1 key.length a1, .int .i64 ck, .slice B1 val.length b1, .int .i64 pg, .int .i64 ct]] wr fun e w' => e = .returned (.bool true) ∧ Below wr.heap.size wr w' := by
              rw [← hmy]; exact hma
            clear hma hmy hst hx hx0 hcx
            have HST0 := Lib.hid hst'
            have HPV := Lib.hid hprev
            have HPK0 := Lib.hid hpk
            clear hst' hprev hpk
            go_upto_region 9 with (first | (go_at_call 115; refine hma'.mono ?_; rintro e w2 ⟨rfl, hb2⟩) | fail)
            have hB2 := hB.trans (hb2.mono hB.size)
            have hst' := HST0.out
            have hprev := HPV.out
            have hpk := HPK0.out
            clear HST0 HPV HPK0
            by_cases hk0 : 0 < k
            · obtain ⟨kk, rfl⟩ : ∃ kk, k = kk + 1 := ⟨k - 1, by omega⟩
              obtain ⟨q, hq⟩ : ∃ q, prevK (pcs l) (kk + 1) = some q := ⟨_, prevK_succ (pcs l) (by rw [pcs_length]; omega)⟩
              obtain ⟨A0, a0, _, hqr, hqc⟩ := hprev q hq
              rw [hq] at hst'
              rw [show kk + 1 - 1 = kk by omega] at hqc
              have j1 : (0 : Int) ≤ (kk : Int) := by omega
              have j2 : (kk : Int) < (l.length : Int) := by omega
              have j3 : kk < l.length := by omega
              have j4 : IntKind.i64.wrap (kk : Int) = (kk : Int) := by rw [IntKind.wrap_i64]; omega
              have j5 : (0 : Int) < (kk : Int) + 1 := by omega
              have j6 : (0 : Int) ≤ (kk : Int) + 1 := by omega
              have j7 : (kk : Int) + 1 < (l.length : Int) := by omega
              have j8 : ((kk : Int) + 1).toNat = kk + 1 := by omega
              have j9 : IntKind.i64.wrap ((kk : Int) + 1) = (kk : Int) + 1 := by rw [IntKind.wrap_i64]; omega
              have j10 : kk + 1 < l.length := by omega
              have hst2 : scanE kind Q none (pcs l) = if decide (ordC q key < 0) = false then 63 else scanE kind Q (prevK (pcs l) (kk + 1 + 1)) ((pcs l).drop (kk + 1 + 1)) := hst'
              have HST := Lib.hid hst2
              have HPK := Lib.hid hpk
              have hbl0 := bytesLess_ord q key
              clear hst' hst2 hq hprev hpk
              have e1 : w2.cell? (ad.add (kk * 5)) = some (.slice A0 q.length a0) := (hb2.cell (World.block_lt_of_cell? wr _ hqc)).trans hqc
              have e2 : w2.cell? (ad.add ((kk + 1) * 5)) = some (.slice A1 key.length a1) := (hb2.cell (World.block_lt_of_cell? wr _ c0)).trans c0
              have hq2 := hqr.below hb2 (Nat.le_refl _)
              have hx2 := hxk.below hb2 (Nat.le_refl _)
              have s1 := fun n => strE hq2 n
              have s2 := fun n => strE hx2 n
              clear hma' hqc c0 c1 c2 c3 c4 hqr hxk hb2
              by_cases hoc : ordC q key < 0
              · have hbl : Op.bytesLess q key = true := by rw [hbl0]; exact decide_eq_true hoc
                have hsn : scanE kind Q none (pcs l) = scanE kind Q (prevK (pcs l) (kk + 1 + 1)) ((pcs l).drop (kk + 1 + 1)) := by rw [HST.out, if_neg (by simp [hoc])]
                have HSN := Lib.hid hsn
                clear hbl0 hoc hsn
                go_quiet (fail)
                go_wp2_with fail
                exact ⟨⟨kk + 1 + 1, by omega, by go_num, HSN, HCN, belowE hB2 _⟩, by simp [intOf]; omega⟩
              · have hbl : Op.bytesLess q key = false := by rw [hbl0]; exact decide_eq_false hoc
                have henc : encE kind (pcs l) Q = 63 := by
                  have := HST.out
                  rw [if_pos (by simp [hoc])] at this
                  unfold encE; rw [this]; rfl
                have HE := Lib.hid henc
                clear hbl0 hoc henc
                go_quiet (fail)
                go_wp2_with fail
                go_ret2
                rw [HE.out]
                exact ⟨belowE hB2 _, .inr ⟨HK.out, .inl ⟨by omega, rfl⟩⟩⟩
            · obtain rfl : k = 0 := by omega
              have e0 : afterP (prevK (pcs l) 0) key = true := rfl
              rw [e0, if_neg (by simp)] at hst'
              have HST := Lib.hid hst'
              clear hst' e0
              go_quiet (fail)
              go_wp2_with fail
              exact ⟨⟨1, by omega, rfl, HST, HCN, belowE hB2 _⟩, by simp [intOf]; omega⟩
          · have henc : encE kind (pcs l) Q = 62 := by
              rw [if_pos hmy] at hst'
              unfold encE; rw [hst']; rfl
            have HE := Lib.hid henc
            have hma' : Calls Tryz.prog 115 #[.int .i64 kind, .int .i64 (Q : Int), .agg #[.slice A1 key.length a1, .int .i64 ck, .slice B1 val.length b1, .int .i64 pg, .int .i64 ct]] wr fun e w' => e = .returned (.bool false) ∧ Below wr.heap.size wr w' := by
              rw [← hmy]; exact hma
            clear hma hst' hst hmy henc hx hx0 hcx
            go_wp2_with (first | (go_at_call 115; refine hma'.mono ?_; rintro e w2 ⟨rfl, hb2⟩) | fail)
            go_ret2
            rw [HE.out]
            exact ⟨hB.trans (hb2.mono hB.size), .inr ⟨HK.out, .inl ⟨by omega, rfl⟩⟩⟩
        · obtain rfl : k = l.length := by omega
          have hall : ∀ c ∈ pcs l, OkC Q c := fun c hc => by
            obtain ⟨j, hj, rfl⟩ := List.getElem_of_mem hc
            exact HOK.out j (by rw [pcs_length] at hj; exact hj) hj
          have hsc : scanE kind Q none (pcs l) = 0 := by
            rw [HSC.out, List.drop_of_length_le (by rw [pcs_length]; omega)]; rfl
          have hfit := fit_of hall hQ2 (by rw [pcs_length]; exact hn)
          obtain ⟨w1, rfl⟩ : ∃ w1, w1 = wr := ⟨_, rfl⟩
          have hsz := RSize_any kind _ l _ (hl.below hB) hfit
          have hS := hfit.1
          have hSe := sizeF_eq (pcs l)
          rw [pcs_length] at hSe
          have HALL := Lib.hid hall
          have HSCZ := Lib.hid hsc
          clear hall hfit hsc HSC HOK
          obtain ⟨S, hSS⟩ : ∃ S, sizeF (pcs l) = S := ⟨_, rfl⟩
          rw [hSS] at hsz hS hSe
          have HSS := Lib.hid hSS
          clear hSS
          by_cases hbig : Q < S
          · have henc : encE kind (pcs l) Q = 61 := by
              unfold encE
              rw [HSCZ.out, if_neg (by simp), if_pos (by rw [HSS.out]; exact hbig)]
            have HE := Lib.hid henc
            have ib : (Q : Int) < (S : Int) := by omega
            clear henc hSe
            go_wp2_with (first | (go_at_call 116; refine hsz.mono ?_; rintro e w2 ⟨rfl, hb2⟩) | fail)
            go_ret2
            rw [HE.out]
            exact ⟨hB.trans (hb2.mono hB.size), .inr ⟨HK.out, .inl ⟨by omega, rfl⟩⟩⟩
          · have henc : encE kind (pcs l) Q = 0 := by
              unfold encE
              rw [HSCZ.out, if_neg (by simp), if_neg (by rw [HSS.out]; exact hbig)]
            have HE := Lib.hid henc
            have hSQ : Hid (sizeF (pcs l) ≤ Q) := Lib.hid (by rw [HSS.out]; omega)
            obtain ⟨B, hBB⟩ : ∃ B, longsF (pcs l) = B := ⟨_, rfl⟩
            rw [hBB] at hSe
            have HBB := Lib.hid hBB
            have ib : ¬ ((Q : Int) < (S : Int)) := by omega
            have hLB : 8 + 2 * l.length + B ≤ Q := by omega
            clear henc hBB HSCZ HSS
            obtain ⟨kn, rfl⟩ := Int.eq_ofNat_of_zero_le (show 0 ≤ kind by have := HKI.out; omega)
            have kn4 : kn ≤ 4 := by have := HKI.out; omega
            have hkw : IntKind.u8.wrap (kn : Int) = (kn : Int) := by rw [IntKind.wrap_u8]; omega
            go_upto_region 13 with (first | (go_at_call 116; refine hsz.mono ?_; rintro e w2 ⟨rfl, hb2⟩) | fail)
            have hB2 := hB.trans (hb2.mono hB.size)
            clear hsz hb2 hSe hS ib hbig
            go_upto_region 14 with (fail)
            have hkn : (kn : Int) = ((UInt8.ofNat kn).toNat : Int) := by rw [UInt8.toNat_ofNat']; omega
            have ho1 : OwB (w2.alloc (.cells #[.int .u8 (kn : Int), .int .u8 1] 5)) w.heap.size (.slice (some ⟨w2.heap.size, 0, none⟩) 2 2) [UInt8.ofNat kn, 1] := by
              have h := (OBlk.new' w2 5 (bvs [UInt8.ofNat kn, 1])).owB' (base := w.heap.size) (m := [UInt8.ofNat kn, 1]) hB2.size (by simp [maxLen])
              have e : bvs [UInt8.ofNat kn, 1] = [Value.int .u8 (kn : Int), .int .u8 1] := by rw [hkn]; rfl
              rw [e] at h
              exact h
            have hb23 : Below w2.heap.size w2 (w2.alloc (.cells #[.int .u8 (kn : Int), .int .u8 1] 5)) := (Below.refl _ _).alloc (Nat.le_refl _) _
            have hB3 := hB2.trans (hb23.mono hB2.size)
            clear hkn hb23
            generalize w2.alloc (.cells #[.int .u8 (kn : Int), .int .u8 1] 5) = w3 at *
            generalize w2.heap.size = g1 at *
            have hwn : IntKind.u64.wrap (l.length : Int) = (l.length : Int) := IntWalk.u64_in _ (by omega)
            go_upto_region 15 with (first
              | (go_at_call 117; refine (RFixed_2 l.length (by omega) _).mono ?_; rintro e w4 ⟨v4, rfl, ho4, hb4⟩)
              | (at_builtin; refine wp_append_B rfl (.tmp 66) (.tmp 70) rfl w.heap.size _ _ rfl (ho1.below2 hb4) _ _ rfl ho4.rd (by simp [fixedF_length]) (Nat.le_trans hB3.size hb4.size) ?_; intro v5 w5 ho5 hg5 hk5)
              | fail)
            have hB4 := hB3.trans (hb4.mono hB3.size)
            have hB5 := hB4.grown hg5 hB4.size (fun k e => (Own.lt ho1 k e).1)
            have HH : Hid ([UInt8.ofNat kn, 1] ++ fixedF l.length 2 = headF (kn : Int) (pcs l).length) := Lib.hid (by rw [pcs_length]; rfl)
            rw [HH.out] at ho5
            have hl5 : (headF (kn : Int) (pcs l).length).length = 4 := headF_length _ _
            generalize hhd : headF (kn : Int) (pcs l).length = hd at *
            have HHD := Lib.hid hhd
            clear ho1 ho4 hb4 hg5 hk5 hB3 hB4 HH hhd hB2
            go_wp2_with fail
            go_loopw [11, 12] (fun a i wr => ∃ k : Nat, k ≤ l.length ∧ i = .int .i64 (k : Int) ∧ OwB wr w5.heap.size a (bodyF ((pcs l).take k)) ∧ Below w5.heap.size w5 wr) (fun _ i _ => l.length - (intOf i).toNat)
            case atStart => exact ⟨0, Nat.zero_le _, rfl, OwB.nil _ _, Below.refl _ _⟩
            case round =>
              obtain ⟨k, hk, rfl, hoa, hbr⟩ := hrel
              have hBr := hB5.trans (hbr.mono hB5.size)
              by_cases hlt : k < l.length
              · have ik : (k : Int) < (l.length : Int) := by omega
                have hbs : bodyF ((pcs l).take (k + 1)) = bodyF ((pcs l).take k) ++ cellF l[k].c := by
                  rw [List.take_succ_eq_append_getElem (by rw [pcs_length]; exact hlt), bodyF_append, pcs_at hlt]; simp [bodyF]
                have hbl : (bodyF ((pcs l).take k)).length + (cellF l[k].c).length ≤ B := by
                  rw [← HBB.out, ← List.length_append, ← hbs, bodyF_length]; have := longs_split (pcs l) (k + 1); omega
                obtain ⟨ad, rfl, c0, c1, c2, c3, c4⟩ := (hl.below hBr).at_ hlt
                have hx := (hl.below hBr).ok _ (List.getElem_mem hlt)
                have hok := HALL.out _ (show l[k].c ∈ pcs l by rw [← pcs_at hlt]; exact List.getElem_mem _)
                have hca := bytesOf_any Q hQ2 l[k] wr hx hok
                obtain ⟨cb, hcb⟩ : ∃ cb, cellF l[k].c = cb := ⟨_, rfl⟩
                rw [hcb] at hca hbs hbl
                generalize l[k] = x at *
                obtain ⟨A1, a1, B1, b1, key, ck, val, pg, ct, rfl, _, _⟩ := CV.form hx
                unfold cellV at hca
                have HBS := Lib.hid hbs
                clear hx hok hcb hbs
                generalize hbt : bodyF ((pcs l).take k) = bt at *
                clear hbt
                go_wp2_with (first
                  | (go_at_call 118; refine hca.mono ?_; rintro e w6 ⟨v6, rfl, ho6, hb6⟩)
                  | (at_builtin; refine wp_append_B rfl (.tmp 78) (.tmp 83) rfl w5.heap.size _ _ rfl (hoa.below2 hb6) _ _ rfl ho6.rd (by omega) (Nat.le_trans hbr.size hb6.size) ?_; intro v7 w7 ho7 hg7 hk7)
                  | fail)
                exact ⟨⟨k + 1, by omega, by go_num, by rw [HBS.out]; exact ho7, (hbr.trans (hb6.mono hbr.size)).grown hg7 (Nat.le_trans hbr.size hb6.size) (fun g e => (Own.lt hoa g e).1)⟩, by simp [intOf]; omega⟩
              · obtain rfl : k = l.length := by omega
                rw [List.take_of_length_le (by rw [pcs_length]; omega)] at hoa
                have hbl : (bodyF (pcs l)).length = B := by rw [bodyF_length]; exact HBB.out
                obtain ⟨bo, hbo⟩ : ∃ bo, bodyF (pcs l) = bo := ⟨_, rfl⟩
                rw [hbo] at hoa hbl
                have HBO := Lib.hid hbo
                obtain ⟨AA, ca, rfl⟩ := Own.slice hoa
                subst hbl
                obtain ⟨w6, rfl⟩ : ∃ w6, w6 = wr := ⟨_, rfl⟩
                have ho6 := ho5.below2 hbr
                have hne6 : ∀ g, (Value.slice AA bo.length ca).ownBlock = some g → some g ≠ Value.ownBlock _ := fun g e h => absurd (Own.lt ho5 g h.symm).2 (by have := (Own.lt hoa g e).1; omega)
                have hs65 := hbr.size
                clear ho5 hbo hbr
                have i1 : IntKind.i64.wrap ((Q : Int) - 4) = (Q : Int) - 4 := by rw [IntKind.wrap_i64]; omega
                have i2 : IntKind.i64.wrap ((Q : Int) - 4 - (bo.length : Int)) = (Q : Int) - 4 - (bo.length : Int) := by rw [IntKind.wrap_i64]; omega
                have HBase : (Q - 4 - bo.length) + 4 + bo.length = Q := by omega
                generalize hat : Q - 4 - bo.length = at0 at *
                have HAT : Hid (atF (pcs l) Q = at0) := Lib.hid (by unfold atF; rw [HBB.out]; exact hat)
                have i3 : (Q : Int) - 4 - (bo.length : Int) = (at0 : Int) := by omega
                rw [i3] at i2
                clear hat
                go_wp2_with fail
                go_loopw [10, 13, 14] (fun h at_ i wr => ∃ k : Nat, k ≤ l.length ∧ i = .int .i64 (k : Int) ∧ at_ = .int .i64 ((at0 + longsF ((pcs l).take k) : Nat) : Int) ∧ OwB wr w.heap.size h (hd ++ slotsF at0 ((pcs l).take k)) ∧ OwB wr w5.heap.size (.slice AA bo.length ca) bo ∧ Below w.heap.size w wr ∧ w5.heap.size ≤ wr.heap.size ∧ (∀ g, (Value.slice AA bo.length ca).ownBlock = some g → some g ≠ h.ownBlock)) (fun _ _ i _ => l.length - (intOf i).toNat)
                case atStart => exact ⟨0, Nat.zero_le _, rfl, rfl, by simpa [slotsF] using ho6, hoa, hBr, hs65, hne6⟩
                case round =>
                  obtain ⟨k, hk, rfl, rfl, hoh, hoa, hBr, hsz5, hne⟩ := hrel
                  by_cases hlt : k < l.length
                  · have ik : (k : Int) < (l.length : Int) := by omega
                    have hlp : k < (pcs l).length := by rw [pcs_length]; exact hlt
                    have hLS := longs_step (pcs l) hlp
                    have hSL : slotsF at0 ((pcs l).take (k + 1)) = slotsF at0 ((pcs l).take k) ++ fixedF (at0 + longsF ((pcs l).take k)) 2 := by
                      rw [List.take_succ_eq_append_getElem hlp, slotsF_append]; simp [slotsF]
                    have hLT := longs_split (pcs l) (k + 1)
                    rw [HBB.out] at hLT
                    have hsl : (hd ++ slotsF at0 ((pcs l).take k)).length = 4 + 2 * k := by
                      rw [List.length_append, slotsF_length, hl5, List.length_take, Nat.min_eq_left (by omega)]
                    rw [pcs_at hlt] at hLS
                    have hcl := cellF_length l[k].c
                    obtain ⟨ad, rfl, c0, c1, c2, c3, c4⟩ := (hl.below hBr).at_ hlt
                    have hx := (hl.below hBr).ok _ (List.getElem_mem hlt)
                    have hok := HALL.out _ (show l[k].c ∈ pcs l by rw [← pcs_at hlt]; exact List.getElem_mem _)
                    have HCE := Lib.hid (fun W (hb : Below w.heap.size w W) => (hl.below hb).at_ hlt)
                    have hca := fun W (hb : Below w.heap.size w W) => bytesOf_any Q hQ2 l[k] W ((hl.below hb).ok _ (List.getElem_mem hlt)) hok
                    obtain ⟨cb, hcb⟩ : ∃ cb, cellF l[k].c = cb := ⟨_, rfl⟩
                    rw [hcb] at hca hcl
                    generalize l[k] = x at *
                    obtain ⟨A1, a1, B1, b1, key, ck, val, pg, ct, rfl, _, _⟩ := CV.form hx
                    unfold cellV at hca
                    have HSL := Lib.hid hSL
                    rw [← hcl] at hLS
                    have HLS := Lib.hid hLS
                    have hlt2 : longsF ((pcs l).take k) + cb.length ≤ bo.length := by omega
                    clear hx hok hcb hcl hSL hLS hLT
                    generalize hlg : longsF ((pcs l).take k) = lg at *
                    generalize slotsF at0 ((pcs l).take k) = sl at *
                    have hlg' := hlg
                    clear hlg hlg'
                    have hw1 : IntKind.u64.wrap ((at0 + lg : Nat) : Int) = ((at0 + lg : Nat) : Int) := IntWalk.u64_in _ (by omega)
                    have hw2 : IntKind.i64.wrap ((at0 : Int) + (lg : Int) + (cb.length : Int)) = (at0 : Int) + (lg : Int) + (cb.length : Int) := by rw [IntKind.wrap_i64]; omega
                    go_upto_region 25 with (first
                      | (go_at_call 117; refine (RFixed_2 (at0 + lg) (by omega) _).mono ?_; rintro e w7 ⟨v7, rfl, ho7, hb7⟩)
                      | (at_builtin; refine wp_append_B rfl (.tmp 96) (.tmp 99) rfl w.heap.size _ _ rfl (hoh.below2 hb7) _ _ rfl ho7.rd (by rw [hsl, fixedF_length]; omega) (Nat.le_trans hBr.size hb7.size) ?_; intro v8 w8 ho8 hg8 hk8)
                      | fail)
                    have hoa7 := hoa.below2 hb7
                    have hoa8 := hoa7.grown hg8 hne
                    have hne8 : ∀ g, (Value.slice AA bo.length ca).ownBlock = some g → some g ≠ v8.ownBlock := fun g e h => by
                      rcases hk8 with h' | h'
                      · rw [h'] at h; exact hne g e h
                      · rw [h'] at h; have := (Own.lt hoa7 g e).2; injection h with h; omega
                    have hB8 := (hBr.trans (hb7.mono hBr.size)).grown hg8 (Nat.le_trans hBr.size hb7.size) (fun g e => (Own.lt hoh g e).1)
                    have hs8 : w5.heap.size ≤ w8.heap.size := Nat.le_trans hsz5 (Nat.le_trans hb7.size hg8.size)
                    obtain ⟨_, ea, d0, d1, d2, d3, d4⟩ := HCE.out w8 hB8
                    cases ea
                    have hca8 := hca _ hB8
                    clear hoh hoa hBr hsz5 hne ho7 hb7 hg8 hk8 hoa7 hca c0 c1 c2 c3 c4 hw1
                    go_wp2_with (first
                      | (go_at_call 118; refine hca8.mono ?_; rintro e w9 ⟨v9, rfl, ho9, hb9⟩; obtain ⟨A9, c9, rfl⟩ := Own.slice ho9)
                      | fail)
                    exact ⟨⟨k + 1, by omega, by go_num, by rw [HLS.out]; go_num, by rw [HSL.out, ← List.append_assoc]; exact ho8.below2 hb9, hoa8.below2 hb9, hB8.trans (hb9.mono hB8.size), Nat.le_trans hs8 hb9.size, hne8⟩, by simp [intOf]; omega⟩
                  · obtain rfl : k = l.length := by omega
                    rw [List.take_of_length_le (by rw [pcs_length]; omega)] at hoh
                    have hsl : (hd ++ slotsF at0 (pcs l)).length = 4 + 2 * l.length := by
                      rw [List.length_append, slotsF_length, hl5, pcs_length]
                    have hge : 4 + 2 * l.length ≤ at0 := by omega
                    have HPRE : Hid (∀ z, 4 + 2 * l.length + z = at0 → hd ++ slotsF at0 (pcs l) ++ List.replicate z 0 ++ bo = preF (kn : Int) (pcs l) Q) := Lib.hid (fun z hz => by
                      unfold preF
                      rw [HAT.out, HBO.out, HHD.out, pcs_length]
                      have hb := HBB.out
                      have hat := HAT.out
                      unfold atF at hat
                      rw [show Q - 4 - longsF (pcs l) - 4 - 2 * l.length = z by omega]
                      simp only [List.append_assoc])
                    generalize hd ++ slotsF at0 (pcs l) = H at *
                    obtain ⟨AH, cH, rfl⟩ := Own.slice hoh
                    obtain ⟨w7, rfl⟩ : ∃ w7, w7 = wr := ⟨_, rfl⟩
                    rw [hsl] at hoh hne
                    rw [hsl]
                    generalize ((at0 + longsF ((pcs l).take l.length) : Nat) : Int) = z13
                    go_wp2_with fail
                    go_loopw [15] (fun b wr => ∃ z : Nat, 4 + 2 * l.length + z ≤ at0 ∧ OwB wr w.heap.size b (H ++ List.replicate z 0) ∧ OwB wr w5.heap.size (.slice AA bo.length ca) bo ∧ Below w.heap.size w wr ∧ (∀ g, (Value.slice AA bo.length ca).ownBlock = some g → some g ≠ b.ownBlock)) (fun b _ => at0 - slnE b)
                    case atStart => exact ⟨0, by omega, by simpa using hoh, hoa, hBr, hne⟩
                    case round =>
                      clear hoh hoa hne
                      obtain ⟨z, hz, hob, hoa, hBw, hne⟩ := hrel
                      obtain ⟨Ab, cb, rfl⟩ := Own.slice hob
                      have hnl : (H ++ List.replicate z 0).length = 4 + 2 * l.length + z := by rw [List.length_append, hsl, List.length_replicate]
                      have HRZ : Hid (H ++ List.replicate (z + 1) 0 = H ++ List.replicate z 0 ++ [0]) := Lib.hid (by rw [List.replicate_succ', List.append_assoc])
                      have HPR := HPRE.out z
                      generalize H ++ List.replicate z 0 = bz at *
                      have HPR := Lib.hid HPR
                      obtain ⟨n, hn'⟩ : ∃ n, bz.length = n := ⟨_, rfl⟩
                      rw [hn'] at hob hne hnl
                      rw [hn']
                      have i4 : IntKind.i64.wrap ((n : Int) + (bo.length : Int)) = (n : Int) + (bo.length : Int) := by rw [IntKind.wrap_i64]; omega
                      by_cases hlt : n < at0
                      · have ilt : (n : Int) + (bo.length : Int) < (Q : Int) - 4 := by omega
                        have hn140 : bz.length + 1 ≤ 140737488355328 := by omega
                        clear HPR
                        go_wp2_with (first
                          | (at_builtin; refine wp_append_B1 rfl (.tmp 118) (.tmp 119) rfl w.heap.size _ _ rfl hob 0 _ rfl 5 rfl hn140 hBw.size ?_; intro v8 w8 ho8 hg8 hk8)
                          | fail)
                        have hne8 : ∀ g, (Value.slice AA bo.length ca).ownBlock = some g → some g ≠ v8.ownBlock := fun g e h => by
                          rcases hk8 with h' | h'
                          · rw [h'] at h; exact hne g e h
                          · rw [h'] at h; have := (Own.lt hoa g e).2; injection h with h; omega
                        obtain ⟨A8, c8, rfl⟩ := Own.slice ho8
                        have hl8 : (bz ++ [(0 : UInt8)]).length = n + 1 := by rw [List.length_append, hn']; rfl
                        exact ⟨⟨z + 1, by omega, by rw [HRZ.out]; exact ho8, hoa.grown hg8 hne, hBw.grown hg8 hBw.size (fun g e => (Own.lt hob g e).1), hne8⟩, by show at0 - (bz ++ [(0 : UInt8)]).length < at0 - n; rw [hl8]; omega⟩
                      · have ilt : ¬ ((n : Int) + (bo.length : Int) < (Q : Int) - 4) := by omega
                        have hpre := HPR.out (by omega)
                        have hsl4 : sumF (preF (kn : Int) (pcs l) Q) < 4294967296 := sumF_lt _
                        have hpl : (preF (kn : Int) (pcs l) Q).length = Q - 4 := preF_length hSQ.out
                        have HLD : Hid (laidF (kn : Int) (pcs l) Q = preF (kn : Int) (pcs l) Q ++ fixedF (sumF (preF (kn : Int) (pcs l) Q)) 4) := Lib.hid rfl
                        clear HPR HRZ
                        go_upto_region 30 with (first
                          | (at_builtin; refine wp_append_B rfl (.tmp 121) (.tmp 122) rfl w.heap.size _ _ rfl hob _ _ rfl hoa.rd (by omega) hBw.size ?_; intro v9 w9 ho9 hg9 hk9)
                          | fail)
                        have hB9 := hBw.grown hg9 hBw.size (fun g e => (Own.lt hob g e).1)
                        rw [hpre] at ho9
                        clear hob hoa hne hg9 hk9 hpre
                        generalize preF (kn : Int) (pcs l) Q = pre at *
                        obtain ⟨A9, c9, rfl⟩ := Own.slice ho9
                        have hso := SumOf_any _ pre w9 ho9.rd
                        have hpl2 : pre.length + 4 ≤ 140737488355328 := by omega
                        generalize hsm : sumF pre = sm at *
                        have hsw : IntKind.u64.wrap (sm : Int) = (sm : Int) := IntWalk.u64_in _ (by omega)
                        clear hpl hsm
                        go_wp2_with (first
                          | (go_at_call 119; refine hso.mono ?_; rintro e w10 ⟨rfl, rfl⟩)
                          | (go_at_call 117; refine (RFixed_4 sm (by omega) _).mono ?_; rintro e w10 ⟨v10, rfl, ho10, hb10⟩)
                          | (at_builtin; refine wp_append_B rfl (.tmp 126) (.tmp 129) rfl w.heap.size _ _ rfl (ho9.below2 hb10) _ _ rfl ho10.rd (by rw [fixedF_length]; omega) (Nat.le_trans hB9.size hb10.size) ?_; intro v11 w11 ho11 hg11 hk11)
                          | fail)
                        go_ret2
                        refine ⟨(hB9.trans (hb10.mono hB9.size)).grown hg11 (Nat.le_trans hB9.size hb10.size) (fun g e => (Own.lt ho9 g e).1), .inr ⟨HK.out, .inr ⟨HE.out, v11, rfl, ?_⟩⟩⟩
                        rw [HLD.out]
                        exact ho11
end Go.Proofs.YtfcnkpofcekmgaaGreat

-- Encode of both sides, told alike.
namespace Go.Proofs.YtfcnkpofcekmgaaGreat
open Go.RowKit
def encZ (kind : Int) (l : List PC) (P : Int) : Int := if (isKindB kind && isPowB P) = true then encE kind l P.toNat else 1
def encL (kind : Int) (l : List PC) (P : Int) : List UInt8 := if encZ kind l P = 0 then laidF kind l P.toNat else []
theorem encL_length (kind : Int) (l : List PC) (P : Int) : (encL kind l P).length ≤ 65536 := by
  unfold encL
  split
  · rename_i h
    unfold encZ at h
    split at h
    · rename_i h2
      rw [Bool.and_eq_true] at h2
      have := isPowB_range h2.2
      rw [laidF_length (encE_zero.1 h).2]; omega
    · cases h
  · simp
theorem PEncZ (kind : Int) (v : Value) (l : List CV) (P : Int) (hPr : i64r P) (w : World) (hl : RdCs w v l) (hn : l.length ≤ 2000000000000) :
    Calls Tryz.prog 74 #[.int .i64 kind, v, .int .i64 P] w fun e w' => ∃ u, e = .returned (.tuple #[u, .int .i64 (encZ kind (pcs l) P)]) ∧ OwB w' w.heap.size u (encL kind (pcs l) P) ∧ Below w.heap.size w w' := by
  refine (PEncode_any kind v l P hPr w hl hn).mono ?_
  unfold EncAt encL encZ
  rintro e w' ⟨hb, ⟨h1, rfl⟩ | ⟨h1, ⟨h2, rfl⟩ | ⟨h2, g, rfl, hg, ho⟩⟩⟩
  · rw [if_neg (by rw [h1]; simp), if_neg (by decide)]
    exact ⟨_, rfl, OwB.nil _ _, hb⟩
  · rw [if_pos h1, if_neg h2]
    exact ⟨_, rfl, OwB.nil _ _, hb⟩
  · rw [if_pos h1, if_pos h2, h2]
    rw [Bool.and_eq_true] at h1
    have hP := isPowB_range h1.2
    have hl := laidF_length (kind := kind) (encE_zero.1 h2).2
    have := ho.owB' (base := w.heap.size) hg (by rw [hl]; simp only [maxLen]; omega)
    rw [hl] at this
    exact ⟨_, rfl, this, hb⟩
end Go.Proofs.YtfcnkpofcekmgaaGreat

-- Uint and ReadUint: plain laws, no program.
namespace Go.Proofs.YtfcnkpofcekmgaaGreat
def uintF (n : Nat) : List UInt8 := if n < 128 then [UInt8.ofNat n] else UInt8.ofNat (128 + n % 128) :: uintF (n / 128)
theorem uintF_lt {n : Nat} (h : n < 128) : uintF n = [UInt8.ofNat n] := by rw [uintF, if_pos h]
theorem uintF_ge {n : Nat} (h : ¬ n < 128) : uintF n = UInt8.ofNat (128 + n % 128) :: uintF (n / 128) := by rw [uintF, if_neg h]
theorem uintF_pos (n : Nat) : 1 ≤ (uintF n).length := by
  rw [uintF]; split <;> simp
/-- Of what a number below 128 ^ k is written as. -/
theorem uintF_len : ∀ (k n : Nat), n < 128 ^ (k + 1) → (uintF n).length ≤ k + 1
  | 0, n, h => by rw [uintF_lt (by simpa using h)]; simp
  | k + 1, n, h => by
    by_cases h1 : n < 128
    · rw [uintF_lt h1]; simp
    · rw [uintF_ge h1]
      have : n / 128 < 128 ^ (k + 1) := by
        rw [Nat.div_lt_iff_lt_mul (by omega)]
        rw [Nat.pow_succ] at h; omega
      have := uintF_len k _ this
      simp; omega
theorem uintF_le10 {n : Nat} (h : n < 18446744073709551616) : (uintF n).length ≤ 10 := uintF_len 9 n (Nat.lt_of_lt_of_le h (by decide))
end Go.Proofs.YtfcnkpofcekmgaaGreat

-- ink.Uint, espalierref01.Uint: walks.
namespace Go.Proofs.YtfcnkpofcekmgaaGreat
open Go.RowKit
theorem u8_ne {y z : UInt8} (h : y ≠ z) : ((y.toNat : Int) == (z.toNat : Int)) = false := by
  have : y.toNat ≠ z.toNat := fun e => h (UInt8.toNat_inj.mp e)
  simp; omega
section laws
variable {w : World} {ops : Array Oper} {rest : List Oper} {o : Oper} {a : Act} {Q : Exit → Act → World → Prop}
/-- make([]byte, 0, n). -/
theorem wp_make_B0 (hg : o.guard = none) (l c : Operand) (hop : o.op = Op.makeSlice 41 l c)
    (C : Int) (n : Nat) (hl : a.eval l = .int .i64 0) (hc : a.eval c = .int .i64 C) (hL : C = (n : Int)) (hn : n ≤ 281474976710656) (base : Nat) (hb : base ≤ w.heap.size)
    (hK : ∀ w', OwB w' base (.slice (some ⟨w.heap.size, 0, none⟩) 0 n) [] → Below w.heap.size w w' → w'.heap.size = w.heap.size + 1 → wpList Tryz.prog ops Q rest (a.put o.dst (.slice (some ⟨w.heap.size, 0, none⟩) 0 n)) w') :
    wpList Tryz.prog ops Q (o :: rest) a w := by
  obtain ⟨i, hi, hz0, hz1, hz2⟩ := info_parts u8_info
  refine wpList_plain hg fun K hK' => ?_
  have hr := run_make (P := Tryz.prog) w 41 5 i _ Tryz.underlying41 hi hz0 .i64 .i64 0 n (by omega) (by omega) (by rw [hz2]; omega) (by omega)
  subst hL
  unfold Oper.wp
  simp [execOp, hop, hl, hc, Result.andThen]
  simp at hr
  rw [hr]
  simp []
  refine hK' _ _ (hK _ ?_ ((Below.refl _ _).alloc (Nat.le_refl _) _) (by simp))
  have e := toList_madeCells_one (.int .u8 0) n
  have h1 := OBlk.new w 5 (madeCells #[.int .u8 0] n)
  rw [e, ← bvs_replicate] at h1
  have := h1.owB (base := base) hb (by simp only [maxLen, List.length_replicate]; omega) (n := 0) (by omega)
  rw [List.length_replicate] at this
  simpa [Value.cells, hz1] using this
end laws
set_option maxRecDepth 20000 in
theorem or128 (n : Nat) : bits .or .u8 ((n : Int) % 256) 128 = ((UInt8.ofNat (128 + n % 128)).toNat : Int) := by
  have h1 : (BitVec.ofInt 8 ((n : Int) % 256)).toNat = n % 256 := by rw [BitVec.toNat_ofInt]; omega
  have h2 : (BitVec.ofInt 8 (128 : Int)).toNat = 128 := rfl
  show IntKind.u8.wrap ((BitVec.ofInt 8 ((n : Int) % 256) ||| BitVec.ofInt 8 (128 : Int)).toNat : Int) = _
  rw [BitVec.toNat_or, h1, h2, IntKind.wrap_u8]
  have key : ∀ k : Fin 256, k.val ||| 128 = 128 + k.val % 128 := by decide
  have := key ⟨n % 256, by omega⟩
  simp only at this
  rw [this]
  simp
set_option maxRecDepth 20000 in
set_option maxHeartbeats 1000000 in
theorem Uint_any (n : Nat) (hn : n < 18446744073709551616) (w : World) :
    Calls Tryz.prog 171 #[.int .u64 n] w fun e w' => ∃ v, e = .returned v ∧ OwB w' w.heap.size v (uintF n) ∧ Below w.heap.size w w' := by
  have HL := Lib.hid (uintF_le10 hn)
  go_enter Tryz.func171, Tryz.ntmps171
  go_wp2_with (first | (at_make; refine wp_make_B0 rfl _ _ rfl _ 10 rfl rfl rfl (by omega) w.heap.size (Nat.le_refl _) ?_; intro w1 ho1 hw1 hs1) | fail)
  go_loopw [0, 3] (fun m v wr => ∃ (k : Nat) (pre : List UInt8), m = .int .u64 (k : Int) ∧ k < 18446744073709551616 ∧ Hid (uintF n = pre ++ uintF k) ∧ OwB wr w.heap.size v pre ∧ Below w.heap.size w wr)
    (fun m _ _ => (intOf m).toNat)
  case atStart => exact ⟨n, [], rfl, hn, Lib.hid rfl, ho1, hw1⟩
  case round =>
    clear ho1 hw1 hs1
    obtain ⟨k, pre, rfl, hk, HE, ho, hb⟩ := hrel
    have hbs := hb.size
    by_cases h : k < 128
    · have hlen : pre.length + 1 ≤ 10 := by
        have h1 := HL.out
        rw [HE.out, uintF_lt h] at h1
        simpa using h1
      go_wp2_with (first
        | (at_builtin; refine wp_append_B1 rfl (.tmp 15) (.tmp 18) rfl w.heap.size _ pre rfl ho (UInt8.ofNat k) _ (by rw [u8_byte]; first | rfl | (congr 1; omega)) 5 rfl (by omega) hbs ?_; intro v2 w2 ho2 hg2 _)
        | fail)
      go_ret
      refine ⟨v2, rfl, ?_, hb.grown hg2 hbs (fun g hg => (ho.lt g hg).1)⟩
      rw [HE.out, uintF_lt h]
      exact ho2
    · have hlen : pre.length + 1 ≤ 10 := by
        have h1 := HL.out
        rw [HE.out, uintF_ge h] at h1
        simp at h1; omega
      have hor := or128 k
      have hu := uintF_ge h
      have HU := Lib.hid hu
      clear hu
      go_wp2_with (first
        | (at_builtin; refine wp_append_B1 rfl (.tmp 9) (.tmp 13) rfl w.heap.size _ pre rfl ho (UInt8.ofNat (128 + k % 128)) _ rfl 5 rfl (by omega) hbs ?_; intro v2 w2 ho2 hg2 _)
        | fail)
      go_roundw
      case rel => exact ⟨k / 128, pre ++ [UInt8.ofNat (128 + k % 128)], by go_num, by omega, Lib.hid (by rw [HE.out, HU.out]; simp), ho2, hb.grown hg2 hbs (fun g hg => (ho.lt g hg).1)⟩
      case measure => simp [intOf]; omega
set_option maxRecDepth 20000 in
set_option maxHeartbeats 1000000 in
theorem RUint_any (n : Nat) (hn : n < 18446744073709551616) (w : World) :
    Calls Tryz.prog 163 #[.int .u64 n] w fun e w' => ∃ v, e = .returned v ∧ OwB w' w.heap.size v (uintF n) ∧ Below w.heap.size w w' := by
  have HL := Lib.hid (uintF_le10 hn)
  go_enter Tryz.func163, Tryz.ntmps163
  go_wp2_with fail
  go_loopw [0, 3] (fun m v wr => ∃ (k : Nat) (pre : List UInt8), m = .int .u64 (k : Int) ∧ k < 18446744073709551616 ∧ Hid (uintF n = pre ++ uintF k) ∧ OwB wr w.heap.size v pre ∧ Below w.heap.size w wr)
    (fun m _ _ => (intOf m).toNat)
  case atStart => exact ⟨n, [], rfl, hn, Lib.hid rfl, OwB.nil _ _, Below.refl _ _⟩
  case round =>
    obtain ⟨k, pre, rfl, hk, HE, ho, hb⟩ := hrel
    have hbs := hb.size
    by_cases h : k < 128
    · have hlen : pre.length + 1 ≤ 10 := by
        have h1 := HL.out
        rw [HE.out, uintF_lt h] at h1
        simpa using h1
      go_wp2_with (first
        | (at_builtin; refine wp_append_B1 rfl (.tmp 15) (.tmp 18) rfl w.heap.size _ pre rfl ho (UInt8.ofNat k) _ (by rw [u8_byte]; first | rfl | (congr 1; omega)) 5 rfl (by omega) hbs ?_; intro v2 w2 ho2 hg2 _)
        | fail)
      go_ret
      refine ⟨v2, rfl, ?_, hb.grown hg2 hbs (fun g hg => (ho.lt g hg).1)⟩
      rw [HE.out, uintF_lt h]
      exact ho2
    · have hlen : pre.length + 1 ≤ 10 := by
        have h1 := HL.out
        rw [HE.out, uintF_ge h] at h1
        simp at h1; omega
      have hu := uintF_ge h
      have HU := Lib.hid hu
      clear hu
      go_wp2_with (first
        | (at_builtin; refine wp_append_B1 rfl (.tmp 6) (.tmp 11) rfl w.heap.size _ pre rfl ho (UInt8.ofNat (128 + k % 128)) _ (by rw [u8_byte]; first | rfl | (congr 1; omega)) 5 rfl (by omega) hbs ?_; intro v2 w2 ho2 hg2 _)
        | fail)
      go_roundw
      case rel => exact ⟨k / 128, pre ++ [UInt8.ofNat (128 + k % 128)], by go_num, by omega, Lib.hid (by rw [HE.out, HU.out]; simp), ho2, hb.grown hg2 hbs (fun g hg => (ho.lt g hg).1)⟩
      case measure => simp [intOf]; omega
end Go.Proofs.YtfcnkpofcekmgaaGreat

-- ink.common: the walk.
namespace Go.Proofs.YtfcnkpofcekmgaaGreat
open Go.RowKit
set_option maxRecDepth 20000 in
set_option maxHeartbeats 2000000 in
theorem common_any (va vb : Value) (a b : List UInt8) (w : World) (ha : RdB w va a) (hb : RdB w vb b) :
    Calls Tryz.prog 179 #[va, vb] w fun e w' => e = .returned (.int .i64 (comF a b : Nat)) ∧ Below w.heap.size w w' := by
  obtain ⟨A, ca, rfl, hma⟩ := ha.form
  obtain ⟨B, cb, rfl, hmb⟩ := hb.form
  by_cases hle : (a.length : Int) ≤ (b.length : Int)
  · go_enter Tryz.func179, Tryz.ntmps179
    go_wp2_with fail
    go_loopw [13] (fun i wr => ∃ j : Nat, i = .int .i64 (j : Int) ∧ j ≤ a.length ∧ Hid (∀ i, i < j → a[i]? = b[i]?) ∧ Below w.heap.size w wr)
      (fun i _ => a.length - (intOf i).toNat)
    case atStart => exact ⟨0, rfl, Nat.zero_le _, Lib.hid (fun i h => by omega), Below.refl _ _⟩
    case round =>
      obtain ⟨j, rfl, hj, HS, hbl⟩ := hrel
      by_cases hlt : j < a.length
      · have ja : j < a.length := by omega
        have jb : j < b.length := by omega
        obtain ⟨ad, rfl, hca⟩ := (ha.below hbl (Nat.le_refl _)).at_ ja
        obtain ⟨bd, rfl, hcb⟩ := (hb.below hbl (Nat.le_refl _)).at_ jb
        have i1 : (j : Int) < (a.length : Int) := by omega
        have i2 : (j : Int) < (b.length : Int) := by omega
        by_cases hxy : a[j] = b[j]
        · have HS2 : Hid (∀ i, i < j + 1 → a[i]? = b[i]?) := Lib.hid fun i hi => by
            by_cases e : i = j
            · subst e; rw [List.getElem?_eq_getElem ja, List.getElem?_eq_getElem jb, hxy]
            · exact HS.out i (by omega)
          rw [hxy] at hca
          clear hxy
          generalize b[j] = x at hca hcb
          go_upto_region 5 with (fail)
          go_region
          go_wp2_with fail
          go_roundw
          case rel => exact ⟨j + 1, by go_num, by omega, HS2, hbl.drew⟩
          case measure => simp [intOf]; omega
        · have hcom := Lib.hid (comF_of a b j (by omega) (by omega) HS.out (fun _ _ => hxy))
          have e1 := u8_ne hxy
          clear hxy
          generalize a[j] = x at hca e1
          generalize b[j] = y at hcb e1
          go_upto_region 5 with (fail)
          go_region
          go_wp2_with fail
          go_ret
          rw [hcom.out]
          exact ⟨rfl, hbl.drew⟩
      · obtain rfl : j = a.length := by omega
        have hcom := Lib.hid (comF_of a b a.length (by omega) (by omega) HS.out (fun h h' => by omega))
        go_wp2_with fail
        go_ret
        rw [hcom.out]
        exact ⟨rfl, hbl⟩
  · go_enter Tryz.func179, Tryz.ntmps179
    go_wp2_with fail
    go_loopw [13] (fun i wr => ∃ j : Nat, i = .int .i64 (j : Int) ∧ j ≤ b.length ∧ Hid (∀ i, i < j → a[i]? = b[i]?) ∧ Below w.heap.size w wr)
      (fun i _ => b.length - (intOf i).toNat)
    case atStart => exact ⟨0, rfl, Nat.zero_le _, Lib.hid (fun i h => by omega), Below.refl _ _⟩
    case round =>
      obtain ⟨j, rfl, hj, HS, hbl⟩ := hrel
      by_cases hlt : j < b.length
      · have ja : j < a.length := by omega
        have jb : j < b.length := by omega
        obtain ⟨ad, rfl, hca⟩ := (ha.below hbl (Nat.le_refl _)).at_ ja
        obtain ⟨bd, rfl, hcb⟩ := (hb.below hbl (Nat.le_refl _)).at_ jb
        have i1 : (j : Int) < (a.length : Int) := by omega
        have i2 : (j : Int) < (b.length : Int) := by omega
        by_cases hxy : a[j] = b[j]
        · have HS2 : Hid (∀ i, i < j + 1 → a[i]? = b[i]?) := Lib.hid fun i hi => by
            by_cases e : i = j
            · subst e; rw [List.getElem?_eq_getElem ja, List.getElem?_eq_getElem jb, hxy]
            · exact HS.out i (by omega)
          rw [hxy] at hca
          clear hxy
          generalize b[j] = x at hca hcb
          go_upto_region 5 with (fail)
          go_region
          go_wp2_with fail
          go_roundw
          case rel => exact ⟨j + 1, by go_num, by omega, HS2, hbl.drew⟩
          case measure => simp [intOf]; omega
        · have hcom := Lib.hid (comF_of a b j (by omega) (by omega) HS.out (fun _ _ => hxy))
          have e1 := u8_ne hxy
          clear hxy
          generalize a[j] = x at hca e1
          generalize b[j] = y at hcb e1
          go_upto_region 5 with (fail)
          go_region
          go_wp2_with fail
          go_ret
          rw [hcom.out]
          exact ⟨rfl, hbl.drew⟩
      · obtain rfl : j = b.length := by omega
        have hcom := Lib.hid (comF_of a b b.length (by omega) (by omega) HS.out (fun h h' => by omega))
        go_wp2_with fail
        go_ret
        rw [hcom.out]
        exact ⟨rfl, hbl⟩
end Go.Proofs.YtfcnkpofcekmgaaGreat
