/- Texts joined: espalierref06.Encode; espalierref06.LentCell, AsLentCell; espalierref06.AsLentCell; Cells made, cells stored; espalierref06.Lent -/
import Derived.Test.YtonbcipofakpjaaQ3
import Derived.Test.YtonbcipofakpjaaQ6
import Derived.Test.YtonbcipofakpjaaQ7
import Derived.Test.YtonbcipofakpjaaQ9
import Derived.Test.YtonbcipofakpjaaQ10
-- espalierref06.Encode: the walk.
namespace Go.Proofs.Ytonbcipofakpjaa
open Go.RowKit
def REncAt (w : World) (kind : Int) (l : List PC) (P : Int) (e : Ending) (w' : World) : Prop :=
  Below w.heap.size w w' ∧ ((isKindB kind && isPowB P) = false ∧ e = .returned (.tuple #[.slice none 0 0, .int .i64 1]) ∨
    (isKindB kind && isPowB P) = true ∧ ((encE kind l P.toNat ≠ 0 ∧ e = .returned (.tuple #[.slice none 0 0, .int .i64 (encE kind l P.toNat)])) ∨
      (encE kind l P.toNat = 0 ∧ ∃ v, e = .returned (.tuple #[v, .int .i64 0]) ∧ OwB w' w.heap.size v (laidF kind l P.toNat))))
def slnE : Value → Nat
  | .slice _ n _ => n
  | _ => 0
theorem strE {w : World} {v : Value} {l : List UInt8} (h : RdB w v l) (n : Nat) : (convert 27 9 v).run Try.prog (w.drewN n) = .ok (.string ⟨l.toArray⟩) (w.drewN n) :=
  run_B_string (w := w.drewN n) h
theorem belowE {B : Nat} {w w' : World} (h : Below B w w') : ∀ n, Below B w (w'.drewN n)
  | 0 => h
  | n + 1 => (belowE h n).drew
set_option maxRecDepth 20000 in
theorem RIsKind_any (k : Int) (w : World) : Calls Try.prog 42 #[.int .i64 k] w fun e w' => e = .returned (.bool (isKindB k)) ∧ w = w' := by
  by_cases h1 : k = 2
  · subst h1
    go_enter Try.func42, Try.ntmps42
    go_wp2_with fail
    go_ret
    exact ⟨rfl, rfl⟩
  · have e1 : (k == 2) = false := beq_eq_false_iff_ne.2 h1
    by_cases h2 : k = 3
    · subst h2
      go_enter Try.func42, Try.ntmps42
      go_wp2_with fail
      go_ret
      exact ⟨rfl, rfl⟩
    · have e2 : (k == 3) = false := beq_eq_false_iff_ne.2 h2
      have HK : Hid (isKindB k = false) := by show _ = _; unfold isKindB; exact decide_eq_false (by omega)
      clear h1 h2
      go_enter Try.func42, Try.ntmps42
      go_wp2_with fail
      go_ret
      rw [HK.out]
      exact ⟨rfl, rfl⟩
set_option maxRecDepth 100000 in
set_option maxHeartbeats 8000000 in
theorem REncode_any (kind : Int) (v : Value) (l : List CV) (P : Int) (w : World) (hl : RdCs w v l) (hn : l.length ≤ 2000000000000) :
    Calls Try.prog 12 #[.int .i64 kind, v, .int .i64 P] w (REncAt w kind (pcs l) P) := by
  obtain ⟨A, c, rfl, hm, hc⟩ := hl.slice
  have hKi := fun W => RIsKind_any kind W
  have hPa := fun W => IsPage_any P W
  cases hp : isPowB P with
  | false =>
    have HK : Hid ((isKindB kind && isPowB P) = false) := by show _ = _; rw [hp, Bool.and_false]
    rw [hp] at hPa
    clear hp
    go_enter Try.func12, Try.ntmps12
    go_wp2_with (first | (go_at_call 41; refine (hPa _).mono ?_; rintro e w1 ⟨rfl, rfl⟩) | fail)
    go_ret2
    exact ⟨Below.refl _ _, .inl ⟨HK.out, rfl⟩⟩
  | true =>
    cases hk : isKindB kind with
    | false =>
      have HK : Hid ((isKindB kind && isPowB P) = false) := by show _ = _; rw [hk]; rfl
      rw [hk] at hKi
      rw [hp] at hPa
      clear hk hp
      go_enter Try.func12, Try.ntmps12
      go_wp2_with (first | (go_at_call 41; refine (hPa _).mono ?_; rintro e w1 ⟨rfl, rfl⟩) | (go_at_call 42; refine (hKi _).mono ?_; rintro e w1 ⟨rfl, rfl⟩) | fail)
      go_ret2
      exact ⟨Below.refl _ _, .inl ⟨HK.out, rfl⟩⟩
    | true =>
      have HK : Hid ((isKindB kind && isPowB P) = true) := by show _ = _; rw [hk, hp]; rfl
      have HKD := Lib.hid hk
      obtain ⟨hP1, hP2⟩ := isPowB_range hp
      rw [hk] at hKi
      rw [hp] at hPa
      clear hp
      obtain ⟨Q, rfl⟩ : ∃ Q : Nat, P = (Q : Int) := ⟨P.toNat, by omega⟩
      unfold REncAt
      rw [show ((Q : Int)).toNat = Q from rfl]
      have hQ1 : 512 ≤ Q := by omega
      have hQ2 : Q ≤ 65536 := by omega
      have hkd : kind = 2 ∨ kind = 3 := of_decide_eq_true hk
      have HKI := Lib.hid hkd
      clear hk hkd
      go_enter Try.func12, Try.ntmps12
      go_wp2_with (first | (go_at_call 41; refine (hPa _).mono ?_; rintro e w1 ⟨rfl, rfl⟩) | (go_at_call 42; refine (hKi _).mono ?_; rintro e w1 ⟨rfl, rfl⟩) | fail)
      clear hKi hPa
      go_loopw [9] (fun i wr => ∃ k : Nat, k ≤ l.length ∧ i = .int .i64 (k : Int) ∧ Hid (scanE kind Q none (pcs l) = scanE kind Q (prevK (pcs l) k) ((pcs l).drop k)) ∧ Hid (∀ j (hj : j < k) (hjl : j < (pcs l).length), OkC Q (pcs l)[j]) ∧ Below w.heap.size w wr) (fun i _ => l.length - (intOf i).toNat)
      case atStart => exact ⟨0, Nat.zero_le _, rfl, Lib.hid rfl, Lib.hid (fun j hj => by omega), Below.refl _ _⟩
      case round =>
        obtain ⟨k, hk, rfl, HSC, HOK, hB⟩ := hrel
        by_cases hlt : k < l.length
        · have ik : (k : Int) < (l.length : Int) := by omega
          have hlp : k < (pcs l).length := by rw [pcs_length]; exact hlt
          have hst := scan_step (kind := kind) (P := Q) hlp
          have hpk := prevK_succ (pcs l) hlp
          rw [← HSC.out] at hst
          have hcx : ∀ c, (pcs l)[k] = c → Hid (mayP kind Q c = true → ∀ j (hj : j < k + 1) (hjl : j < (pcs l).length), OkC Q (pcs l)[j]) := fun c hc => Lib.hid (fun hmay j hj hjl => by
            by_cases e : j = k
            · subst e; rw [hc]; exact may_ok hmay
            · exact HOK.out j (by omega) hjl)
          rw [pcs_at hlt] at hst hpk
          have hcx := hcx _ (pcs_at hlt)
          obtain ⟨ad, rfl, c0, c1, c2, c3, c4⟩ := (hl.below hB).at_ hlt
          have hx := (hl.below hB).ok _ (List.getElem_mem hlt)
          have hprev : ∀ q, prevK (pcs l) k = some q → ∃ A0 a0, 0 < k ∧ RdB wr (.slice A0 q.length a0) q ∧ wr.cell? (ad.add ((k - 1) * 5)) = some (.slice A0 q.length a0) := fun q hq => by
            unfold prevK at hq
            split at hq
            · cases hq
            · have hk1 : k - 1 < l.length := by omega
              obtain ⟨_, ea, d0, _⟩ := (hl.below hB).at_ hk1
              cases ea
              have hxp := (hl.below hB).ok _ (List.getElem_mem hk1)
              have e1 : (pcs l).getD (k - 1) default = l[k - 1].c := by simp [List.getD, pcs, hk1]
              rw [e1] at hq
              injection hq with hq
              obtain ⟨A0, a0, he, _⟩ := hxp.k.form
              rw [he, hq] at d0
              have hk2 := hxp.k
              rw [he, hq] at hk2
              exact ⟨A0, a0, by omega, hk2, d0⟩
          have hx0 := hx
          generalize l[k] = x at *
          obtain ⟨A1, a1, B1, b1, key, ck, val, pg, ct, rfl, _, _⟩ := CV.form hx
          have hma := RMay_any kind Q HKI.out hQ2 _ wr hx
          have hxk : RdB wr (.slice A1 key.length a1) key := hx.k
          have hst' : scanE kind Q none (pcs l) = if mayP kind Q ⟨key, ck, val, pg, ct⟩ = false then 62 else if afterP (prevK (pcs l) k) key = false then 63 else scanE kind Q (prevK (pcs l) (k + 1)) ((pcs l).drop (k + 1)) := hst
          have HCX := Lib.hid hcx.out
          unfold cellV at hma
          rcases Bool.eq_false_or_eq_true (mayP kind Q ⟨key, ck, val, pg, ct⟩) with hmy | hmy
          · rw [if_neg (by rw [hmy]; simp)] at hst'
            have HCN := Lib.hid (HCX.out hmy)
            have hma' : Calls Try.prog 43 #[.int .i64 kind, .int .i64 (Q : Int), .agg #[.slice A1 key.length a1, .int .i64 ck, .slice B1 val.length b1, .int .i64 pg, .int .i64 ct]] wr fun e w' => e = .returned (.bool true) ∧ Below wr.heap.size wr w' := by
              rw [← hmy]; exact hma
            clear hma hmy hst hx hx0 hcx
            have HST0 := Lib.hid hst'
            have HPV := Lib.hid hprev
            have HPK0 := Lib.hid hpk
            clear hst' hprev hpk
            go_upto_region 9 with (first | (go_at_call 43; refine hma'.mono ?_; rintro e w2 ⟨rfl, hb2⟩) | fail)
            have hB2 := hB.trans (hb2.mono hB.size)
            have hst' := HST0.out
            have hprev := HPV.out
            have hpk := HPK0.out
            clear HST0 HPV HPK0
            by_cases hk0 : 0 < k
            · obtain ⟨kk, rfl⟩ : ∃ kk, k = kk + 1 := ⟨k - 1, by omega⟩
              obtain ⟨q, hq⟩ : ∃ q, prevK (pcs l) (kk + 1) = some q := ⟨_, prevK_succ (pcs l) (by rw [pcs_length]; omega)⟩
              obtain ⟨A0, a0, _, hqr, hqc⟩ := hprev q hq
              rw [hq] at hst'
              rw [show kk + 1 - 1 = kk by omega] at hqc
              have j1 : (0 : Int) ≤ (kk : Int) := by omega
              have j2 : (kk : Int) < (l.length : Int) := by omega
              have j3 : kk < l.length := by omega
              have j4 : IntKind.i64.wrap (kk : Int) = (kk : Int) := by rw [IntKind.wrap_i64]; omega
              have j5 : (0 : Int) < (kk : Int) + 1 := by omega
              have j6 : (0 : Int) ≤ (kk : Int) + 1 := by omega
              have j7 : (kk : Int) + 1 < (l.length : Int) := by omega
              have j8 : ((kk : Int) + 1).toNat = kk + 1 := by omega
              have j9 : IntKind.i64.wrap ((kk : Int) + 1) = (kk : Int) + 1 := by rw [IntKind.wrap_i64]; omega
              have j10 : kk + 1 < l.length := by omega
              have hst2 : scanE kind Q none (pcs l) = if decide (ordC q key < 0) = false then 63 else scanE kind Q (prevK (pcs l) (kk + 1 + 1)) ((pcs l).drop (kk + 1 + 1)) := hst'
              have HST := Lib.hid hst2
              have HPK := Lib.hid hpk
              have hbl0 := bytesLess_ord q key
              clear hst' hst2 hq hprev hpk
              have e1 : w2.cell? (ad.add (kk * 5)) = some (.slice A0 q.length a0) := (hb2.cell (World.block_lt_of_cell? wr _ hqc)).trans hqc
              have e2 : w2.cell? (ad.add ((kk + 1) * 5)) = some (.slice A1 key.length a1) := (hb2.cell (World.block_lt_of_cell? wr _ c0)).trans c0
              have hq2 := hqr.below hb2 (Nat.le_refl _)
              have hx2 := hxk.below hb2 (Nat.le_refl _)
              have s1 := fun n => strE hq2 n
              have s2 := fun n => strE hx2 n
              clear hma' hqc c0 c1 c2 c3 c4 hqr hxk hb2
              by_cases hoc : ordC q key < 0
              · have hbl : Op.bytesLess q key = true := by rw [hbl0]; exact decide_eq_true hoc
                have hsn : scanE kind Q none (pcs l) = scanE kind Q (prevK (pcs l) (kk + 1 + 1)) ((pcs l).drop (kk + 1 + 1)) := by rw [HST.out, if_neg (by simp [hoc])]
                have HSN := Lib.hid hsn
                clear hbl0 hoc hsn
                go_quiet (fail)
                go_wp2_with fail
                exact ⟨⟨kk + 1 + 1, by omega, by go_num, HSN, HCN, belowE hB2 _⟩, by simp [intOf]; omega⟩
              · have hbl : Op.bytesLess q key = false := by rw [hbl0]; exact decide_eq_false hoc
                have henc : encE kind (pcs l) Q = 63 := by
                  have := HST.out
                  rw [if_pos (by simp [hoc])] at this
                  unfold encE; rw [this]; rfl
                have HE := Lib.hid henc
                clear hbl0 hoc henc
                go_quiet (fail)
                go_wp2_with fail
                go_ret2
                rw [HE.out]
                exact ⟨belowE hB2 _, .inr ⟨HK.out, .inl ⟨by omega, rfl⟩⟩⟩
            · obtain rfl : k = 0 := by omega
              have e0 : afterP (prevK (pcs l) 0) key = true := rfl
              rw [e0, if_neg (by simp)] at hst'
              have HST := Lib.hid hst'
              clear hst' e0
              go_quiet (fail)
              go_wp2_with fail
              exact ⟨⟨1, by omega, rfl, HST, HCN, belowE hB2 _⟩, by simp [intOf]; omega⟩
          · have henc : encE kind (pcs l) Q = 62 := by
              rw [if_pos hmy] at hst'
              unfold encE; rw [hst']; rfl
            have HE := Lib.hid henc
            have hma' : Calls Try.prog 43 #[.int .i64 kind, .int .i64 (Q : Int), .agg #[.slice A1 key.length a1, .int .i64 ck, .slice B1 val.length b1, .int .i64 pg, .int .i64 ct]] wr fun e w' => e = .returned (.bool false) ∧ Below wr.heap.size wr w' := by
              rw [← hmy]; exact hma
            clear hma hst' hst hmy henc hx hx0 hcx
            go_wp2_with (first | (go_at_call 43; refine hma'.mono ?_; rintro e w2 ⟨rfl, hb2⟩) | fail)
            go_ret2
            rw [HE.out]
            exact ⟨hB.trans (hb2.mono hB.size), .inr ⟨HK.out, .inl ⟨by omega, rfl⟩⟩⟩
        · obtain rfl : k = l.length := by omega
          have hall : ∀ c ∈ pcs l, OkC Q c := fun c hc => by
            obtain ⟨j, hj, rfl⟩ := List.getElem_of_mem hc
            exact HOK.out j (by rw [pcs_length] at hj; exact hj) hj
          have hsc : scanE kind Q none (pcs l) = 0 := by
            rw [HSC.out, List.drop_of_length_le (by rw [pcs_length]; omega)]; rfl
          have hfit := fit_of hall hQ2 (by rw [pcs_length]; exact hn)
          obtain ⟨w1, rfl⟩ : ∃ w1, w1 = wr := ⟨_, rfl⟩
          have hsz := RSize_any kind _ l _ (hl.below hB) hfit
          have hS := hfit.1
          have hSe := sizeF_eq (pcs l)
          rw [pcs_length] at hSe
          have HALL := Lib.hid hall
          have HSCZ := Lib.hid hsc
          clear hall hfit hsc HSC HOK
          obtain ⟨S, hSS⟩ : ∃ S, sizeF (pcs l) = S := ⟨_, rfl⟩
          rw [hSS] at hsz hS hSe
          have HSS := Lib.hid hSS
          clear hSS
          by_cases hbig : Q < S
          · have henc : encE kind (pcs l) Q = 61 := by
              unfold encE
              rw [HSCZ.out, if_neg (by simp), if_pos (by rw [HSS.out]; exact hbig)]
            have HE := Lib.hid henc
            have ib : (Q : Int) < (S : Int) := by omega
            clear henc hSe
            go_wp2_with (first | (go_at_call 13; refine hsz.mono ?_; rintro e w2 ⟨rfl, hb2⟩) | fail)
            go_ret2
            rw [HE.out]
            exact ⟨hB.trans (hb2.mono hB.size), .inr ⟨HK.out, .inl ⟨by omega, rfl⟩⟩⟩
          · have henc : encE kind (pcs l) Q = 0 := by
              unfold encE
              rw [HSCZ.out, if_neg (by simp), if_neg (by rw [HSS.out]; exact hbig)]
            have HE := Lib.hid henc
            have hSQ : Hid (sizeF (pcs l) ≤ Q) := Lib.hid (by rw [HSS.out]; omega)
            obtain ⟨B, hBB⟩ : ∃ B, longsF (pcs l) = B := ⟨_, rfl⟩
            rw [hBB] at hSe
            have HBB := Lib.hid hBB
            have ib : ¬ ((Q : Int) < (S : Int)) := by omega
            have hLB : 8 + 2 * l.length + B ≤ Q := by omega
            clear henc hBB HSCZ HSS
            obtain ⟨kn, rfl⟩ := Int.eq_ofNat_of_zero_le (show 0 ≤ kind by have := HKI.out; omega)
            have kn4 : kn ≤ 4 := by have := HKI.out; omega
            have hkw : IntKind.u8.wrap (kn : Int) = (kn : Int) := by rw [IntKind.wrap_u8]; omega
            go_upto_region 13 with (first | (go_at_call 13; refine hsz.mono ?_; rintro e w2 ⟨rfl, hb2⟩) | fail)
            have hB2 := hB.trans (hb2.mono hB.size)
            clear hsz hb2 hSe hS ib hbig
            go_upto_region 14 with (fail)
            have hkn : (kn : Int) = ((UInt8.ofNat kn).toNat : Int) := by rw [UInt8.toNat_ofNat']; omega
            have ho1 : OwB (w2.alloc (.cells #[.int .u8 (kn : Int), .int .u8 1] 5)) w.heap.size (.slice (some ⟨w2.heap.size, 0, none⟩) 2 2) [UInt8.ofNat kn, 1] := by
              have h := (OBlk.new' w2 5 (bvs [UInt8.ofNat kn, 1])).owB' (base := w.heap.size) (m := [UInt8.ofNat kn, 1]) hB2.size (by simp [maxLen])
              have e : bvs [UInt8.ofNat kn, 1] = [Value.int .u8 (kn : Int), .int .u8 1] := by rw [hkn]; rfl
              rw [e] at h
              exact h
            have hb23 : Below w2.heap.size w2 (w2.alloc (.cells #[.int .u8 (kn : Int), .int .u8 1] 5)) := (Below.refl _ _).alloc (Nat.le_refl _) _
            have hB3 := hB2.trans (hb23.mono hB2.size)
            clear hkn hb23
            generalize w2.alloc (.cells #[.int .u8 (kn : Int), .int .u8 1] 5) = w3 at *
            generalize w2.heap.size = g1 at *
            have hwn : IntKind.u64.wrap (l.length : Int) = (l.length : Int) := IntWalk.u64_in _ (by omega)
            go_upto_region 15 with (first
              | (go_at_call 44; refine (RFixed_2 l.length (by omega) _).mono ?_; rintro e w4 ⟨v4, rfl, ho4, hb4⟩)
              | (at_builtin; refine wp_append_B rfl (.tmp 66) (.tmp 70) rfl w.heap.size _ _ rfl (ho1.below2 hb4) _ _ rfl ho4.rd (by simp [fixedF_length]) (Nat.le_trans hB3.size hb4.size) ?_; intro v5 w5 ho5 hg5 hk5)
              | fail)
            have hB4 := hB3.trans (hb4.mono hB3.size)
            have hB5 := hB4.grown hg5 hB4.size (fun k e => (Own.lt ho1 k e).1)
            have HH : Hid ([UInt8.ofNat kn, 1] ++ fixedF l.length 2 = headF (kn : Int) (pcs l).length) := Lib.hid (by rw [pcs_length]; rfl)
            rw [HH.out] at ho5
            have hl5 : (headF (kn : Int) (pcs l).length).length = 4 := headF_length _ _
            generalize hhd : headF (kn : Int) (pcs l).length = hd at *
            have HHD := Lib.hid hhd
            clear ho1 ho4 hb4 hg5 hk5 hB3 hB4 HH hhd hB2
            go_wp2_with fail
            go_loopw [11, 12] (fun a i wr => ∃ k : Nat, k ≤ l.length ∧ i = .int .i64 (k : Int) ∧ OwB wr w5.heap.size a (bodyF ((pcs l).take k)) ∧ Below w5.heap.size w5 wr) (fun _ i _ => l.length - (intOf i).toNat)
            case atStart => exact ⟨0, Nat.zero_le _, rfl, OwB.nil _ _, Below.refl _ _⟩
            case round =>
              obtain ⟨k, hk, rfl, hoa, hbr⟩ := hrel
              have hBr := hB5.trans (hbr.mono hB5.size)
              by_cases hlt : k < l.length
              · have ik : (k : Int) < (l.length : Int) := by omega
                have hbs : bodyF ((pcs l).take (k + 1)) = bodyF ((pcs l).take k) ++ cellF l[k].c := by
                  rw [List.take_succ_eq_append_getElem (by rw [pcs_length]; exact hlt), bodyF_append, pcs_at hlt]; simp [bodyF]
                have hbl : (bodyF ((pcs l).take k)).length + (cellF l[k].c).length ≤ B := by
                  rw [← HBB.out, ← List.length_append, ← hbs, bodyF_length]; have := longs_split (pcs l) (k + 1); omega
                obtain ⟨ad, rfl, c0, c1, c2, c3, c4⟩ := (hl.below hBr).at_ hlt
                have hx := (hl.below hBr).ok _ (List.getElem_mem hlt)
                have hok := HALL.out _ (show l[k].c ∈ pcs l by rw [← pcs_at hlt]; exact List.getElem_mem _)
                have hca := bytesOf_any Q hQ2 l[k] wr hx hok
                obtain ⟨cb, hcb⟩ : ∃ cb, cellF l[k].c = cb := ⟨_, rfl⟩
                rw [hcb] at hca hbs hbl
                generalize l[k] = x at *
                obtain ⟨A1, a1, B1, b1, key, ck, val, pg, ct, rfl, _, _⟩ := CV.form hx
                unfold cellV at hca
                have HBS := Lib.hid hbs
                clear hx hok hcb hbs
                generalize hbt : bodyF ((pcs l).take k) = bt at *
                clear hbt
                go_wp2_with (first
                  | (go_at_call 45; refine hca.mono ?_; rintro e w6 ⟨v6, rfl, ho6, hb6⟩)
                  | (at_builtin; refine wp_append_B rfl (.tmp 78) (.tmp 83) rfl w5.heap.size _ _ rfl (hoa.below2 hb6) _ _ rfl ho6.rd (by omega) (Nat.le_trans hbr.size hb6.size) ?_; intro v7 w7 ho7 hg7 hk7)
                  | fail)
                exact ⟨⟨k + 1, by omega, by go_num, by rw [HBS.out]; exact ho7, (hbr.trans (hb6.mono hbr.size)).grown hg7 (Nat.le_trans hbr.size hb6.size) (fun g e => (Own.lt hoa g e).1)⟩, by simp [intOf]; omega⟩
              · obtain rfl : k = l.length := by omega
                rw [List.take_of_length_le (by rw [pcs_length]; omega)] at hoa
                have hbl : (bodyF (pcs l)).length = B := by rw [bodyF_length]; exact HBB.out
                obtain ⟨bo, hbo⟩ : ∃ bo, bodyF (pcs l) = bo := ⟨_, rfl⟩
                rw [hbo] at hoa hbl
                have HBO := Lib.hid hbo
                obtain ⟨AA, ca, rfl⟩ := Own.slice hoa
                subst hbl
                obtain ⟨w6, rfl⟩ : ∃ w6, w6 = wr := ⟨_, rfl⟩
                have ho6 := ho5.below2 hbr
                have hne6 : ∀ g, (Value.slice AA bo.length ca).ownBlock = some g → some g ≠ Value.ownBlock _ := fun g e h => absurd (Own.lt ho5 g h.symm).2 (by have := (Own.lt hoa g e).1; omega)
                have hs65 := hbr.size
                clear ho5 hbo hbr
                have i1 : IntKind.i64.wrap ((Q : Int) - 4) = (Q : Int) - 4 := by rw [IntKind.wrap_i64]; omega
                have i2 : IntKind.i64.wrap ((Q : Int) - 4 - (bo.length : Int)) = (Q : Int) - 4 - (bo.length : Int) := by rw [IntKind.wrap_i64]; omega
                have HBase : (Q - 4 - bo.length) + 4 + bo.length = Q := by omega
                generalize hat : Q - 4 - bo.length = at0 at *
                have HAT : Hid (atF (pcs l) Q = at0) := Lib.hid (by unfold atF; rw [HBB.out]; exact hat)
                have i3 : (Q : Int) - 4 - (bo.length : Int) = (at0 : Int) := by omega
                rw [i3] at i2
                clear hat
                go_wp2_with fail
                go_loopw [10, 13, 14] (fun h at_ i wr => ∃ k : Nat, k ≤ l.length ∧ i = .int .i64 (k : Int) ∧ at_ = .int .i64 ((at0 + longsF ((pcs l).take k) : Nat) : Int) ∧ OwB wr w.heap.size h (hd ++ slotsF at0 ((pcs l).take k)) ∧ OwB wr w5.heap.size (.slice AA bo.length ca) bo ∧ Below w.heap.size w wr ∧ w5.heap.size ≤ wr.heap.size ∧ (∀ g, (Value.slice AA bo.length ca).ownBlock = some g → some g ≠ h.ownBlock)) (fun _ _ i _ => l.length - (intOf i).toNat)
                case atStart => exact ⟨0, Nat.zero_le _, rfl, rfl, by simpa [slotsF] using ho6, hoa, hBr, hs65, hne6⟩
                case round =>
                  obtain ⟨k, hk, rfl, rfl, hoh, hoa, hBr, hsz5, hne⟩ := hrel
                  by_cases hlt : k < l.length
                  · have ik : (k : Int) < (l.length : Int) := by omega
                    have hlp : k < (pcs l).length := by rw [pcs_length]; exact hlt
                    have hLS := longs_step (pcs l) hlp
                    have hSL : slotsF at0 ((pcs l).take (k + 1)) = slotsF at0 ((pcs l).take k) ++ fixedF (at0 + longsF ((pcs l).take k)) 2 := by
                      rw [List.take_succ_eq_append_getElem hlp, slotsF_append]; simp [slotsF]
                    have hLT := longs_split (pcs l) (k + 1)
                    rw [HBB.out] at hLT
                    have hsl : (hd ++ slotsF at0 ((pcs l).take k)).length = 4 + 2 * k := by
                      rw [List.length_append, slotsF_length, hl5, List.length_take, Nat.min_eq_left (by omega)]
                    rw [pcs_at hlt] at hLS
                    have hcl := cellF_length l[k].c
                    obtain ⟨ad, rfl, c0, c1, c2, c3, c4⟩ := (hl.below hBr).at_ hlt
                    have hx := (hl.below hBr).ok _ (List.getElem_mem hlt)
                    have hok := HALL.out _ (show l[k].c ∈ pcs l by rw [← pcs_at hlt]; exact List.getElem_mem _)
                    have HCE := Lib.hid (fun W (hb : Below w.heap.size w W) => (hl.below hb).at_ hlt)
                    have hca := fun W (hb : Below w.heap.size w W) => bytesOf_any Q hQ2 l[k] W ((hl.below hb).ok _ (List.getElem_mem hlt)) hok
                    obtain ⟨cb, hcb⟩ : ∃ cb, cellF l[k].c = cb := ⟨_, rfl⟩
                    rw [hcb] at hca hcl
                    generalize l[k] = x at *
                    obtain ⟨A1, a1, B1, b1, key, ck, val, pg, ct, rfl, _, _⟩ := CV.form hx
                    unfold cellV at hca
                    have HSL := Lib.hid hSL
                    rw [← hcl] at hLS
                    have HLS := Lib.hid hLS
                    have hlt2 : longsF ((pcs l).take k) + cb.length ≤ bo.length := by omega
                    clear hx hok hcb hcl hSL hLS hLT
                    generalize hlg : longsF ((pcs l).take k) = lg at *
                    generalize slotsF at0 ((pcs l).take k) = sl at *
                    have hlg' := hlg
                    clear hlg hlg'
                    have hw1 : IntKind.u64.wrap ((at0 + lg : Nat) : Int) = ((at0 + lg : Nat) : Int) := IntWalk.u64_in _ (by omega)
                    have hw2 : IntKind.i64.wrap ((at0 : Int) + (lg : Int) + (cb.length : Int)) = (at0 : Int) + (lg : Int) + (cb.length : Int) := by rw [IntKind.wrap_i64]; omega
                    go_upto_region 25 with (first
                      | (go_at_call 44; refine (RFixed_2 (at0 + lg) (by omega) _).mono ?_; rintro e w7 ⟨v7, rfl, ho7, hb7⟩)
                      | (at_builtin; refine wp_append_B rfl (.tmp 96) (.tmp 99) rfl w.heap.size _ _ rfl (hoh.below2 hb7) _ _ rfl ho7.rd (by rw [hsl, fixedF_length]; omega) (Nat.le_trans hBr.size hb7.size) ?_; intro v8 w8 ho8 hg8 hk8)
                      | fail)
                    have hoa7 := hoa.below2 hb7
                    have hoa8 := hoa7.grown hg8 hne
                    have hne8 : ∀ g, (Value.slice AA bo.length ca).ownBlock = some g → some g ≠ v8.ownBlock := fun g e h => by
                      rcases hk8 with h' | h'
                      · rw [h'] at h; exact hne g e h
                      · rw [h'] at h; have := (Own.lt hoa7 g e).2; injection h with h; omega
                    have hB8 := (hBr.trans (hb7.mono hBr.size)).grown hg8 (Nat.le_trans hBr.size hb7.size) (fun g e => (Own.lt hoh g e).1)
                    have hs8 : w5.heap.size ≤ w8.heap.size := Nat.le_trans hsz5 (Nat.le_trans hb7.size hg8.size)
                    obtain ⟨_, ea, d0, d1, d2, d3, d4⟩ := HCE.out w8 hB8
                    cases ea
                    have hca8 := hca _ hB8
                    clear hoh hoa hBr hsz5 hne ho7 hb7 hg8 hk8 hoa7 hca c0 c1 c2 c3 c4 hw1
                    go_wp2_with (first
                      | (go_at_call 45; refine hca8.mono ?_; rintro e w9 ⟨v9, rfl, ho9, hb9⟩; obtain ⟨A9, c9, rfl⟩ := Own.slice ho9)
                      | fail)
                    exact ⟨⟨k + 1, by omega, by go_num, by rw [HLS.out]; go_num, by rw [HSL.out, ← List.append_assoc]; exact ho8.below2 hb9, hoa8.below2 hb9, hB8.trans (hb9.mono hB8.size), Nat.le_trans hs8 hb9.size, hne8⟩, by simp [intOf]; omega⟩
                  · obtain rfl : k = l.length := by omega
                    rw [List.take_of_length_le (by rw [pcs_length]; omega)] at hoh
                    have hsl : (hd ++ slotsF at0 (pcs l)).length = 4 + 2 * l.length := by
                      rw [List.length_append, slotsF_length, hl5, pcs_length]
                    have hge : 4 + 2 * l.length ≤ at0 := by omega
                    have HPRE : Hid (∀ z, 4 + 2 * l.length + z = at0 → hd ++ slotsF at0 (pcs l) ++ List.replicate z 0 ++ bo = preF (kn : Int) (pcs l) Q) := Lib.hid (fun z hz => by
                      unfold preF
                      rw [HAT.out, HBO.out, HHD.out, pcs_length]
                      have hb := HBB.out
                      have hat := HAT.out
                      unfold atF at hat
                      rw [show Q - 4 - longsF (pcs l) - 4 - 2 * l.length = z by omega]
                      simp only [List.append_assoc])
                    generalize hd ++ slotsF at0 (pcs l) = H at *
                    obtain ⟨AH, cH, rfl⟩ := Own.slice hoh
                    obtain ⟨w7, rfl⟩ : ∃ w7, w7 = wr := ⟨_, rfl⟩
                    rw [hsl] at hoh hne
                    rw [hsl]
                    generalize ((at0 + longsF ((pcs l).take l.length) : Nat) : Int) = z13
                    go_wp2_with fail
                    go_loopw [15] (fun b wr => ∃ z : Nat, 4 + 2 * l.length + z ≤ at0 ∧ OwB wr w.heap.size b (H ++ List.replicate z 0) ∧ OwB wr w5.heap.size (.slice AA bo.length ca) bo ∧ Below w.heap.size w wr ∧ (∀ g, (Value.slice AA bo.length ca).ownBlock = some g → some g ≠ b.ownBlock)) (fun b _ => at0 - slnE b)
                    case atStart => exact ⟨0, by omega, by simpa using hoh, hoa, hBr, hne⟩
                    case round =>
                      clear hoh hoa hne
                      obtain ⟨z, hz, hob, hoa, hBw, hne⟩ := hrel
                      obtain ⟨Ab, cb, rfl⟩ := Own.slice hob
                      have hnl : (H ++ List.replicate z 0).length = 4 + 2 * l.length + z := by rw [List.length_append, hsl, List.length_replicate]
                      have HRZ : Hid (H ++ List.replicate (z + 1) 0 = H ++ List.replicate z 0 ++ [0]) := Lib.hid (by rw [List.replicate_succ', List.append_assoc])
                      have HPR := HPRE.out z
                      generalize H ++ List.replicate z 0 = bz at *
                      have HPR := Lib.hid HPR
                      obtain ⟨n, hn'⟩ : ∃ n, bz.length = n := ⟨_, rfl⟩
                      rw [hn'] at hob hne hnl
                      rw [hn']
                      have i4 : IntKind.i64.wrap ((n : Int) + (bo.length : Int)) = (n : Int) + (bo.length : Int) := by rw [IntKind.wrap_i64]; omega
                      by_cases hlt : n < at0
                      · have ilt : (n : Int) + (bo.length : Int) < (Q : Int) - 4 := by omega
                        have hn140 : bz.length + 1 ≤ 140737488355328 := by omega
                        clear HPR
                        go_wp2_with (first
                          | (at_builtin; refine wp_append_B1 rfl (.tmp 118) (.tmp 119) rfl w.heap.size _ _ rfl hob 0 _ rfl 5 rfl hn140 hBw.size ?_; intro v8 w8 ho8 hg8 hk8)
                          | fail)
                        have hne8 : ∀ g, (Value.slice AA bo.length ca).ownBlock = some g → some g ≠ v8.ownBlock := fun g e h => by
                          rcases hk8 with h' | h'
                          · rw [h'] at h; exact hne g e h
                          · rw [h'] at h; have := (Own.lt hoa g e).2; injection h with h; omega
                        obtain ⟨A8, c8, rfl⟩ := Own.slice ho8
                        have hl8 : (bz ++ [(0 : UInt8)]).length = n + 1 := by rw [List.length_append, hn']; rfl
                        exact ⟨⟨z + 1, by omega, by rw [HRZ.out]; exact ho8, hoa.grown hg8 hne, hBw.grown hg8 hBw.size (fun g e => (Own.lt hob g e).1), hne8⟩, by show at0 - (bz ++ [(0 : UInt8)]).length < at0 - n; rw [hl8]; omega⟩
                      · have ilt : ¬ ((n : Int) + (bo.length : Int) < (Q : Int) - 4) := by omega
                        have hpre := HPR.out (by omega)
                        have hsl4 : sumF (preF (kn : Int) (pcs l) Q) < 4294967296 := sumF_lt _
                        have hpl : (preF (kn : Int) (pcs l) Q).length = Q - 4 := preF_length hSQ.out
                        have HLD : Hid (laidF (kn : Int) (pcs l) Q = preF (kn : Int) (pcs l) Q ++ fixedF (sumF (preF (kn : Int) (pcs l) Q)) 4) := Lib.hid rfl
                        clear HPR HRZ
                        go_upto_region 30 with (first
                          | (at_builtin; refine wp_append_B rfl (.tmp 121) (.tmp 122) rfl w.heap.size _ _ rfl hob _ _ rfl hoa.rd (by omega) hBw.size ?_; intro v9 w9 ho9 hg9 hk9)
                          | fail)
                        have hB9 := hBw.grown hg9 hBw.size (fun g e => (Own.lt hob g e).1)
                        rw [hpre] at ho9
                        clear hob hoa hne hg9 hk9 hpre
                        generalize preF (kn : Int) (pcs l) Q = pre at *
                        obtain ⟨A9, c9, rfl⟩ := Own.slice ho9
                        have hso := SumOf_any _ pre w9 ho9.rd
                        have hpl2 : pre.length + 4 ≤ 140737488355328 := by omega
                        generalize hsm : sumF pre = sm at *
                        have hsw : IntKind.u64.wrap (sm : Int) = (sm : Int) := IntWalk.u64_in _ (by omega)
                        clear hpl hsm
                        go_wp2_with (first
                          | (go_at_call 46; refine hso.mono ?_; rintro e w10 ⟨rfl, rfl⟩)
                          | (go_at_call 44; refine (RFixed_4 sm (by omega) _).mono ?_; rintro e w10 ⟨v10, rfl, ho10, hb10⟩)
                          | (at_builtin; refine wp_append_B rfl (.tmp 126) (.tmp 129) rfl w.heap.size _ _ rfl (ho9.below2 hb10) _ _ rfl ho10.rd (by rw [fixedF_length]; omega) (Nat.le_trans hB9.size hb10.size) ?_; intro v11 w11 ho11 hg11 hk11)
                          | fail)
                        go_ret2
                        refine ⟨(hB9.trans (hb10.mono hB9.size)).grown hg11 (Nat.le_trans hB9.size hb10.size) (fun g e => (Own.lt ho9 g e).1), .inr ⟨HK.out, .inr ⟨HE.out, v11, rfl, ?_⟩⟩⟩
                        rw [HLD.out]
                        exact ho11
end Go.Proofs.Ytonbcipofakpjaa

-- espalierref06.LentCell, AsLentCell: walks.
namespace Go.Proofs.Ytonbcipofakpjaa
open Go.RowKit
/-- A cell that was lent: its bytes lie in blocks of their own. -/
def lentCV (gk gv : Nat) (c : PC) : CV := ⟨.slice (some ⟨gk, 0, none⟩) c.key.length (c.key.length + 9), .slice (some ⟨gv, 0, none⟩) c.val.length (c.val.length + 9), c⟩
structure LentAt (W : World) (base gk gv : Nat) (c : PC) : Prop where
  k : OwB W base (.slice (some ⟨gk, 0, none⟩) (c.key.length + 9) (c.key.length + 9)) (c.key ++ marks9)
  v : OwB W base (.slice (some ⟨gv, 0, none⟩) (c.val.length + 9) (c.val.length + 9)) (c.val ++ marks9)
  lt : gk < gv
theorem LentAt.grown {w w' : World} {base gk gv : Nat} {c : PC} {row : Option Nat} (h : LentAt w base gk gv c) (hg : w.grownBy w' row) (h1 : some gk ≠ row) (h2 : some gv ≠ row) : LentAt w' base gk gv c :=
  ⟨h.k.grown hg (fun g e => by injection e with e; subst e; exact h1), h.v.grown hg (fun g e => by injection e with e; subst e; exact h2), h.lt⟩
theorem LentAt.below {w w' : World} {base gk gv : Nat} {c : PC} (h : LentAt w base gk gv c) (hb : Below w.heap.size w w') : LentAt w' base gk gv c :=
  ⟨h.k.below2 hb, h.v.below2 hb, h.lt⟩
def LentCAt (w : World) (c : PC) (e : Ending) (w' : World) : Prop := ∃ gk gv, e = .returned (cellV (lentCV gk gv c)) ∧ LentAt w' w.heap.size gk gv c ∧ Below w.heap.size w w'
set_option maxRecDepth 100000 in
set_option maxHeartbeats 8000000 in
theorem LentCell_any (x : CV) (w : World) (hx : x.ok w) (h1 : x.c.key.length ≤ 140737488355328) (h2 : x.c.val.length ≤ 140737488355328) :
    Calls Try.prog 47 #[cellV x] w (LentCAt w x.c) := by
  obtain ⟨A, ca, B, cb, key, ck, val, pg, ct, rfl, _, _⟩ := CV.form hx
  have hxk : RdB w (.slice A key.length ca) key := hx.k
  have hxv : RdB w (.slice B val.length cb) val := hx.v
  simp only at h1 h2
  have hb0 : Below w.heap.size w (w.alloc (.cells #[.slice A key.length ca, .int .i64 ck, .slice B val.length cb, .int .i64 pg, .int .i64 ct] 32)) := (Below.refl _ _).alloc (Nat.le_refl _) _
  have hc0 := OBlk.new' w 32 [.slice A key.length ca, .int .i64 ck, .slice B val.length cb, .int .i64 pg, .int .i64 ct]
  unfold cellV LentCAt
  clear hx
  go_enter Try.func47, Try.ntmps47
  go_upto_region 1 with (fail)
  have hcp := hc0.alloc (.cells #[.slice none 0 0, .int .i64 0, .slice none 0 0, .int .i64 0, .int .i64 0] 32)
  have hcr : OBlk ((w.alloc (.cells #[.slice A key.length ca, .int .i64 ck, .slice B val.length cb, .int .i64 pg, .int .i64 ct] 32)).alloc (.cells #[.slice none 0 0, .int .i64 0, .slice none 0 0, .int .i64 0, .int .i64 0] 32)) (w.heap.size + 1) 32 [.slice none 0 0, .int .i64 0, .slice none 0 0, .int .i64 0, .int .i64 0] := by
    have h := OBlk.new' (w.alloc (.cells #[.slice A key.length ca, .int .i64 ck, .slice B val.length cb, .int .i64 pg, .int .i64 ct] 32)) 32 [.slice none 0 0, .int .i64 0, .slice none 0 0, .int .i64 0, .int .i64 0]
    rw [World.size_alloc] at h
    exact h
  have hb2 : Below w.heap.size w ((w.alloc (.cells #[.slice A key.length ca, .int .i64 ck, .slice B val.length cb, .int .i64 pg, .int .i64 ct] 32)).alloc (.cells #[.slice none 0 0, .int .i64 0, .slice none 0 0, .int .i64 0, .int .i64 0] 32)) := hb0.alloc hb0.size _
  clear hc0 hb0
  generalize (w.alloc (.cells #[.slice A key.length ca, .int .i64 ck, .slice B val.length cb, .int .i64 pg, .int .i64 ct] 32)).alloc (.cells #[.slice none 0 0, .int .i64 0, .slice none 0 0, .int .i64 0, .int .i64 0] 32) = w2 at *
  have hcp0 := hcp.lt
  have hcr0 := hcr.lt
  have k0 := hcp.cell' (j := 0) rfl
  have hk2 := hxk.below hb2 (Nat.le_refl _)
  go_upto_region 2 with (first
    | (go_at_call 26; refine (Lent_any _ key _ hk2 h1).mono ?_; rintro e w3 ⟨gk, rfl, hok, hb3⟩; have f3 := (hcp.below hb3 hcp0).frozen (j := 0) (show 0 < 5 by omega); have k3 := (hcp.below hb3 hcp0).cell' (j := 0) rfl)
    | fail)
  have hcp4 := (hcp.below hb3 hcp0).set 0 (.slice (some ⟨gk, 0, none⟩) key.length (key.length + 9))
  have hcr4 := (hcr.below hb3 hcr0).far (p := ⟨w.heap.size, 0, none⟩) (by simp) (.slice (some ⟨gk, 0, none⟩) key.length (key.length + 9))
  have hgk := (Own.lt hok gk rfl).1
  have hgk2 := (Own.lt hok gk rfl).2
  have hok4 := hok.grown (grownBy_setCell w3 ⟨w.heap.size, 0, none⟩ (.slice (some ⟨gk, 0, none⟩) key.length (key.length + 9))) (fun g e h => by
    have e' : gk = g := Option.some.inj e
    have h' : g = w.heap.size := Option.some.inj h
    omega)
  have hb4 := (hb2.trans (hb3.mono hb2.size)).setCell (p := ⟨w.heap.size, 0, none⟩) (Nat.le_refl _) (.slice (some ⟨gk, 0, none⟩) key.length (key.length + 9))
  clear hok hb3 f3 k3 k0 hk2 hcp hcr
  generalize w3.setCell ⟨w.heap.size, 0, none⟩ (.slice (some ⟨gk, 0, none⟩) key.length (key.length + 9)) = w4 at *
  simp only [List.set_cons_zero] at hcp4
  have hcp40 := hcp4.lt
  have hcr40 := hcr4.lt
  have k0 := hcp4.cell' (j := 2) rfl
  have hk2 := hxv.below hb4 (Nat.le_refl _)
  go_upto_region 3 with (first
    | (go_at_call 26; refine (Lent_any _ val _ hk2 h2).mono ?_; rintro e w5 ⟨gv, rfl, hov, hb5⟩; have f3 := (hcp4.below hb5 hcp40).frozen (j := 2) (show 2 < 5 by omega); have k3 := (hcp4.below hb5 hcp40).cell' (j := 2) rfl)
    | fail)
  have hcp6 := (hcp4.below hb5 hcp40).set 2 (.slice (some ⟨gv, 0, none⟩) val.length (val.length + 9))
  have hcr6 := (hcr4.below hb5 hcr40).far (p := ⟨w.heap.size, 2, none⟩) (by simp) (.slice (some ⟨gv, 0, none⟩) val.length (val.length + 9))
  have hgv := (Own.lt hov gv rfl).1
  have hgv2 := (Own.lt hov gv rfl).2
  have hgk4 := (Own.lt hok4 gk rfl).2
  have hov6 := hov.grown (grownBy_setCell w5 ⟨w.heap.size, 2, none⟩ (.slice (some ⟨gv, 0, none⟩) val.length (val.length + 9))) (fun g e h => by
    have e' : gv = g := Option.some.inj e
    have h' : g = w.heap.size := Option.some.inj h
    omega)
  have hok6 := (hok4.below2 hb5).grown (grownBy_setCell w5 ⟨w.heap.size, 2, none⟩ (.slice (some ⟨gv, 0, none⟩) val.length (val.length + 9))) (fun g e h => by
    have e' : gk = g := Option.some.inj e
    have h' : g = w.heap.size := Option.some.inj h
    omega)
  have hb6 := (hb4.trans (hb5.mono hb4.size)).setCell (p := ⟨w.heap.size, 2, none⟩) (Nat.le_refl _) (.slice (some ⟨gv, 0, none⟩) val.length (val.length + 9))
  have hlt : gk < gv := by omega
  have hb4s : w.heap.size ≤ w4.heap.size := hb4.size
  have hok6 := OwB.low hok6 hb2.size
  have hbase2 : w.heap.size + 1 < w2.heap.size := hcr0
  clear hov hok4 hb5 f3 k3 k0 hk2 hcp4 hcr4 hcp40 hcr40 hb4
  generalize w5.setCell ⟨w.heap.size, 2, none⟩ (.slice (some ⟨gv, 0, none⟩) val.length (val.length + 9)) = w6 at *
  simp only [List.set_cons_zero, List.set_cons_succ] at hcp6
  obtain ⟨c0, c1, c2, c3, c4⟩ := cells5 hcp6
  obtain ⟨d0, d1, d2, d3, d4⟩ := cells5 hcr6
  have f0 := hcr6.frozen (j := 0) (show 0 < 5 by omega)
  have f1 := hcr6.frozen (j := 1) (show 1 < 5 by omega)
  have f2 := hcr6.frozen (j := 2) (show 2 < 5 by omega)
  have f3 := hcr6.frozen (j := 3) (show 3 < 5 by omega)
  have f4 := hcr6.frozen (j := 4) (show 4 < 5 by omega)
  go_wp2_with fail
  have hcr7 : OBlk (((((w6.setCell ⟨w.heap.size + 1, 0, none⟩ (.slice (some ⟨gk, 0, none⟩) key.length (key.length + 9))).setCell ⟨w.heap.size + 1, 1, none⟩ (.int .i64 ck)).setCell ⟨w.heap.size + 1, 2, none⟩ (.slice (some ⟨gv, 0, none⟩) val.length (val.length + 9))).setCell ⟨w.heap.size + 1, 3, none⟩ (.int .i64 pg)).setCell ⟨w.heap.size + 1, 4, none⟩ (.int .i64 ct)) (w.heap.size + 1) 32 [(.slice (some ⟨gk, 0, none⟩) key.length (key.length + 9)), .int .i64 ck, (.slice (some ⟨gv, 0, none⟩) val.length (val.length + 9)), .int .i64 pg, .int .i64 ct] := ((((hcr6.set 0 (.slice (some ⟨gk, 0, none⟩) key.length (key.length + 9))).set 1 (.int .i64 ck)).set 2 (.slice (some ⟨gv, 0, none⟩) val.length (val.length + 9))).set 3 (.int .i64 pg)).set 4 (.int .i64 ct)
  have hg7 : w6.grownBy (((((w6.setCell ⟨w.heap.size + 1, 0, none⟩ (.slice (some ⟨gk, 0, none⟩) key.length (key.length + 9))).setCell ⟨w.heap.size + 1, 1, none⟩ (.int .i64 ck)).setCell ⟨w.heap.size + 1, 2, none⟩ (.slice (some ⟨gv, 0, none⟩) val.length (val.length + 9))).setCell ⟨w.heap.size + 1, 3, none⟩ (.int .i64 pg)).setCell ⟨w.heap.size + 1, 4, none⟩ (.int .i64 ct)) (some (w.heap.size + 1)) := grownBy_trans (grownBy_trans (grownBy_trans (grownBy_trans (grownBy_setCell _ _ _) (grownBy_setCell _ _ _)) (grownBy_setCell _ _ _)) (grownBy_setCell _ _ _)) (grownBy_setCell _ _ _)
  generalize (((((w6.setCell ⟨w.heap.size + 1, 0, none⟩ (.slice (some ⟨gk, 0, none⟩) key.length (key.length + 9))).setCell ⟨w.heap.size + 1, 1, none⟩ (.int .i64 ck)).setCell ⟨w.heap.size + 1, 2, none⟩ (.slice (some ⟨gv, 0, none⟩) val.length (val.length + 9))).setCell ⟨w.heap.size + 1, 3, none⟩ (.int .i64 pg)).setCell ⟨w.heap.size + 1, 4, none⟩ (.int .i64 ct)) = w7 at *
  obtain ⟨r0, r1, r2, r3, r4⟩ := cells5 hcr7
  refine bodyPost_ret (v := .agg #[(.slice (some ⟨gk, 0, none⟩) key.length (key.length + 9)), .int .i64 ck, (.slice (some ⟨gv, 0, none⟩) val.length (val.length + 9)), .int .i64 pg, .int .i64 ct]) ?_ rfl ?_
  · simp [results, Try.results47, go_sem, r0, r1, r2, r3, r4]
  · refine ⟨gk, gv, rfl, ⟨hok6.grown hg7 (fun g e h => ?_), OwB.low (hov6.grown hg7 (fun g e h => ?_)) hb4s, hlt⟩, hb6.grown hg7 hb6.size (fun g e => ?_)⟩
    · have e' : gk = g := Option.some.inj e
      have h' : g = w.heap.size + 1 := Option.some.inj h
      omega
    · have e' : gv = g := Option.some.inj e
      have h' : g = w.heap.size + 1 := Option.some.inj h
      omega
    · have h' : w.heap.size + 1 = g := Option.some.inj e
      omega
end Go.Proofs.Ytonbcipofakpjaa

-- espalierref06.AsLentCell: the walk.
namespace Go.Proofs.Ytonbcipofakpjaa
open Go.RowKit
set_option maxRecDepth 100000 in
set_option maxHeartbeats 8000000 in
theorem AsLentCell_any (w0 : World) (x : CV) (gk gv : Nat) (w : World) (hx : x.ok w0) (hb0 : Below w0.heap.size w0 w) (hL : LentAt w w0.heap.size gk gv x.c) (h1 : x.c.key.length ≤ 140737488355328) (h2 : x.c.val.length ≤ 140737488355328) :
    Calls Try.prog 54 #[cellV (lentCV gk gv x.c), cellV x] w fun e w' => e = .returned (.bool true) ∧ Turn (fun g => g = gk ∨ g = gv) w w' := by
  obtain ⟨A, ca, B, cb, key, ck, val, pg, ct, rfl, _, _⟩ := CV.form hx
  have hxk : RdB w0 (.slice A key.length ca) key := hx.k
  have hxv : RdB w0 (.slice B val.length cb) val := hx.v
  obtain ⟨hok, hov, hlt⟩ := hL
  simp only at h1 h2 hok hov
  have hT0 : Turn (fun g => g = gk ∨ g = gv) w w := Turn.refl _ _
  have hT1 := hT0.alloc (.cells #[.slice (some ⟨gk, 0, none⟩) key.length (key.length + 9), .int .i64 ck, .slice (some ⟨gv, 0, none⟩) val.length (val.length + 9), .int .i64 pg, .int .i64 ct] 32)
  have hT2 := hT1.alloc (.cells #[.slice A key.length ca, .int .i64 ck, .slice B val.length cb, .int .i64 pg, .int .i64 ct] 32)
  have hcp := (OBlk.new' w 32 [.slice (some ⟨gk, 0, none⟩) key.length (key.length + 9), .int .i64 ck, .slice (some ⟨gv, 0, none⟩) val.length (val.length + 9), .int .i64 pg, .int .i64 ct]).alloc (.cells #[.slice A key.length ca, .int .i64 ck, .slice B val.length cb, .int .i64 pg, .int .i64 ct] 32)
  have hcq := OBlk.new' (w.alloc (.cells #[.slice (some ⟨gk, 0, none⟩) key.length (key.length + 9), .int .i64 ck, .slice (some ⟨gv, 0, none⟩) val.length (val.length + 9), .int .i64 pg, .int .i64 ct] 32)) 32 [.slice A key.length ca, .int .i64 ck, .slice B val.length cb, .int .i64 pg, .int .i64 ct]
  rw [World.size_alloc] at hcq
  have hgk := Own.lt hok gk rfl
  have hgv := Own.lt hov gv rfl
  have hok := (hok.alloc (.cells #[.slice (some ⟨gk, 0, none⟩) key.length (key.length + 9), .int .i64 ck, .slice (some ⟨gv, 0, none⟩) val.length (val.length + 9), .int .i64 pg, .int .i64 ct] 32)).alloc (.cells #[.slice A key.length ca, .int .i64 ck, .slice B val.length cb, .int .i64 pg, .int .i64 ct] 32)
  have hov := (hov.alloc (.cells #[.slice (some ⟨gk, 0, none⟩) key.length (key.length + 9), .int .i64 ck, .slice (some ⟨gv, 0, none⟩) val.length (val.length + 9), .int .i64 pg, .int .i64 ct] 32)).alloc (.cells #[.slice A key.length ca, .int .i64 ck, .slice B val.length cb, .int .i64 pg, .int .i64 ct] 32)
  have hF : ∀ b, (b = gk ∨ b = gv) → w0.heap.size ≤ b := fun b hb => by rcases hb with rfl | rfl <;> omega
  have hbs := hb0.size
  unfold cellV lentCV
  clear hx hT0 hT1
  go_enter Try.func54, Try.ntmps54
  go_upto_region 1 with (fail)
  generalize (w.alloc (.cells #[.slice (some ⟨gk, 0, none⟩) key.length (key.length + 9), .int .i64 ck, .slice (some ⟨gv, 0, none⟩) val.length (val.length + 9), .int .i64 pg, .int .i64 ct] 32)).alloc (.cells #[.slice A key.length ca, .int .i64 ck, .slice B val.length cb, .int .i64 pg, .int .i64 ct] 32) = w2 at *
  obtain ⟨c0, c1, c2, c3, c4⟩ := cells5 hcp
  obtain ⟨d0, d1, d2, d3, d4⟩ := cells5 hcq
  go_upto_region 2 with (fail)
  clear c0 c1 c2 c3 c4 d0 d1 d2 d3 d4
  generalize w2 = w3 at *
  have hcp0 := hcp.lt
  have hcq0 := hcq.lt
  have hB3 := hb0.trans (hT2.below hbs hF)
  obtain ⟨c0, -, -, -, -⟩ := cells5 hcp
  obtain ⟨d0, -, -, -, -⟩ := cells5 hcq
  have hal := AsLent_any gk key.length _ key _ w3 rfl hok (hxk.below hB3 (Nat.le_refl _)) h1
  go_upto_region 3 with (first
    | (go_at_call 28; refine hal.mono ?_; rintro e w4 ⟨rfl, hg4⟩)
    | fail)
  have hT4 := hT2.grown hg4 (fun b e => .inl (.inl (Option.some.inj e).symm))
  have hov4 := hov.grown hg4 (fun g e h => by
    have e' : gv = g := Option.some.inj e
    have h' : g = gk := Option.some.inj h
    omega)
  have hcp4 := hcp.grown hg4 (fun h => by have h' : w.heap.size = gk := Option.some.inj h; omega)
  have hcq4 := hcq.grown hg4 (fun h => by have h' : w.heap.size + 1 = gk := Option.some.inj h; omega)
  have hB4 := hb0.trans (hT4.below hbs hF)
  clear hal hg4 hok hov hcp hcq hB3 hT2 c0 d0 hcp0 hcq0
  obtain ⟨-, -, c2, -, -⟩ := cells5 hcp4
  obtain ⟨-, -, d2, -, -⟩ := cells5 hcq4
  have hal := AsLent_any gv val.length _ val _ w4 rfl hov4 (hxv.below hB4 (Nat.le_refl _)) h2
  go_wp2_with (first
    | (go_at_call 28; refine hal.mono ?_; rintro e w5 ⟨rfl, hg5⟩)
    | fail)
  go_ret
  exact ⟨rfl, hT4.grown hg5 (fun b e => .inl (.inr (Option.some.inj e).symm))⟩
end Go.Proofs.Ytonbcipofakpjaa

-- Cells made, cells stored: see Cs.


-- espalierref06.Lent: the walk.
namespace Go.Proofs.Ytonbcipofakpjaa
open Go.RowKit
def lentL (ps : List (Nat × Nat)) (cs : List PC) : List CV := List.zipWith (fun p c => lentCV p.1 p.2 c) ps cs
theorem lentL_length {ps : List (Nat × Nat)} {cs : List PC} (h : ps.length = cs.length) : (lentL ps cs).length = cs.length := by unfold lentL; rw [List.length_zipWith, h, Nat.min_self]
theorem lentL_snoc {ps : List (Nat × Nat)} {cs : List PC} (h : ps.length = cs.length) (p : Nat × Nat) (c : PC) : lentL (ps ++ [p]) (cs ++ [c]) = lentL ps cs ++ [lentCV p.1 p.2 c] := by
  unfold lentL; rw [List.zipWith_append h]; rfl
structure LentsAt (W : World) (base : Nat) (ps : List (Nat × Nat)) (cs : List PC) : Prop where
  len : ps.length = cs.length
  each : ∀ i (h : i < ps.length) (h' : i < cs.length), LentAt W base ps[i].1 ps[i].2 cs[i]
  rise : ps.Pairwise (fun p q => p.2 < q.1)
theorem LentsAt.nil (W : World) (base : Nat) : LentsAt W base [] [] := ⟨rfl, fun i h => by simp at h, List.Pairwise.nil⟩
theorem LentsAt.grown {w w' : World} {base : Nat} {ps : List (Nat × Nat)} {cs : List PC} {row : Option Nat} (h : LentsAt w base ps cs) (hg : w.grownBy w' row) (hr : ∀ k, row = some k → k < base) : LentsAt w' base ps cs :=
  ⟨h.len, fun i h1 h2 => by
    have e := h.each i h1 h2
    have b1 : base ≤ ps[i].1 := (Own.lt e.k ps[i].1 rfl).1
    have b2 : base ≤ ps[i].2 := (Own.lt e.v ps[i].2 rfl).1
    exact e.grown hg (fun h' => by have := hr ps[i].1 h'.symm; omega) (fun h' => by have := hr ps[i].2 h'.symm; omega), h.rise⟩
theorem LentsAt.below {w w' : World} {base : Nat} {ps : List (Nat × Nat)} {cs : List PC} (h : LentsAt w base ps cs) (hb : Below w.heap.size w w') : LentsAt w' base ps cs :=
  ⟨h.len, fun i h1 h2 => (h.each i h1 h2).below hb, h.rise⟩
theorem LentAt.low {w : World} {base b gk gv : Nat} {c : PC} (h : LentAt w base gk gv c) (hb : b ≤ base) : LentAt w b gk gv c := ⟨h.k.low hb, h.v.low hb, h.lt⟩
theorem LentsAt.snoc {w w' : World} {base gk gv : Nat} {ps : List (Nat × Nat)} {cs : List PC} {c : PC} (h : LentsAt w base ps cs) (hb : Below w.heap.size w w') (hl : LentAt w' w.heap.size gk gv c) (hs : base ≤ w.heap.size) :
    LentsAt w' base (ps ++ [(gk, gv)]) (cs ++ [c]) := by
  have h' := h.below hb
  refine ⟨by simp [h.len], fun i h1 h2 => ?_, ?_⟩
  · by_cases hi : i < ps.length
    · have e := h'.each i hi (by rw [← h.len]; exact hi)
      rw [List.getElem_append_left hi, List.getElem_append_left (by rw [← h.len]; exact hi)]
      exact e
    · have hi' : i = ps.length := by simp at h1; omega
      subst hi'
      rw [List.getElem_append_right (Nat.le_refl _), List.getElem_append_right (by rw [h.len]; exact Nat.le_refl _)]
      simp only [List.getElem_singleton]
      exact hl.low hs
  · rw [List.pairwise_append]
    refine ⟨h.rise, by simp, fun a ha b hb' => ?_⟩
    obtain rfl := List.mem_singleton.1 hb'
    obtain ⟨i, hi, rfl⟩ := List.getElem_of_mem ha
    have e := h.each i hi (by rw [← h.len]; exact hi)
    have b3 : ps[i].2 < w.heap.size := (Own.lt e.v ps[i].2 rfl).2
    have b4 : w.heap.size ≤ gk := (Own.lt hl.k gk rfl).1
    show ps[i].2 < gk
    omega
def lentX (n : Nat) (ps : List (Nat × Nat)) (cs : List PC) (k : Nat) : List CV := lentL ps (cs.take k) ++ (List.replicate (k - n) (markCV (-7)) ++ List.replicate (n + 3 - k) (markCV 0))
theorem lentX_form {n k : Nat} {ps : List (Nat × Nat)} {cs : List PC} (h : ps.length = (cs.take k).length) (hc : cs.length = n) (hk : k < n + 3) :
    ∃ X, X.length = k ∧ X = lentL ps (cs.take k) ++ List.replicate (k - n) (markCV (-7)) ∧ lentX n ps cs k = X ++ markCV 0 :: List.replicate (n + 3 - (k + 1)) (markCV 0) := by
  refine ⟨lentL ps (cs.take k) ++ List.replicate (k - n) (markCV (-7)), ?_, rfl, ?_⟩
  · rw [List.length_append, lentL_length h, List.length_take, List.length_replicate]; omega
  · unfold lentX
    rw [show n + 3 - k = (n + 3 - (k + 1)) + 1 by omega, List.replicate_succ, List.append_assoc]
theorem lentX_mark {n k : Nat} {ps : List (Nat × Nat)} {cs : List PC} (h : ps.length = (cs.take k).length) (hc : cs.length = n) (hk : k < n + 3) (hn : n ≤ k) :
    (lentX n ps cs k).set k (markCV (-7)) = lentX n ps cs (k + 1) := by
  obtain ⟨X, hX, hX2, e⟩ := lentX_form h hc hk
  rw [e, List.set_append_right _ _ (by omega), hX, Nat.sub_self, List.set_cons_zero, hX2]
  unfold lentX
  rw [List.take_of_length_le (by omega), List.take_of_length_le (by omega), show k + 1 - n = (k - n) + 1 by omega, List.replicate_succ']
  simp only [List.append_assoc, List.singleton_append]
theorem lentX_cell {n k : Nat} {ps : List (Nat × Nat)} {cs : List PC} (h : ps.length = (cs.take k).length) (hc : cs.length = n) (hk : k < n) (p : Nat × Nat) (m : CV) :
    ((lentX n ps cs k).set k m).set k (lentCV p.1 p.2 (cs[k]'(by omega))) = lentX n (ps ++ [p]) cs (k + 1) := by
  obtain ⟨X, hX, hX2, e⟩ := lentX_form h hc (show k < n + 3 by omega)
  rw [e, List.set_append_right _ _ (by omega), hX, Nat.sub_self, List.set_cons_zero, List.set_append_right _ _ (by omega), hX, Nat.sub_self, List.set_cons_zero, hX2]
  unfold lentX
  rw [List.take_succ_eq_append_getElem (by omega), lentL_snoc h, show k + 1 - n = 0 by omega, show k - n = 0 by omega]
  simp
set_option maxRecDepth 100000 in
set_option maxHeartbeats 8000000 in
theorem LentL_any (v : Value) (l : List CV) (w : World) (hl : RdCs w v l) (hn : (l.length + 3) * 72 ≤ 281474976710656) (hs : ∀ c ∈ pcs l, c.key.length ≤ 140737488355328 ∧ c.val.length ≤ 140737488355328) :
    Calls Try.prog 14 #[v] w fun e w' => ∃ ps, e = .returned (.slice (some ⟨w.heap.size, 0, none⟩) l.length (l.length + 3)) ∧ OBlk w' w.heap.size 32 (flatC (lentL ps (pcs l) ++ List.replicate 3 (markCV (-7)))) ∧ LentsAt w' (w.heap.size + 1) ps (pcs l) ∧ Below w.heap.size w w' := by
  obtain ⟨A, c, rfl, hm, hc⟩ := hl.slice
  obtain ⟨n, hnn⟩ : ∃ n, l.length = n := ⟨_, rfl⟩
  rw [hnn] at hl hn hm ⊢
  go_enter Try.func14, Try.ntmps14
  go_wp2_with (first
    | (at_make; refine wp_make_C rfl (.tmp 9) (.tmp 9) rfl _ (n + 3) rfl rfl (by go_num) (by omega) ?_; intro w1 hb1 hw1 hs1)
    | fail)
  go_loopw [5] (fun i wr => ∃ (k : Nat) (ps : List (Nat × Nat)), k ≤ n + 3 ∧ i = .int .i64 (k : Int) ∧ OBlk wr w.heap.size 32 (flatC (lentX n ps (pcs l) k)) ∧ LentsAt wr (w.heap.size + 1) ps ((pcs l).take k) ∧ Below w.heap.size w wr) (fun i _ => n + 3 - (intOf i).toNat)
  case atStart => exact ⟨0, [], by omega, rfl, by simpa [lentX, lentL] using hb1, LentsAt.nil _ _, hw1⟩
  case round =>
    clear hb1 hw1 hs1
    obtain ⟨k, ps, hk, rfl, hb, hL, hB⟩ := hrel
    have hcl : (pcs l).length = n := by rw [pcs_length]; exact hnn
    by_cases hlt : k < n + 3
    · have ik : (k : Int) < (n : Int) + 3 := by omega
      have hLen : (lentX n ps (pcs l) k).length = n + 3 := by
        obtain ⟨X, hX, _, e⟩ := lentX_form hL.len hcl hlt
        rw [e, List.length_append, List.length_cons, List.length_replicate]; omega
      obtain ⟨c0, c1, c2, c3, c4⟩ := cellsC hb k (by omega)
      obtain ⟨f0, f1, f2, f3, f4⟩ := frozC hb k (by omega)
      have hb6 : OBlk (((((wr.setCell ⟨w.heap.size, k * 5, none⟩ (.slice none 0 0)).setCell ⟨w.heap.size, k * 5 + 1, none⟩ (.int .i64 (-7))).setCell ⟨w.heap.size, k * 5 + 2, none⟩ (.slice none 0 0)).setCell ⟨w.heap.size, k * 5 + 3, none⟩ (.int .i64 0)).setCell ⟨w.heap.size, k * 5 + 4, none⟩ (.int .i64 0)) w.heap.size 32 (flatC ((lentX n ps (pcs l) k).set k (markCV (-7)))) := set5C hb k (by omega) (markCV (-7))
      have hg6 := grown5 wr w.heap.size k (.slice none 0 0) (.int .i64 (-7)) (.slice none 0 0) (.int .i64 0) (.int .i64 0)
      have hL6 := hL.grown hg6 (fun j e => by have e' : w.heap.size = j := Option.some.inj e; omega)
      have hB6 := hB.grown hg6 hB.size (fun j e => Nat.le_of_eq (Option.some.inj e))
      have hlen2 : ((lentX n ps (pcs l) k).set k (markCV (-7))).length = n + 3 := by rw [List.length_set]; exact hLen
      have HMK : Hid (n ≤ k → (lentX n ps (pcs l) k).set k (markCV (-7)) = lentX n ps (pcs l) (k + 1)) := Lib.hid (lentX_mark hL.len hcl hlt)
      have HCE : Hid (∀ (h : k < n) p c, (pcs l)[k]? = some c → ((lentX n ps (pcs l) k).set k (markCV (-7))).set k (lentCV p.1 p.2 c) = lentX n (ps ++ [p]) (pcs l) (k + 1)) := Lib.hid (fun h p c hc => by
        rw [List.getElem?_eq_getElem (by omega)] at hc
        injection hc with hc
        rw [← hc]; exact lentX_cell hL.len hcl h p _)
      generalize (lentX n ps (pcs l) k)[k]'(by omega) = x0 at *
      clear hb hg6
      generalize (lentX n ps (pcs l) k).set k (markCV (-7)) = L6 at *
      go_upto_region 7 with (fail)
      generalize (((((wr.setCell ⟨w.heap.size, k * 5, none⟩ (.slice none 0 0)).setCell ⟨w.heap.size, k * 5 + 1, none⟩ (.int .i64 (-7))).setCell ⟨w.heap.size, k * 5 + 2, none⟩ (.slice none 0 0)).setCell ⟨w.heap.size, k * 5 + 3, none⟩ (.int .i64 0)).setCell ⟨w.heap.size, k * 5 + 4, none⟩ (.int .i64 0)) = w6 at *
      clear c0 c1 c2 c3 c4 f0 f1 f2 f3 f4 hL hB hLen
      by_cases hkn : k < n
      · have ikn : (k : Int) < (n : Int) := by omega
        have hkl : k < l.length := by omega
        obtain ⟨ad, rfl, s0, s1, s2, s3, s4⟩ := (hl.below hB6).at_ hkl
        have hx := (hl.below hB6).ok _ (List.getElem_mem hkl)
        have hpc : (pcs l)[k]? = some l[k].c := by rw [List.getElem?_eq_getElem (by omega), pcs_at hkl]
        have htk : (pcs l).take (k + 1) = (pcs l).take k ++ [l[k].c] := by rw [List.take_succ_eq_append_getElem (by omega), pcs_at hkl]
        obtain ⟨z1, z2⟩ := hs l[k].c (by rw [← pcs_at hkl]; exact List.getElem_mem _)
        generalize l[k] = x at *
        obtain ⟨A1, a1, B1, b1, key, ck, val, pg, ct, rfl, _, _⟩ := CV.form hx
        have hLC : Calls Try.prog 47 #[.agg #[.slice A1 key.length a1, .int .i64 ck, .slice B1 val.length b1, .int .i64 pg, .int .i64 ct]] w6 fun e w' => ∃ gk gv, e = .returned (.agg #[.slice (some ⟨gk, 0, none⟩) key.length (key.length + 9), .int .i64 ck, .slice (some ⟨gv, 0, none⟩) val.length (val.length + 9), .int .i64 pg, .int .i64 ct]) ∧ LentAt w' w6.heap.size gk gv ⟨key, ck, val, pg, ct⟩ ∧ Below w6.heap.size w6 w' := LentCell_any _ w6 hx z1 z2
        have HPC := Lib.hid (fun p => HCE.out hkn p _ hpc)
        have HTK := Lib.hid htk
        have hb6l := hb6.lt
        clear hx z1 z2 hpc htk HCE HMK
        go_wp2_with (first
          | (go_at_call 47; refine hLC.mono ?_; rintro e w7 ⟨gk, gv, rfl, hl7, hb7⟩; have hb7' := hb6.below hb7 hb6l; obtain ⟨c0, c1, c2, c3, c4⟩ := cellsC hb7' k (by omega); obtain ⟨f0, f1, f2, f3, f4⟩ := frozC hb7' k (by omega); generalize L6[k]'(by omega) = x7 at *)
          | fail)
        have hb8 := set5C hb7' k (by omega) (lentCV gk gv ⟨key, ck, val, pg, ct⟩)
        rw [HPC.out (gk, gv)] at hb8
        have hg8 := grown5 w7 w.heap.size k (.slice (some ⟨gk, 0, none⟩) key.length (key.length + 9)) (.int .i64 ck) (.slice (some ⟨gv, 0, none⟩) val.length (val.length + 9)) (.int .i64 pg) (.int .i64 ct)
        refine ⟨⟨k + 1, ps ++ [(gk, gv)], by omega, by go_num, hb8, ?_, (hB6.trans (hb7.mono hB6.size)).grown hg8 (Nat.le_trans hB6.size hb7.size) (fun j e => Nat.le_of_eq (Option.some.inj e))⟩, by simp [intOf]; omega⟩
        rw [HTK.out]
        exact (hL6.snoc hb7 hl7 (by omega)).grown hg8 (fun j e => by have e' : w.heap.size = j := Option.some.inj e; omega)
      · have ikn : ¬ (k : Int) < (n : Int) := by omega
        have htk : (pcs l).take (k + 1) = (pcs l).take k := by rw [List.take_of_length_le (by omega), List.take_of_length_le (by omega)]
        have hmk := HMK.out (by omega)
        rw [hmk] at hb6
        rw [← htk] at hL6
        clear HMK HCE hmk htk hlen2
        go_wp2_with fail
        exact ⟨⟨k + 1, ps, by omega, by go_num, hb6, hL6, hB6⟩, by simp [intOf]; omega⟩
    · obtain rfl : k = n + 3 := by omega
      have e : lentX n ps (pcs l) (n + 3) = lentL ps (pcs l) ++ List.replicate 3 (markCV (-7)) := by
        unfold lentX
        rw [List.take_of_length_le (by omega), show n + 3 - n = 3 by omega, Nat.sub_self]
        simp
      rw [e] at hb
      rw [List.take_of_length_le (by omega)] at hL
      clear e
      go_wp2_with fail
      go_ret
      exact ⟨ps, rfl, hb, hL, hB⟩
end Go.Proofs.Ytonbcipofakpjaa
