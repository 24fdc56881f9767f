/- plain.Encode: the walk. -/
import Derived.Test.YtonbcipofakpjaaPlnLaid
import Derived.Test.YtonbcipofakpjaaByCmp
namespace Go.Proofs.Ytonbcipofakpjaa
open Go.RowKit
/-- What Encode answers. -/
def EncAt (w : World) (kind : Int) (l : List PC) (P : Int) (e : Ending) (w' : World) : Prop :=
  Below w.heap.size w w' ∧ ((isKindB kind && isPowB P) = false ∧ e = .returned (.tuple #[.slice none 0 0, .int .i64 1]) ∨
    (isKindB kind && isPowB P) = true ∧ ((encE kind l P.toNat ≠ 0 ∧ e = .returned (.tuple #[.slice none 0 0, .int .i64 (encE kind l P.toNat)])) ∨
      (encE kind l P.toNat = 0 ∧ ∃ g, e = .returned (.tuple #[.slice (some ⟨g, 0, none⟩) P.toNat P.toNat, .int .i64 0]) ∧ w.heap.size ≤ g ∧ OBlk w' g 5 (bvs (laidF kind l P.toNat)))))
theorem okc_fit {P : Nat} {c : PC} (h : OkC P c) (hP : P ≤ 65536) : c.key.length + c.val.length ≤ 131072 := by
  have h1 := h.k0
  have h2 := h.v0
  have h3 := h.v1
  by_cases h : c.kind = 1
  · have := (h2 h).1; omega
  · rw [(h3 h).1]; simp; omega
theorem fit_of {P : Nat} {l : List PC} (h : ∀ c ∈ l, OkC P c) (hP : P ≤ 65536) (hn : l.length ≤ 2000000000000) : Fit l := by
  refine ⟨?_, fun c hc => ?_⟩
  · have := longs_le h hP
    rw [sizeF_eq]; omega
  · have := okc_fit (h c hc) hP; omega
theorem prevK_zero (l : List PC) : prevK l 0 = none := rfl
theorem prevK_succ (l : List PC) {i : Nat} (hi : i < l.length) : prevK l (i + 1) = some l[i].key := by
  unfold prevK
  rw [if_neg (by omega)]
  simp [List.getD, hi]
set_option maxRecDepth 100000 in
set_option maxHeartbeats 8000000 in
theorem PEncode_any (kind : Int) (v : Value) (l : List CV) (P : Int) (hPr : i64r P) (w : World) (hl : RdCs w v l) (hn : l.length ≤ 2000000000000) :
    Calls Try.prog 15 #[.int .i64 kind, v, .int .i64 P] w (EncAt w kind (pcs l) P) := by
  obtain ⟨A, c, rfl, hm, hc⟩ := hl.slice
  have hKi := fun W => isKind_any kind W
  have hPa := fun W => isPage_any P hPr W
  cases hk : isKindB kind with
  | false =>
    have HK : Hid ((isKindB kind && isPowB P) = false) := by show _ = _; rw [hk]; rfl
    rw [hk] at hKi
    clear hk
    go_enter Try.func15, Try.ntmps15
    go_wp2_with (first | (go_at_call 48; refine (hKi _).mono ?_; rintro e w1 ⟨rfl, rfl⟩) | fail)
    go_ret2
    exact ⟨Below.refl _ _, .inl ⟨HK.out, rfl⟩⟩
  | true =>
    cases hp : isPowB P with
    | false =>
      have HK : Hid ((isKindB kind && isPowB P) = false) := by show _ = _; rw [hk, hp]; rfl
      rw [hk] at hKi
      rw [hp] at hPa
      clear hk hp
      go_enter Try.func15, Try.ntmps15
      go_wp2_with (first | (go_at_call 48; refine (hKi _).mono ?_; rintro e w1 ⟨rfl, rfl⟩) | (go_at_call 49; refine (hPa _).mono ?_; rintro e w1 ⟨rfl, rfl⟩) | fail)
      go_ret2
      exact ⟨Below.refl _ _, .inl ⟨HK.out, rfl⟩⟩
    | true =>
      have HK : Hid ((isKindB kind && isPowB P) = true) := by show _ = _; rw [hk, hp]; rfl
      have HKD := Lib.hid hk
      obtain ⟨hP1, hP2⟩ := isPowB_range hp
      rw [hk] at hKi
      rw [hp] at hPa
      clear hk hp
      obtain ⟨Q, rfl⟩ : ∃ Q : Nat, P = (Q : Int) := ⟨P.toNat, by omega⟩
      unfold EncAt
      rw [show ((Q : Int)).toNat = Q from rfl]
      have hQ1 : 512 ≤ Q := by omega
      have hQ2 : Q ≤ 65536 := by omega
      go_enter Try.func15, Try.ntmps15
      go_wp2_with (first | (go_at_call 48; refine (hKi _).mono ?_; rintro e w1 ⟨rfl, rfl⟩) | (go_at_call 49; refine (hPa _).mono ?_; rintro e w1 ⟨rfl, rfl⟩) | fail)
      clear hKi hPa
      go_loopw [20] (fun i wr => ∃ k : Nat, k ≤ l.length ∧ i = .int .i64 (k : Int) ∧ Hid (scanE kind Q none (pcs l) = scanE kind Q (prevK (pcs l) k) ((pcs l).drop k)) ∧ Hid (∀ j (hj : j < k) (hjl : j < (pcs l).length), OkC Q (pcs l)[j]) ∧ Below w.heap.size w wr) (fun i _ => l.length - (intOf i).toNat)
      case atStart => exact ⟨0, Nat.zero_le _, rfl, Lib.hid rfl, Lib.hid (fun j hj => by omega), Below.refl _ _⟩
      case round =>
        obtain ⟨k, hk, rfl, HSC, HOK, hB⟩ := hrel
        by_cases hlt : k < l.length
        · have ik : (k : Int) < (l.length : Int) := by omega
          have hlp : k < (pcs l).length := by rw [pcs_length]; exact hlt
          have hst := scan_step (kind := kind) (P := Q) hlp
          have hpk := prevK_succ (pcs l) hlp
          rw [← HSC.out] at hst
          have hcx : ∀ c, (pcs l)[k] = c → Hid (mayP kind Q c = true → ∀ j (hj : j < k + 1) (hjl : j < (pcs l).length), OkC Q (pcs l)[j]) := fun c hc => Lib.hid (fun hmay j hj hjl => by
            by_cases e : j = k
            · subst e; rw [hc]; exact may_ok hmay
            · exact HOK.out j (by omega) hjl)
          rw [pcs_at hlt] at hst hpk
          have hcx := hcx _ (pcs_at hlt)
          obtain ⟨ad, rfl, c0, c1, c2, c3, c4⟩ := (hl.below hB).at_ hlt
          have hx := (hl.below hB).ok _ (List.getElem_mem hlt)
          have hprev : ∀ q, prevK (pcs l) k = some q → ∃ A0 a0, 0 < k ∧ RdB wr (.slice A0 q.length a0) q ∧ wr.cell? (ad.add ((k - 1) * 5)) = some (.slice A0 q.length a0) := fun q hq => by
            unfold prevK at hq
            split at hq
            · cases hq
            · have hk1 : k - 1 < l.length := by omega
              obtain ⟨_, ea, d0, _⟩ := (hl.below hB).at_ hk1
              cases ea
              have hxp := (hl.below hB).ok _ (List.getElem_mem hk1)
              have e1 : (pcs l).getD (k - 1) default = l[k - 1].c := by simp [List.getD, pcs, hk1]
              rw [e1] at hq
              injection hq with hq
              obtain ⟨A0, a0, he, _⟩ := hxp.k.form
              rw [he, hq] at d0
              have hk2 := hxp.k
              rw [he, hq] at hk2
              exact ⟨A0, a0, by omega, hk2, d0⟩
          generalize l[k] = x at *
          obtain ⟨A1, a1, B1, b1, key, ck, val, pg, ct, rfl, _, _⟩ := CV.form hx
          have hma := fun W => may_any ⟨.slice A1 key.length a1, .slice B1 val.length b1, ⟨key, ck, val, pg, ct⟩⟩ kind Q hQ2 W
          unfold cellV at hma
          have hA0 : Below wr.heap.size wr (wr.alloc (.cells #[.slice A1 key.length a1, .int .i64 ck, .slice B1 val.length b1, .int .i64 pg, .int .i64 ct] 32)) := (Below.refl wr.heap.size wr).alloc (Nat.le_refl _) _
          have hA := hB.trans (hA0.mono hB.size)
          have hx' : CV.ok (wr.alloc (.cells #[.slice A1 key.length a1, .int .i64 ck, .slice B1 val.length b1, .int .i64 pg, .int .i64 ct] 32)) ⟨.slice A1 key.length a1, .slice B1 val.length b1, ⟨key, ck, val, pg, ct⟩⟩ := hx.below hA0
          have hcb := OBlk.new' wr 32 [.slice A1 key.length a1, .int .i64 ck, .slice B1 val.length b1, .int .i64 pg, .int .i64 ct]
          have hst' : scanE kind Q none (pcs l) = if mayP kind Q ⟨key, ck, val, pg, ct⟩ = false then 62 else if afterP (prevK (pcs l) k) key = false then 63 else scanE kind Q (prevK (pcs l) (k + 1)) ((pcs l).drop (k + 1)) := hst
          clear hst
          have hgl := hB.size
          have hxk := hx'.k
          simp only at hxk
          clear hx hB
          go_wp2_with fail
          refine (hma _ hx').mono ?_
          rintro e w2 ⟨rfl, hb2⟩
          have hA2 := hA.trans (hb2.mono hA.size)
          have hcb2 := hcb.below hb2 hcb.lt
          have hA02 := hA0.trans (hb2.mono hA0.size)
          rcases Bool.eq_false_or_eq_true (mayP kind Q ⟨key, ck, val, pg, ct⟩) with hmy | hmy
          · rw [if_neg (by rw [hmy]; simp)] at hst'
            have HCX := Lib.hid (hcx.out hmy)
            clear hma hcx hcb hA hA0 hx' c0 c1 c2 c3 c4 HOK
            have k0 : w2.cell? ⟨wr.heap.size, 0, none⟩ = some (.slice A1 key.length a1) := hcb2.cell' rfl
            have hkr : RdB w2 (.slice A1 key.length a1) key := hxk.below hb2 (Nat.le_refl _)
            rw [hmy]
            clear hmy
            by_cases hk0 : 0 < k
            · obtain ⟨kk, rfl⟩ : ∃ kk, k = kk + 1 := ⟨k - 1, by omega⟩
              obtain ⟨q, hq⟩ : ∃ q, prevK (pcs l) (kk + 1) = some q := ⟨_, prevK_succ (pcs l) (by rw [pcs_length]; omega)⟩
              obtain ⟨A0, a0, _, hqr, hqc⟩ := hprev q hq
              rw [hq] at hst'
              rw [show kk + 1 - 1 = kk by omega] at hqc
              have hq2 : w2.cell? (ad.add (kk * 5)) = some (.slice A0 q.length a0) := (hA02.cell (World.block_lt_of_cell? wr _ hqc)).trans hqc
              have hqr2 := hqr.below hA02 (Nat.le_refl _)
              have j1 : (0 : Int) ≤ (kk : Int) := by omega
              have j2 : (kk : Int) < (l.length : Int) := by omega
              have j3 : kk < l.length := by omega
              have j4 : IntKind.i64.wrap (kk : Int) = (kk : Int) := by rw [IntKind.wrap_i64]; omega
              have j5 : (0 : Int) < (kk : Int) + 1 := by omega
              have hcmp := fun m => Compare_any _ _ _ _ (w2.drewN m) (show RdB (w2.drewN m) _ _ from hqr2) (show RdB (w2.drewN m) _ _ from hkr)
              have hst2 : scanE kind Q none (pcs l) = if decide (ordC q key < 0) = false then 63 else scanE kind Q (prevK (pcs l) (kk + 1 + 1)) ((pcs l).drop (kk + 1 + 1)) := hst'
              have HST := Lib.hid hst2
              have HPK := Lib.hid hpk
              have HCM := Lib.hid hcmp
              clear hst' hst2 hq hprev hqc hqr hpk hqr2 hkr hcmp hxk
              generalize ordC q key = oc at *
              by_cases hoc : oc < 0
              · have i1 : ¬ (0 : Int) ≤ oc := by omega
                go_upto_region 8 with (fail)
                go_region_held3 (fun w' => w'.cell? (ad.add (kk * 5)) = some (.slice A0 q.length a0) ∧ w'.cell? ⟨wr.heap.size, 0, none⟩ = some (.slice A1 key.length a1))
                  (first | exact ⟨hq2, k0⟩)
                  (first
                    | (go_at_call 51; refine (HCM.out 1).mono ?_; rintro e w7 ⟨rfl, rfl⟩)
                    | fail)
                go_wp2_with fail
                exact ⟨⟨kk + 1 + 1, by omega, by go_num, Lib.hid (by rw [HST.out, if_neg (by simp [hoc])]), HCX, hA2.drew⟩, by simp [intOf]; omega⟩
              · have i1 : (0 : Int) ≤ oc := by omega
                have henc : encE kind (pcs l) Q = 63 := by
                  have := HST.out
                  rw [if_pos (by simp [hoc])] at this
                  unfold encE; rw [this]; rfl
                have HE := Lib.hid henc
                clear henc
                go_upto_region 8 with (fail)
                go_region_held3 (fun w' => w'.cell? (ad.add (kk * 5)) = some (.slice A0 q.length a0) ∧ w'.cell? ⟨wr.heap.size, 0, none⟩ = some (.slice A1 key.length a1))
                  (first | exact ⟨hq2, k0⟩)
                  (first
                    | (go_at_call 51; refine (HCM.out 1).mono ?_; rintro e w7 ⟨rfl, rfl⟩)
                    | fail)
                go_wp2_with fail
                go_ret2
                rw [HE.out]
                exact ⟨hA2.drew, .inr ⟨HK.out, .inl ⟨by omega, rfl⟩⟩⟩
            · obtain rfl : k = 0 := by omega
              have e0 : afterP (prevK (pcs l) 0) key = true := rfl
              rw [e0, if_neg (by simp)] at hst'
              have HST := Lib.hid hst'
              clear hst' e0
              go_upto_region 8 with (fail)
              go_region
              go_wp2_with fail
              exact ⟨⟨1, by omega, rfl, Lib.hid HST.out, HCX, hA2.drew⟩, by simp [intOf]; omega⟩
          · have henc : encE kind (pcs l) Q = 62 := by
              rw [if_pos hmy] at hst'
              unfold encE; rw [hst']; rfl
            have HE := Lib.hid henc
            rw [hmy]
            clear hst' hmy henc
            go_wp2_with fail
            go_ret2
            rw [HE.out]
            exact ⟨hA2, .inr ⟨HK.out, .inl ⟨by omega, rfl⟩⟩⟩
        · obtain rfl : k = l.length := by omega
          have hfin : scanE kind Q none (pcs l) = 0 := by rw [HSC.out, List.drop_of_length_le (by rw [pcs_length]; omega)]; rfl
          have hokc : ∀ c ∈ pcs l, OkC Q c := fun c hc => by
            obtain ⟨j, hj, rfl⟩ := List.getElem_of_mem hc
            exact HOK.out j (by rw [pcs_length] at hj; exact hj) hj
          have hfit := fit_of hokc hQ2 (by rw [pcs_length]; exact hn)
          have hlr := hl.below hB
          have hSz := Size_any kind _ l wr hlr hfit
          have hs1 := hfit.1
          have hLd := fun (h : sizeF (pcs l) ≤ Q) W hb => laid_any kind _ l Q HKD.out hQ1 hQ2 W (hl.below hb) hokc h
          have HL := Lib.hid hLd
          have HF := Lib.hid hfin
          clear hlr hfit hokc hfin hLd HOK HSC
          go_wp2_with fail
          refine hSz.mono ?_
          rintro e w2 ⟨rfl, hb2⟩
          have hB2 := hB.trans (hb2.mono hB.size)
          clear hSz
          by_cases hsz : sizeF (pcs l) ≤ Q
          · have hE : encE kind (pcs l) Q = 0 := encE_zero.2 ⟨HF.out, hsz⟩
            have HE := Lib.hid hE
            have hL2 := HL.out hsz w2 hB2
            have i1 : ¬ (Q : Int) < (sizeF (pcs l) : Int) := by omega
            clear hE hsz HL
            go_wp2_with fail
            refine hL2.mono ?_
            rintro e w3 ⟨g, rfl, hg, hb3, hw3⟩
            go_wp2_with fail
            go_ret2
            exact ⟨hB2.trans (hw3.mono hB2.size), .inr ⟨HK.out, .inr ⟨HE.out, g, rfl, Nat.le_trans hB2.size hg, hb3⟩⟩⟩
          · have hE : encE kind (pcs l) Q = 61 := by
              unfold encE
              rw [if_neg (by rw [HF.out]; simp), if_pos (by omega)]
            have HE := Lib.hid hE
            have i1 : (Q : Int) < (sizeF (pcs l) : Int) := by omega
            clear hE hsz HL
            go_wp2_with fail
            go_ret2
            rw [HE.out]
            exact ⟨hB2, .inr ⟨HK.out, .inl ⟨by omega, rfl⟩⟩⟩
end Go.Proofs.Ytonbcipofakpjaa
