/- Texts joined: plain.Encode; espalierref06.bytesOf, Size; espalierref03.IsPage; espalierref01.SumOf; plain.cell; Owned cells -/
import Derived.Test.YtonbcipofakpjaaH2
import Derived.Test.YtonbcipofakpjaaH4
import Derived.Test.YtonbcipofakpjaaH5
-- plain.Encode: the walk.
namespace Go.Proofs.Ytonbcipofakpjaa
open Go.RowKit
/-- What Encode answers. -/
def EncAt (w : World) (kind : Int) (l : List PC) (P : Int) (e : Ending) (w' : World) : Prop :=
  Below w.heap.size w w' ∧ ((isKindB kind && isPowB P) = false ∧ e = .returned (.tuple #[.slice none 0 0, .int .i64 1]) ∨
    (isKindB kind && isPowB P) = true ∧ ((encE kind l P.toNat ≠ 0 ∧ e = .returned (.tuple #[.slice none 0 0, .int .i64 (encE kind l P.toNat)])) ∨
      (encE kind l P.toNat = 0 ∧ ∃ g, e = .returned (.tuple #[.slice (some ⟨g, 0, none⟩) P.toNat P.toNat, .int .i64 0]) ∧ w.heap.size ≤ g ∧ OBlk w' g 5 (bvs (laidF kind l P.toNat)))))
theorem okc_fit {P : Nat} {c : PC} (h : OkC P c) (hP : P ≤ 65536) : c.key.length + c.val.length ≤ 131072 := by
  have h1 := h.k0
  have h2 := h.v0
  have h3 := h.v1
  by_cases h : c.kind = 1
  · have := (h2 h).1; omega
  · rw [(h3 h).1]; simp; omega
theorem fit_of {P : Nat} {l : List PC} (h : ∀ c ∈ l, OkC P c) (hP : P ≤ 65536) (hn : l.length ≤ 2000000000000) : Fit l := by
  refine ⟨?_, fun c hc => ?_⟩
  · have := longs_le h hP
    rw [sizeF_eq]; omega
  · have := okc_fit (h c hc) hP; omega
theorem prevK_zero (l : List PC) : prevK l 0 = none := rfl
theorem prevK_succ (l : List PC) {i : Nat} (hi : i < l.length) : prevK l (i + 1) = some l[i].key := by
  unfold prevK
  rw [if_neg (by omega)]
  simp [List.getD, hi]
set_option maxRecDepth 100000 in
set_option maxHeartbeats 8000000 in
theorem PEncode_any (kind : Int) (v : Value) (l : List CV) (P : Int) (hPr : i64r P) (w : World) (hl : RdCs w v l) (hn : l.length ≤ 2000000000000) :
    Calls Try.prog 15 #[.int .i64 kind, v, .int .i64 P] w (EncAt w kind (pcs l) P) := by
  obtain ⟨A, c, rfl, hm, hc⟩ := hl.slice
  have hKi := fun W => isKind_any kind W
  have hPa := fun W => isPage_any P hPr W
  cases hk : isKindB kind with
  | false =>
    have HK : Hid ((isKindB kind && isPowB P) = false) := by show _ = _; rw [hk]; rfl
    rw [hk] at hKi
    clear hk
    go_enter Try.func15, Try.ntmps15
    go_wp2_with (first | (go_at_call 48; refine (hKi _).mono ?_; rintro e w1 ⟨rfl, rfl⟩) | fail)
    go_ret2
    exact ⟨Below.refl _ _, .inl ⟨HK.out, rfl⟩⟩
  | true =>
    cases hp : isPowB P with
    | false =>
      have HK : Hid ((isKindB kind && isPowB P) = false) := by show _ = _; rw [hk, hp]; rfl
      rw [hk] at hKi
      rw [hp] at hPa
      clear hk hp
      go_enter Try.func15, Try.ntmps15
      go_wp2_with (first | (go_at_call 48; refine (hKi _).mono ?_; rintro e w1 ⟨rfl, rfl⟩) | (go_at_call 49; refine (hPa _).mono ?_; rintro e w1 ⟨rfl, rfl⟩) | fail)
      go_ret2
      exact ⟨Below.refl _ _, .inl ⟨HK.out, rfl⟩⟩
    | true =>
      have HK : Hid ((isKindB kind && isPowB P) = true) := by show _ = _; rw [hk, hp]; rfl
      have HKD := Lib.hid hk
      obtain ⟨hP1, hP2⟩ := isPowB_range hp
      rw [hk] at hKi
      rw [hp] at hPa
      clear hk hp
      obtain ⟨Q, rfl⟩ : ∃ Q : Nat, P = (Q : Int) := ⟨P.toNat, by omega⟩
      unfold EncAt
      rw [show ((Q : Int)).toNat = Q from rfl]
      have hQ1 : 512 ≤ Q := by omega
      have hQ2 : Q ≤ 65536 := by omega
      go_enter Try.func15, Try.ntmps15
      go_wp2_with (first | (go_at_call 48; refine (hKi _).mono ?_; rintro e w1 ⟨rfl, rfl⟩) | (go_at_call 49; refine (hPa _).mono ?_; rintro e w1 ⟨rfl, rfl⟩) | fail)
      clear hKi hPa
      go_loopw [20] (fun i wr => ∃ k : Nat, k ≤ l.length ∧ i = .int .i64 (k : Int) ∧ Hid (scanE kind Q none (pcs l) = scanE kind Q (prevK (pcs l) k) ((pcs l).drop k)) ∧ Hid (∀ j (hj : j < k) (hjl : j < (pcs l).length), OkC Q (pcs l)[j]) ∧ Below w.heap.size w wr) (fun i _ => l.length - (intOf i).toNat)
      case atStart => exact ⟨0, Nat.zero_le _, rfl, Lib.hid rfl, Lib.hid (fun j hj => by omega), Below.refl _ _⟩
      case round =>
        obtain ⟨k, hk, rfl, HSC, HOK, hB⟩ := hrel
        by_cases hlt : k < l.length
        · have ik : (k : Int) < (l.length : Int) := by omega
          have hlp : k < (pcs l).length := by rw [pcs_length]; exact hlt
          have hst := scan_step (kind := kind) (P := Q) hlp
          have hpk := prevK_succ (pcs l) hlp
          rw [← HSC.out] at hst
          have hcx : ∀ c, (pcs l)[k] = c → Hid (mayP kind Q c = true → ∀ j (hj : j < k + 1) (hjl : j < (pcs l).length), OkC Q (pcs l)[j]) := fun c hc => Lib.hid (fun hmay j hj hjl => by
            by_cases e : j = k
            · subst e; rw [hc]; exact may_ok hmay
            · exact HOK.out j (by omega) hjl)
          rw [pcs_at hlt] at hst hpk
          have hcx := hcx _ (pcs_at hlt)
          obtain ⟨ad, rfl, c0, c1, c2, c3, c4⟩ := (hl.below hB).at_ hlt
          have hx := (hl.below hB).ok _ (List.getElem_mem hlt)
          have hprev : ∀ q, prevK (pcs l) k = some q → ∃ A0 a0, 0 < k ∧ RdB wr (.slice A0 q.length a0) q ∧ wr.cell? (ad.add ((k - 1) * 5)) = some (.slice A0 q.length a0) := fun q hq => by
            unfold prevK at hq
            split at hq
            · cases hq
            · have hk1 : k - 1 < l.length := by omega
              obtain ⟨_, ea, d0, _⟩ := (hl.below hB).at_ hk1
              cases ea
              have hxp := (hl.below hB).ok _ (List.getElem_mem hk1)
              have e1 : (pcs l).getD (k - 1) default = l[k - 1].c := by simp [List.getD, pcs, hk1]
              rw [e1] at hq
              injection hq with hq
              obtain ⟨A0, a0, he, _⟩ := hxp.k.form
              rw [he, hq] at d0
              have hk2 := hxp.k
              rw [he, hq] at hk2
              exact ⟨A0, a0, by omega, hk2, d0⟩
          generalize l[k] = x at *
          obtain ⟨A1, a1, B1, b1, key, ck, val, pg, ct, rfl, _, _⟩ := CV.form hx
          have hma := fun W => may_any ⟨.slice A1 key.length a1, .slice B1 val.length b1, ⟨key, ck, val, pg, ct⟩⟩ kind Q hQ2 W
          unfold cellV at hma
          have hA0 : Below wr.heap.size wr (wr.alloc (.cells #[.slice A1 key.length a1, .int .i64 ck, .slice B1 val.length b1, .int .i64 pg, .int .i64 ct] 32)) := (Below.refl wr.heap.size wr).alloc (Nat.le_refl _) _
          have hA := hB.trans (hA0.mono hB.size)
          have hx' : CV.ok (wr.alloc (.cells #[.slice A1 key.length a1, .int .i64 ck, .slice B1 val.length b1, .int .i64 pg, .int .i64 ct] 32)) ⟨.slice A1 key.length a1, .slice B1 val.length b1, ⟨key, ck, val, pg, ct⟩⟩ := hx.below hA0
          have hcb := OBlk.new' wr 32 [.slice A1 key.length a1, .int .i64 ck, .slice B1 val.length b1, .int .i64 pg, .int .i64 ct]
          have hst' : scanE kind Q none (pcs l) = if mayP kind Q ⟨key, ck, val, pg, ct⟩ = false then 62 else if afterP (prevK (pcs l) k) key = false then 63 else scanE kind Q (prevK (pcs l) (k + 1)) ((pcs l).drop (k + 1)) := hst
          clear hst
          have hgl := hB.size
          have hxk := hx'.k
          simp only at hxk
          clear hx hB
          go_wp2_with fail
          refine (hma _ hx').mono ?_
          rintro e w2 ⟨rfl, hb2⟩
          have hA2 := hA.trans (hb2.mono hA.size)
          have hcb2 := hcb.below hb2 hcb.lt
          have hA02 := hA0.trans (hb2.mono hA0.size)
          rcases Bool.eq_false_or_eq_true (mayP kind Q ⟨key, ck, val, pg, ct⟩) with hmy | hmy
          · rw [if_neg (by rw [hmy]; simp)] at hst'
            have HCX := Lib.hid (hcx.out hmy)
            clear hma hcx hcb hA hA0 hx' c0 c1 c2 c3 c4 HOK
            have k0 : w2.cell? ⟨wr.heap.size, 0, none⟩ = some (.slice A1 key.length a1) := hcb2.cell' rfl
            have hkr : RdB w2 (.slice A1 key.length a1) key := hxk.below hb2 (Nat.le_refl _)
            rw [hmy]
            clear hmy
            by_cases hk0 : 0 < k
            · obtain ⟨kk, rfl⟩ : ∃ kk, k = kk + 1 := ⟨k - 1, by omega⟩
              obtain ⟨q, hq⟩ : ∃ q, prevK (pcs l) (kk + 1) = some q := ⟨_, prevK_succ (pcs l) (by rw [pcs_length]; omega)⟩
              obtain ⟨A0, a0, _, hqr, hqc⟩ := hprev q hq
              rw [hq] at hst'
              rw [show kk + 1 - 1 = kk by omega] at hqc
              have hq2 : w2.cell? (ad.add (kk * 5)) = some (.slice A0 q.length a0) := (hA02.cell (World.block_lt_of_cell? wr _ hqc)).trans hqc
              have hqr2 := hqr.below hA02 (Nat.le_refl _)
              have j1 : (0 : Int) ≤ (kk : Int) := by omega
              have j2 : (kk : Int) < (l.length : Int) := by omega
              have j3 : kk < l.length := by omega
              have j4 : IntKind.i64.wrap (kk : Int) = (kk : Int) := by rw [IntKind.wrap_i64]; omega
              have j5 : (0 : Int) < (kk : Int) + 1 := by omega
              have hcmp := fun m => Compare_any _ _ _ _ (w2.drewN m) (show RdB (w2.drewN m) _ _ from hqr2) (show RdB (w2.drewN m) _ _ from hkr)
              have hst2 : scanE kind Q none (pcs l) = if decide (ordC q key < 0) = false then 63 else scanE kind Q (prevK (pcs l) (kk + 1 + 1)) ((pcs l).drop (kk + 1 + 1)) := hst'
              have HST := Lib.hid hst2
              have HPK := Lib.hid hpk
              have HCM := Lib.hid hcmp
              clear hst' hst2 hq hprev hqc hqr hpk hqr2 hkr hcmp hxk
              generalize ordC q key = oc at *
              by_cases hoc : oc < 0
              · have i1 : ¬ (0 : Int) ≤ oc := by omega
                go_upto_region 8 with (fail)
                go_region_held3 (fun w' => w'.cell? (ad.add (kk * 5)) = some (.slice A0 q.length a0) ∧ w'.cell? ⟨wr.heap.size, 0, none⟩ = some (.slice A1 key.length a1))
                  (first | exact ⟨hq2, k0⟩)
                  (first
                    | (go_at_call 51; refine (HCM.out 1).mono ?_; rintro e w7 ⟨rfl, rfl⟩)
                    | fail)
                go_wp2_with fail
                exact ⟨⟨kk + 1 + 1, by omega, by go_num, Lib.hid (by rw [HST.out, if_neg (by simp [hoc])]), HCX, hA2.drew⟩, by simp [intOf]; omega⟩
              · have i1 : (0 : Int) ≤ oc := by omega
                have henc : encE kind (pcs l) Q = 63 := by
                  have := HST.out
                  rw [if_pos (by simp [hoc])] at this
                  unfold encE; rw [this]; rfl
                have HE := Lib.hid henc
                clear henc
                go_upto_region 8 with (fail)
                go_region_held3 (fun w' => w'.cell? (ad.add (kk * 5)) = some (.slice A0 q.length a0) ∧ w'.cell? ⟨wr.heap.size, 0, none⟩ = some (.slice A1 key.length a1))
                  (first | exact ⟨hq2, k0⟩)
                  (first
                    | (go_at_call 51; refine (HCM.out 1).mono ?_; rintro e w7 ⟨rfl, rfl⟩)
                    | fail)
                go_wp2_with fail
                go_ret2
                rw [HE.out]
                exact ⟨hA2.drew, .inr ⟨HK.out, .inl ⟨by omega, rfl⟩⟩⟩
            · obtain rfl : k = 0 := by omega
              have e0 : afterP (prevK (pcs l) 0) key = true := rfl
              rw [e0, if_neg (by simp)] at hst'
              have HST := Lib.hid hst'
              clear hst' e0
              go_upto_region 8 with (fail)
              go_region
              go_wp2_with fail
              exact ⟨⟨1, by omega, rfl, Lib.hid HST.out, HCX, hA2.drew⟩, by simp [intOf]; omega⟩
          · have henc : encE kind (pcs l) Q = 62 := by
              rw [if_pos hmy] at hst'
              unfold encE; rw [hst']; rfl
            have HE := Lib.hid henc
            rw [hmy]
            clear hst' hmy henc
            go_wp2_with fail
            go_ret2
            rw [HE.out]
            exact ⟨hA2, .inr ⟨HK.out, .inl ⟨by omega, rfl⟩⟩⟩
        · obtain rfl : k = l.length := by omega
          have hfin : scanE kind Q none (pcs l) = 0 := by rw [HSC.out, List.drop_of_length_le (by rw [pcs_length]; omega)]; rfl
          have hokc : ∀ c ∈ pcs l, OkC Q c := fun c hc => by
            obtain ⟨j, hj, rfl⟩ := List.getElem_of_mem hc
            exact HOK.out j (by rw [pcs_length] at hj; exact hj) hj
          have hfit := fit_of hokc hQ2 (by rw [pcs_length]; exact hn)
          have hlr := hl.below hB
          have hSz := Size_any kind _ l wr hlr hfit
          have hs1 := hfit.1
          have hLd := fun (h : sizeF (pcs l) ≤ Q) W hb => laid_any kind _ l Q HKD.out hQ1 hQ2 W (hl.below hb) hokc h
          have HL := Lib.hid hLd
          have HF := Lib.hid hfin
          clear hlr hfit hokc hfin hLd HOK HSC
          go_wp2_with fail
          refine hSz.mono ?_
          rintro e w2 ⟨rfl, hb2⟩
          have hB2 := hB.trans (hb2.mono hB.size)
          clear hSz
          by_cases hsz : sizeF (pcs l) ≤ Q
          · have hE : encE kind (pcs l) Q = 0 := encE_zero.2 ⟨HF.out, hsz⟩
            have HE := Lib.hid hE
            have hL2 := HL.out hsz w2 hB2
            have i1 : ¬ (Q : Int) < (sizeF (pcs l) : Int) := by omega
            clear hE hsz HL
            go_wp2_with fail
            refine hL2.mono ?_
            rintro e w3 ⟨g, rfl, hg, hb3, hw3⟩
            go_wp2_with fail
            go_ret2
            exact ⟨hB2.trans (hw3.mono hB2.size), .inr ⟨HK.out, .inr ⟨HE.out, g, rfl, Nat.le_trans hB2.size hg, hb3⟩⟩⟩
          · have hE : encE kind (pcs l) Q = 61 := by
              unfold encE
              rw [if_neg (by rw [HF.out]; simp), if_pos (by omega)]
            have HE := Lib.hid hE
            have i1 : (Q : Int) < (sizeF (pcs l) : Int) := by omega
            clear hE hsz HL
            go_wp2_with fail
            go_ret2
            rw [HE.out]
            exact ⟨hB2, .inr ⟨HK.out, .inl ⟨by omega, rfl⟩⟩⟩
end Go.Proofs.Ytonbcipofakpjaa

-- espalierref06.bytesOf, Size: walks.
namespace Go.Proofs.Ytonbcipofakpjaa
open Go.RowKit
theorem OwB.below2 {w w' : World} {b : Nat} {v : Value} {l : List UInt8} (h : OwB w b v l) (hb : Below w.heap.size w w') : OwB w' b v l := Own.below' h hb (Nat.le_refl _)
theorem RFixed_2 (n : Nat) (hn : n < 18446744073709551616) (w : World) : Calls Try.prog 44 #[.int .u64 n, .int .i64 2] w fun e w' => ∃ v, e = .returned v ∧ OwB w' w.heap.size v (fixedF n 2) ∧ Below w.heap.size w w' :=
  RFixed_any n hn 2 (by omega) (by omega) w
def BytesAt (w : World) (l : List UInt8) (e : Ending) (w' : World) : Prop := ∃ v, e = .returned v ∧ OwB w' w.heap.size v l ∧ Below w.heap.size w w'
set_option maxRecDepth 100000 in
set_option maxHeartbeats 8000000 in
theorem bytesOf_any (P : Nat) (hP : P ≤ 65536) (x : CV) (w : World) (hx : x.ok w) (hok : OkC P x.c) : Calls Try.prog 45 #[cellV x] w (BytesAt w (cellF x.c)) := by
  have k0 := hok.k0
  have kd := hok.kd
  have v0 := hok.v0
  have v1 := hok.v1
  obtain ⟨A, ca, B, cb, key, ck, val, pg, ct, rfl, _, _⟩ := CV.form hx
  have hxk : RdB w (.slice A key.length ca) key := hx.k
  have hxv : RdB w (.slice B val.length cb) val := hx.v
  simp only at k0 kd v0 v1
  have hA : Below w.heap.size w (w.alloc (.cells #[.slice A key.length ca, .int .i64 ck, .slice B val.length cb, .int .i64 pg, .int .i64 ct] 32)) := (Below.refl _ _).alloc (Nat.le_refl _) _
  have hcb := OBlk.new' w 32 [.slice A key.length ca, .int .i64 ck, .slice B val.length cb, .int .i64 pg, .int .i64 ct]
  unfold cellV
  clear hx hok
  go_enter Try.func45, Try.ntmps45
  go_upto_region 1 with (fail)
  generalize w.alloc (.cells #[.slice A key.length ca, .int .i64 ck, .slice B val.length cb, .int .i64 pg, .int .i64 ct] 32) = w0 at *
  obtain ⟨kn, rfl⟩ := Int.eq_ofNat_of_zero_le (show 0 ≤ ck by omega)
  have hkb : ((kn : Nat) : Int) % 256 = ((UInt8.ofNat kn).toNat : Int) := by rw [UInt8.toNat_ofNat']; omega
  have HKB := Lib.hid hkb
  have k1 := hcb.cell' (j := 1) rfl
  have kn4 : kn ≤ 4 := by omega
  have hkw : IntKind.u8.wrap (kn : Int) = (kn : Int) := by rw [IntKind.wrap_u8]; omega
  clear hkb
  go_upto_region 2 with (fail)
  have hkn : (kn : Int) = ((UInt8.ofNat kn).toNat : Int) := by rw [UInt8.toNat_ofNat']; omega
  have ho1 : OwB (w0.alloc (.cells #[.int .u8 (kn : Int)] 5)) w.heap.size (.slice (some ⟨w0.heap.size, 0, none⟩) 1 1) [UInt8.ofNat kn] := by
    have h := (OBlk.new' w0 5 (bvs [UInt8.ofNat kn])).owB' (base := w.heap.size) (m := [UInt8.ofNat kn]) hA.size (by simp [maxLen])
    have e : bvs [UInt8.ofNat kn] = [Value.int .u8 (kn : Int)] := by rw [hkn]; rfl
    rw [e] at h
    exact h
  have hb01 : Below w0.heap.size w0 (w0.alloc (.cells #[.int .u8 (kn : Int)] 5)) := (Below.refl _ _).alloc (Nat.le_refl _) _
  have hB1 := hA.trans (hb01.mono hA.size)
  have hcb1 := hcb.below hb01 hcb.lt
  clear hkn hb01 hcb k1
  generalize w0.alloc (.cells #[.int .u8 (kn : Int)] 5) = w1 at *
  generalize w0.heap.size = g1 at *
  have j0 := hcb1.cell' (j := 0) rfl
  have hwn : IntKind.u64.wrap (key.length : Int) = (key.length : Int) := IntWalk.u64_in _ (by omega)
  go_upto_region 3 with (first
    | (go_at_call 44; refine (RFixed_2 key.length (by omega) _).mono ?_; rintro e w2 ⟨v2, rfl, ho2, hb2⟩)
    | (at_builtin; refine wp_append_B rfl (.tmp 8) (.tmp 13) rfl w.heap.size _ _ rfl (ho1.below2 hb2) _ _ rfl ho2.rd (by simp [fixedF_length]) (Nat.le_trans hB1.size hb2.size) ?_; intro v3 w3 ho3 hg3 hk3)
    | fail)
  have hB2 := hB1.trans (hb2.mono hB1.size)
  have hB3 := hB2.grown hg3 hB2.size (fun k e => (Own.lt ho1 k e).1)
  have hl3 : ([UInt8.ofNat kn] ++ fixedF key.length 2).length = 3 := by simp [fixedF_length]
  obtain ⟨g3, c3, hv3⟩ := ho3.some' hl3 (by omega)
  subst hv3
  have hcb3 : OBlk w3 w.heap.size 32 _ := (hcb1.below hb2 hcb1.lt).grown hg3 (fun e => OwB.ne_blk (ho1.below2 hb2) (hcb1.below hb2 hcb1.lt) (by decide) e)
  clear hcb1 ho1 ho2 hb2 hg3 hk3 hB1 hB2 j0 hwn
  have j0 := hcb3.cell' (j := 0) rfl
  have hk3 := hxk.below hB3 (Nat.le_refl _)
  go_upto_region 4 with (first
    | (at_builtin; refine wp_append_B rfl (.tmp 15) (.tmp 17) rfl w.heap.size _ _ rfl ho3 _ _ rfl hk3 (by rw [hl3]; omega) hB3.size ?_; intro v4 w4 ho4 hg4 hk4)
    | fail)
  have hB4 := hB3.grown hg4 hB3.size (fun k e => (Own.lt ho3 k e).1)
  obtain ⟨n4, hl4⟩ : ∃ n, ([UInt8.ofNat kn] ++ fixedF key.length 2 ++ key).length = n := ⟨_, rfl⟩
  have hn4 : n4 = 3 + key.length := by rw [← hl4, List.length_append, hl3]
  obtain ⟨g4, c4, hv4⟩ := ho4.some' hl4 (by omega)
  subst hv4
  have hcb4 : OBlk w4 w.heap.size 32 _ := hcb3.grown hg4 (fun e => OwB.ne_blk ho3 hcb3 (by decide) e)
  clear hcb3 ho3 hk3 hg4 hk4 hB3 j0
  have j1 := hcb4.cell' (j := 1) rfl
  have j2 := hcb4.cell' (j := 2) rfl
  have j3 := hcb4.cell' (j := 3) rfl
  have j4 := hcb4.cell' (j := 4) rfl
  have HL4 := Lib.hid hl4
  have hn4' : n4 ≤ 140000 := by omega
  clear hl4 hn4
  by_cases hk1 : kn = 1
  · subst hk1
    obtain ⟨hv0, _, _⟩ := v0 rfl
    have HC : Hid (cellF ⟨key, ((1 : Nat) : Int), val, pg, ct⟩ = ([UInt8.ofNat 1] ++ fixedF key.length 2 ++ key) ++ fixedF val.length 2 ++ val) := Lib.hid (by simp [cellF, tailF])
    have hwn : IntKind.u64.wrap (val.length : Int) = (val.length : Int) := IntWalk.u64_in _ (by omega)
    have h11 : (((1 : Nat) : Int) == 1) = true := rfl
    clear v0 v1 kd
    go_upto_region 6 with (first
      | (go_at_call 44; refine (RFixed_2 val.length (by omega) _).mono ?_; rintro e w5 ⟨v5, rfl, ho5, hb5⟩)
      | (at_builtin; refine wp_append_B rfl (.tmp 22) (.tmp 27) rfl w.heap.size _ _ rfl (ho4.below2 hb5) _ _ rfl ho5.rd (by rw [HL4.out, fixedF_length]; omega) (Nat.le_trans hB4.size hb5.size) ?_; intro v6 w6 ho6 hg6 hk6)
      | fail)
    have hB5 := hB4.trans (hb5.mono hB4.size)
    have hB6 := hB5.grown hg6 hB5.size (fun k e => (Own.lt ho4 k e).1)
    have hl6 : ([UInt8.ofNat 1] ++ fixedF key.length 2 ++ key ++ fixedF val.length 2).length = n4 + 2 := by rw [List.length_append, HL4.out, fixedF_length]
    obtain ⟨g6, c6, hv6⟩ := ho6.some' hl6 (by omega)
    subst hv6
    have hcb6 : OBlk w6 w.heap.size 32 _ := (hcb4.below hb5 hcb4.lt).grown hg6 (fun e => OwB.ne_blk (ho4.below2 hb5) (hcb4.below hb5 hcb4.lt) (by decide) e)
    have hvr := hxv.below hB6 (Nat.le_refl _)
    clear hcb4 ho4 ho5 hb5 hg6 hk6 hB4 hB5 j1 j2 j3 j4
    have j2 := hcb6.cell' (j := 2) rfl
    go_wp2_with (first
      | (at_builtin; refine wp_append_B rfl (.tmp 29) (.tmp 31) rfl w.heap.size _ _ rfl ho6 _ _ rfl hvr (by rw [hl6]; omega) hB6.size ?_; intro v7 w7 ho7 hg7 hk7)
      | fail)
    go_ret
    rw [HC.out]
    exact ⟨v7, rfl, ho7, hB6.grown hg7 hB6.size (fun k e => (Own.lt ho6 k e).1)⟩
  · have hkf : ((kn : Int) == 1) = false := beq_eq_false_iff_ne.2 (by omega)
    obtain ⟨_, hp1, hp2, hc1, hc2⟩ := v1 (by omega)
    obtain ⟨pn, rfl⟩ := Int.eq_ofNat_of_zero_le hp1
    obtain ⟨cn, rfl⟩ := Int.eq_ofNat_of_zero_le hc1
    have HC : Hid (cellF ⟨key, (kn : Int), val, (pn : Int), (cn : Int)⟩ = ([UInt8.ofNat kn] ++ fixedF key.length 2 ++ key) ++ fixedF pn 4 ++ fixedF cn 4) := Lib.hid (by
      have hk2 : ¬ (kn : Int) = 1 := by omega
      simp [cellF, tailF, hk2, List.append_assoc])
    have hpw : IntKind.u64.wrap (pn : Int) = (pn : Int) := IntWalk.u64_in _ (by omega)
    have hcw : IntKind.u64.wrap (cn : Int) = (cn : Int) := IntWalk.u64_in _ (by omega)
    clear v0 v1 kd hk1
    go_upto_region 8 with (first
      | (go_at_call 44; refine (RFixed_4 pn (by omega) _).mono ?_; rintro e w5 ⟨v5, rfl, ho5, hb5⟩)
      | (at_builtin; refine wp_append_B rfl (.tmp 33) (.tmp 37) rfl w.heap.size _ _ rfl (ho4.below2 hb5) _ _ rfl ho5.rd (by rw [HL4.out, fixedF_length]; omega) (Nat.le_trans hB4.size hb5.size) ?_; intro v6 w6 ho6 hg6 hk6)
      | fail)
    have hB5 := hB4.trans (hb5.mono hB4.size)
    have hB6 := hB5.grown hg6 hB5.size (fun k e => (Own.lt ho4 k e).1)
    have hl6 : ([UInt8.ofNat kn] ++ fixedF key.length 2 ++ key ++ fixedF pn 4).length = n4 + 4 := by rw [List.length_append, HL4.out, fixedF_length]
    obtain ⟨g6, c6, hv6⟩ := ho6.some' hl6 (by omega)
    subst hv6
    have hcb6 : OBlk w6 w.heap.size 32 _ := (hcb4.below hb5 hcb4.lt).grown hg6 (fun e => OwB.ne_blk (ho4.below2 hb5) (hcb4.below hb5 hcb4.lt) (by decide) e)
    clear hcb4 ho4 ho5 hb5 hg6 hk6 hB4 hB5 j1 j2 j3 j4
    have j4 := hcb6.cell' (j := 4) rfl
    go_wp2_with (first
      | (go_at_call 44; refine (RFixed_4 cn (by omega) _).mono ?_; rintro e w7 ⟨v7, rfl, ho7, hb7⟩)
      | (at_builtin; refine wp_append_B rfl (.tmp 39) (.tmp 43) rfl w.heap.size _ _ rfl (ho6.below2 hb7) _ _ rfl ho7.rd (by rw [hl6, fixedF_length]; omega) (Nat.le_trans hB6.size hb7.size) ?_; intro v8 w8 ho8 hg8 hk8)
      | fail)
    go_ret
    rw [HC.out]
    exact ⟨v8, rfl, ho8, (hB6.trans (hb7.mono hB6.size)).grown hg8 (Nat.le_trans hB6.size hb7.size) (fun k e => (Own.lt ho6 k e).1)⟩
theorem sizeF_cell (c : PC) : 2 + longF c = if c.kind = 1 then 7 + c.key.length + c.val.length else 13 + c.key.length := by
  unfold longF; split <;> omega
set_option maxRecDepth 100000 in
set_option maxHeartbeats 4000000 in
theorem RSize_any (kind : Int) (v : Value) (l : List CV) (w : World) (hl : RdCs w v l) (hf : Fit (pcs l)) :
    Calls Try.prog 13 #[.int .i64 kind, v] w fun e w' => e = .returned (.int .i64 (sizeF (pcs l) : Nat)) ∧ Below w.heap.size w w' := by
  obtain ⟨A, c, rfl, hm, hc⟩ := hl.slice
  obtain ⟨hf1, hf2⟩ := hf
  have HF2 := Lib.hid hf2
  clear hf2
  go_enter Try.func13, Try.ntmps13
  go_wp2_with fail
  go_loopw [5, 6] (fun n i wr => ∃ k : Nat, k ≤ l.length ∧ i = .int .i64 (k : Int) ∧ n = .int .i64 (sizeF ((pcs l).take k) : Nat) ∧ Below w.heap.size w wr) (fun _ i _ => l.length - (intOf i).toNat)
  case atStart => exact ⟨0, Nat.zero_le _, rfl, rfl, Below.refl _ _⟩
  case round =>
    obtain ⟨k, hk, rfl, rfl, hB⟩ := hrel
    by_cases hlt : k < l.length
    · have ik : (k : Int) < (l.length : Int) := by omega
      have hS := sizeF_take (pcs l) (i := k) (by rw [pcs_length]; exact hlt)
      have hS1 := sizeF_take_le (pcs l) (k + 1)
      rw [pcs_at hlt, sizeF_cell] at hS
      have hmem : l[k].c ∈ pcs l := by rw [← pcs_at hlt]; exact List.getElem_mem _
      have hkv := HF2.out _ hmem
      obtain ⟨ad, rfl, c0, c1, c2, c3, c4⟩ := (hl.below hB).at_ hlt
      have hx := (hl.below hB).ok _ (List.getElem_mem hlt)
      generalize l[k] = x at *
      obtain ⟨A1, a1, B1, b1, key, ck, val, pg, ct, rfl, _, _⟩ := CV.form hx
      simp only at hS hkv
      have hAl : Below wr.heap.size wr (wr.alloc (.cells #[.slice A1 key.length a1, .int .i64 ck, .slice B1 val.length b1, .int .i64 pg, .int .i64 ct] 32)) := (Below.refl _ _).alloc (Nat.le_refl _) _
      have hB2 := hB.trans (hAl.mono hB.size)
      have hcb := OBlk.new' wr 32 [.slice A1 key.length a1, .int .i64 ck, .slice B1 val.length b1, .int .i64 pg, .int .i64 ct]
      clear hx hmem
      by_cases hk1 : ck = 1
      · subst hk1
        rw [if_pos rfl] at hS
        have HS := Lib.hid hS
        have hb1 : sizeF ((pcs l).take k) + 7 + key.length + val.length ≤ 4611686018427387904 := by omega
        clear hS hS1 hkv
        generalize sizeF ((pcs l).take k) = s at *
        have i1 : IntKind.i64.wrap ((s : Int) + 7) = (s : Int) + 7 := by rw [IntKind.wrap_i64]; omega
        have i2 : IntKind.i64.wrap ((s : Int) + 7 + (key.length : Int)) = (s : Int) + 7 + (key.length : Int) := by rw [IntKind.wrap_i64]; omega
        have i3 : IntKind.i64.wrap ((s : Int) + 7 + (key.length : Int) + (val.length : Int)) = (s : Int) + 7 + (key.length : Int) + (val.length : Int) := by rw [IntKind.wrap_i64]; omega
        go_upto_region 6 with (fail)
        generalize wr.alloc (.cells #[.slice A1 key.length a1, .int .i64 1, .slice B1 val.length b1, .int .i64 pg, .int .i64 ct] 32) = w2 at *
        obtain ⟨e0, e1, e2, _, _⟩ := cells5 hcb
        go_wp2_with fail
        exact ⟨⟨k + 1, by omega, by go_num, by rw [HS.out]; go_num, hB2⟩, by simp [intOf]; omega⟩
      · have hkf : (ck == 1) = false := beq_eq_false_iff_ne.2 hk1
        rw [if_neg hk1] at hS
        have HS := Lib.hid hS
        have hb1 : sizeF ((pcs l).take k) + 13 + key.length ≤ 4611686018427387904 := by omega
        clear hS hS1 hkv hk1
        generalize sizeF ((pcs l).take k) = s at *
        have i1 : IntKind.i64.wrap ((s : Int) + 13) = (s : Int) + 13 := by rw [IntKind.wrap_i64]; omega
        have i2 : IntKind.i64.wrap ((s : Int) + 13 + (key.length : Int)) = (s : Int) + 13 + (key.length : Int) := by rw [IntKind.wrap_i64]; omega
        go_upto_region 6 with (fail)
        generalize wr.alloc (.cells #[.slice A1 key.length a1, .int .i64 ck, .slice B1 val.length b1, .int .i64 pg, .int .i64 ct] 32) = w2 at *
        obtain ⟨e0, e1, e2, _, _⟩ := cells5 hcb
        go_wp2_with fail
        exact ⟨⟨k + 1, by omega, by go_num, by rw [HS.out]; go_num, hB2⟩, by simp [intOf]; omega⟩
    · obtain rfl : k = l.length := by omega
      have e : (pcs l).take l.length = pcs l := List.take_of_length_le (by rw [pcs_length]; omega)
      rw [e]
      go_wp2_with fail
      go_ret
      exact ⟨rfl, hB⟩
end Go.Proofs.Ytonbcipofakpjaa

-- espalierref03.IsPage: the walk.
namespace Go.Proofs.Ytonbcipofakpjaa
open Go.RowKit
def pw (j : Nat) : Int := 512 * 2 ^ j
theorem isPow_pw (p : Int) : isPow p ↔ ∃ j, j < 8 ∧ p = pw j := by
  unfold isPow pw
  constructor
  · rintro (h | h | h | h | h | h | h | h)
    · exact ⟨0, by omega, h⟩
    · exact ⟨1, by omega, h⟩
    · exact ⟨2, by omega, h⟩
    · exact ⟨3, by omega, h⟩
    · exact ⟨4, by omega, h⟩
    · exact ⟨5, by omega, h⟩
    · exact ⟨6, by omega, h⟩
    · exact ⟨7, by omega, h⟩
  · rintro ⟨j, hj, rfl⟩
    rcases (by omega : j = 0 ∨ j = 1 ∨ j = 2 ∨ j = 3 ∨ j = 4 ∨ j = 5 ∨ j = 6 ∨ j = 7) with rfl | rfl | rfl | rfl | rfl | rfl | rfl | rfl <;> simp
set_option maxRecDepth 20000 in
set_option maxHeartbeats 2000000 in
theorem IsPage_any (p : Int) (w : World) : Calls Try.prog 41 #[.int .i64 p] w fun e w' => e = .returned (.bool (isPowB p)) ∧ w = w' := by
  go_enter Try.func41, Try.ntmps41
  go_wp2_with fail
  go_loopw [3] (fun i wr => ∃ j : Nat, j ≤ 8 ∧ i = .int .i64 (pw j) ∧ Hid (∀ k, k < j → p ≠ pw k) ∧ w = wr) (fun i _ => (131072 - intOf i).toNat)
  case atStart => exact ⟨0, by omega, rfl, Lib.hid (by omega), rfl⟩
  case round =>
    obtain ⟨j, hj, rfl, HN, rfl⟩ := hrel
    rcases (by omega : j = 8 ∨ j < 8) with rfl | hlt
    · have HV := Lib.hid (show isPowB p = false from decide_eq_false fun h => by
        obtain ⟨k, hk, e⟩ := (isPow_pw p).1 h
        exact HN.out k hk e)
      have e8 : pw 8 = 131072 := by decide
      rw [e8]
      go_wp2_with fail
      go_ret
      rw [HV.out]
      exact ⟨rfl, rfl⟩
    · have hb : 512 ≤ pw j ∧ pw j ≤ 65536 ∧ pw (j + 1) = 2 * pw j := by
        rcases (by omega : j = 0 ∨ j = 1 ∨ j = 2 ∨ j = 3 ∨ j = 4 ∨ j = 5 ∨ j = 6 ∨ j = 7) with rfl | rfl | rfl | rfl | rfl | rfl | rfl | rfl <;> decide
      obtain ⟨h1, h2, h3⟩ := hb
      by_cases hp : p = pw j
      · have HV := Lib.hid (show isPowB p = true from decide_eq_true ((isPow_pw p).2 ⟨j, hlt, hp⟩))
        have hb : (pw j == p) = true := by simp [hp]
        clear hp h3
        generalize pw j = x at *
        go_wp2_with fail
        go_ret
        rw [HV.out]
        exact ⟨rfl, rfl⟩
      · have HN2 := Lib.hid (show ∀ k, k < j + 1 → p ≠ pw k from fun k hk => by
          rcases (by omega : k < j ∨ k = j) with h | rfl
          · exact HN.out k h
          · exact hp)
        have hb : (pw j == p) = false := by
          rw [Bool.eq_false_iff]
          simp only [ne_eq, beq_iff_eq]
          exact fun e => hp e.symm
        have H3 := Lib.hid h3
        clear hp h3
        generalize hx : pw j = x at *
        clear hx
        go_wp2_with fail
        go_roundw
        case rel => exact ⟨j + 1, by omega, by rw [H3.out], HN2, trivial⟩
        case measure => simp [intOf]; omega
end Go.Proofs.Ytonbcipofakpjaa

-- espalierref01.SumOf: the walk.
namespace Go.Proofs.Ytonbcipofakpjaa
open Go.RowKit
set_option maxHeartbeats 400000 in
theorem SumOf_any (v : Value) (l : List UInt8) (w : World) (hv : RdB w v l) :
    Calls Try.prog 46 #[v] w fun e w' => e = .returned (.int .u32 (sumF l : Nat)) ∧ w = w' := by
  obtain ⟨A, c, rfl, hm⟩ := hv.form
  go_enter Try.func46, Try.ntmps46
  go_wp2
  go_loop [3, 4] (fun q i => ∃ j : Nat, i = .int .i64 (j : Int) ∧ j ≤ l.length ∧ q = .int .u32 (crcF 4294967295 (l.take j) : Nat)) (fun _ i => l.length - (intOf i).toNat)
  case atStart => exact ⟨0, rfl, by omega, rfl⟩
  case round =>
    obtain ⟨j, rfl, hj, rfl⟩ := hrel
    by_cases hlt : j < l.length
    · obtain ⟨ad, rfl, hcell⟩ := hv.at_ hlt
      have hq : crcF 4294967295 (l.take j) < 4294967296 := crcF_lt _ _ (by omega)
      have hs : crcF 4294967295 (l.take (j + 1)) = crcByte (crcF 4294967295 (l.take j)) l[j] := by
        rw [List.take_succ_eq_append_getElem hlt, crcF_snoc]
      have HS := Lib.hid hs
      clear hs
      generalize l[j] = x at *
      generalize crcF 4294967295 (l.take j) = q at *
      go_wp2_with (go_at_call 75; refine (step_any q hq x _).mono ?_; rintro e w' ⟨rfl, rfl⟩)
      go_round
      case rel => exact ⟨j + 1, by go_num, by omega, by rw [HS.out]⟩
      case measure => simp [intOf]; omega
    · obtain rfl : j = l.length := by omega
      rw [List.take_length]
      have hr0 : crcF 4294967295 l < 4294967296 := crcF_lt _ _ (by omega)
      have hn : bits .xor .u32 (crcF 4294967295 l : Nat) 4294967295 = (sumF l : Nat) := u32_xor_nat _ 4294967295 hr0 (by omega)
      go_wp2
      go_ret
      exact ⟨rfl, rfl⟩
end Go.Proofs.Ytonbcipofakpjaa

-- plain.cell: the walk.
namespace Go.Proofs.Ytonbcipofakpjaa
open Go.RowKit
theorem set5 {w : World} {g : Nat} {T : TypeId} {b0 b1 b2 b3 b4 : Value} (h : OBlk w g T [b0, b1, b2, b3, b4]) (a0 a1 a2 a3 a4 : Value) :
    OBlk (((((w.setCell ⟨g, 0, none⟩ a0).setCell ⟨g, 1, none⟩ a1).setCell ⟨g, 2, none⟩ a2).setCell ⟨g, 3, none⟩ a3).setCell ⟨g, 4, none⟩ a4) g T [a0, a1, a2, a3, a4] := ((((h.set 0 a0).set 1 a1).set 2 a2).set 3 a3).set 4 a4
theorem below5 {B g : Nat} {w0 w : World} (h : Below B w0 w) (hg : B ≤ g) (a0 a1 a2 a3 a4 : Value) :
    Below B w0 (((((w.setCell ⟨g, 0, none⟩ a0).setCell ⟨g, 1, none⟩ a1).setCell ⟨g, 2, none⟩ a2).setCell ⟨g, 3, none⟩ a3).setCell ⟨g, 4, none⟩ a4) := ((((h.setCell (p := ⟨g, 0, none⟩) hg a0).setCell (p := ⟨g, 1, none⟩) hg a1).setCell (p := ⟨g, 2, none⟩) hg a2).setCell (p := ⟨g, 3, none⟩) hg a3).setCell (p := ⟨g, 4, none⟩) hg a4
theorem ow5 {w : World} {b g : Nat} {v : Value} {l : List UInt8} (h : OwB w b v l) (hg : ∀ k, v.ownBlock = some k → k ≠ g) (a0 a1 a2 a3 a4 : Value) :
    OwB (((((w.setCell ⟨g, 0, none⟩ a0).setCell ⟨g, 1, none⟩ a1).setCell ⟨g, 2, none⟩ a2).setCell ⟨g, 3, none⟩ a3).setCell ⟨g, 4, none⟩ a4) b v l :=
  Own.heap h fun k hk => by
    have hne := hg k hk
    iterate 5 rw [Below.heap_setCell _ _ _ _ (by exact hne)]
def zeroC : List Value := [.slice none 0 0, .int .i64 0, .slice none 0 0, .int .i64 0, .int .i64 0]
def CellAt (w : World) (b : List UInt8) (at_ end_ : Nat) (e : Ending) (w' : World) : Prop :=
  Below w.heap.size w w' ∧ ((cellP b at_ end_ = none ∧ e = .returned (.tuple #[.agg #[.slice none 0 0, .int .i64 0, .slice none 0 0, .int .i64 0, .int .i64 0], .int .i64 0])) ∨
    ∃ (x : CV) (tn : Nat), cellP b at_ end_ = some (x.c, tn) ∧ e = .returned (.tuple #[cellV x, .int .i64 (tn : Int)]) ∧ tn ≤ end_ ∧ 0 < tn ∧ (∃ g, x.kv = .slice (some ⟨g, 0, none⟩) x.c.key.length x.c.key.length ∧ ∀ h, x.vv.ownBlock = some h → g < h) ∧ (∃ A, x.vv = .slice A x.c.val.length x.c.val.length) ∧ OwB w' w.heap.size x.kv x.c.key ∧ OwB w' w.heap.size x.vv x.c.val ∧ i64r x.c.kind ∧ i64r x.c.page ∧ i64r x.c.count)
theorem numAt_lt (b : List UInt8) (at_ w : Nat) : numAt b at_ w < 256 ^ w := by
  unfold numAt
  refine Nat.lt_of_lt_of_le (numF_lt _) (Nat.pow_le_pow_right (by omega) (by simp; omega))
theorem number_w (wd : Nat) (D : Int) (hD : D = (wd : Int)) (h1 : 1 ≤ wd) (h4 : wd ≤ 4) (v : Value) (b : List UInt8) (at_ : Nat) (X : Int) (hX : X = (at_ : Int)) (ha : at_ + wd ≤ b.length) (w : World) (hv : RdB w v b) : Calls Try.prog 56 #[v, .int .i64 X, .int .i64 D] w fun e w' => e = .returned (.int .i64 (numAt b at_ wd : Nat)) ∧ w = w' := by
  subst hX hD
  exact number_any v b at_ wd h1 h4 ha w hv
theorem part_w (v : Value) (b : List UInt8) (at_ n : Nat) (X N : Int) (hX : X = (at_ : Int)) (hN : N = (n : Int)) (ha : at_ + n ≤ b.length) (hb : b.length ≤ 140737488355328) (w : World) (hv : RdB w v b) :
    Calls Try.prog 81 #[v, .int .i64 X, .int .i64 N] w fun e w' => ∃ g, e = .returned (.slice (some ⟨g, 0, none⟩) n n) ∧ g = w.heap.size ∧ OwB w' w.heap.size (.slice (some ⟨g, 0, none⟩) n n) ((b.drop at_).take n) ∧ Below w.heap.size w w' := by
  subst hX hN
  exact part_any v b at_ n ha hb w hv
set_option maxRecDepth 100000 in
set_option maxHeartbeats 8000000 in
theorem cell_any (v : Value) (b : List UInt8) (at_ end_ : Nat) (w : World) (hv : RdB w v b) (hb : b.length ≤ 65536) (he : end_ ≤ b.length) (ha : at_ ≤ 131072) :
    Calls Try.prog 57 #[v, .int .i64 (at_ : Int), .int .i64 (end_ : Int)] w (CellAt w b at_ end_) := by
  have hR0 : OBlk (w.alloc (.cells #[.slice none 0 0, .int .i64 0, .slice none 0 0, .int .i64 0, .int .i64 0] 32)) w.heap.size 32 zeroC := OBlk.new' w _ zeroC
  have hA0 : Below w.heap.size w (w.alloc (.cells #[.slice none 0 0, .int .i64 0, .slice none 0 0, .int .i64 0, .int .i64 0] 32)) := (Below.refl _ _).alloc (Nat.le_refl _) _
  obtain ⟨A, c, rfl, hm⟩ := hv.form
  have i2 : IntKind.i64.wrap ((end_ : Int) - (at_ : Int)) = (end_ : Int) - (at_ : Int) := by rw [IntKind.wrap_i64]; omega
  by_cases h1 : end_ < at_ + 3
  · have HP : Hid (cellP b at_ end_ = none) := by show _ = _; unfold cellP; rw [if_pos h1]
    have i1 : ((end_ : Int) - (at_ : Int)) < 3 := by omega
    obtain ⟨r0, r1, r2, r3, r4⟩ := cells5 hR0
    have f0 := hR0.frozen (j := 0) (by simp [zeroC]); have f1 := hR0.frozen (j := 1) (by simp [zeroC]); have f2 := hR0.frozen (j := 2) (by simp [zeroC]); have f3 := hR0.frozen (j := 3) (by simp [zeroC]); have f4 := hR0.frozen (j := 4) (by simp [zeroC])
    go_enter Try.func57, Try.ntmps57
    go_wp2_with fail
    refine bodyPost_ret (v := .tuple #[.agg #[.slice none 0 0, .int .i64 0, .slice none 0 0, .int .i64 0, .int .i64 0], .int .i64 0]) ?_ rfl ?_
    · simp [results, Try.results57, go_sem, r0, r1, r2, r3, r4]
    · exact ⟨hA0, .inl ⟨HP.out, rfl⟩⟩
  · have i1 : ¬ ((end_ : Int) - (at_ : Int)) < 3 := by omega
    obtain ⟨kb, hkb⟩ : ∃ kb, b[at_]? = some kb := ⟨_, List.getElem?_eq_getElem (by omega)⟩
    have hgd : b.getD at_ 0 = kb := by rw [List.getD, hkb]; rfl
    obtain ⟨ad, rfl, hcb⟩ := (hv.below hA0 (Nat.le_refl _)).at_ (j := at_) (by omega)
    have hcb' : (w.alloc (.cells #[.slice none 0 0, .int .i64 0, .slice none 0 0, .int .i64 0, .int .i64 0] 32)).cell? (ad.add at_) = some (.int .u8 (kb.toNat : Int)) := by
      rw [hcb]
      rw [List.getElem?_eq_getElem (by omega)] at hkb
      rw [Option.some.inj hkb]
    have j1 : (at_ : Int) < (b.length : Int) := by omega
    have j2 : at_ < b.length := by omega
    have hkl := kb.toNat_lt
    have hn := numAt_lt b (at_ + 1) 2
    have hcp : cellP b at_ end_ = (if end_ < at_ + 3 + (numAt b (at_ + 1) 2) + 2 then none
      else if ((kb.toNat : Nat) : Int) ≠ 1 then
        if end_ < at_ + 3 + (numAt b (at_ + 1) 2) + 8 then none
        else some (⟨(b.drop (at_ + 3)).take (numAt b (at_ + 1) 2), (kb.toNat : Nat), [], (numAt b (at_ + 3 + (numAt b (at_ + 1) 2)) 4 : Nat), (numAt b (at_ + 3 + (numAt b (at_ + 1) 2) + 4) 4 : Nat)⟩, at_ + 3 + (numAt b (at_ + 1) 2) + 8)
      else
        if end_ < at_ + 3 + (numAt b (at_ + 1) 2) + 2 + numAt b (at_ + 3 + (numAt b (at_ + 1) 2)) 2 then none
        else some (⟨(b.drop (at_ + 3)).take (numAt b (at_ + 1) 2), (kb.toNat : Nat), (b.drop (at_ + 3 + (numAt b (at_ + 1) 2) + 2)).take (numAt b (at_ + 3 + (numAt b (at_ + 1) 2)) 2), 0, 0⟩, at_ + 3 + (numAt b (at_ + 1) 2) + 2 + numAt b (at_ + 3 + (numAt b (at_ + 1) 2)) 2)) := by
      rw [cellP, if_neg h1, hgd]
    have hN1 := fun W hW => number_w 2 2 rfl (by omega) (by omega) (.slice (some ad) b.length c) b (at_ + 1) ((at_ : Int) + 1) rfl (by omega) W hW
    generalize numAt b (at_ + 1) 2 = n at *
    have HCP := Lib.hid hcp
    have hC1 := OBlk.new' (w.alloc (.cells #[.slice none 0 0, .int .i64 0, .slice none 0 0, .int .i64 0, .int .i64 0] 32)) 32 [.slice none 0 0, .int .i64 (kb.toNat : Int), .slice none 0 0, .int .i64 0, .int .i64 0]
    have hR1 := hR0.alloc (.cells #[.slice none 0 0, .int .i64 (kb.toNat : Int), .slice none 0 0, .int .i64 0, .int .i64 0] 32)
    have hA1 := hA0.alloc hA0.size (.cells #[.slice none 0 0, .int .i64 (kb.toNat : Int), .slice none 0 0, .int .i64 0, .int .i64 0] 32)
    rw [World.size_alloc] at hC1
    have hkw : IntKind.i64.wrap ((kb.toNat : Nat) : Int) = ((kb.toNat : Nat) : Int) := by rw [IntKind.wrap_i64]; omega
    clear hcp hcb hkb hgd
    go_enter Try.func57, Try.ntmps57
    go_wp2_with fail
    refine (hN1 _ (hv.below hA1 (Nat.le_refl _))).mono ?_
    rintro e w1 ⟨rfl, rfl⟩
    generalize (w.alloc (.cells #[.slice none 0 0, .int .i64 0, .slice none 0 0, .int .i64 0, .int .i64 0] 32)).alloc (.cells #[.slice none 0 0, .int .i64 (kb.toNat : Int), .slice none 0 0, .int .i64 0, .int .i64 0] 32) = w1 at *
    clear hN1 hcb' hR0 hA0 i1 i2 j1 j2
    have hz1 := hC1.lt
    obtain ⟨r0, r1, r2, r3, r4⟩ := cells5 hR1
    have f0 := hR1.frozen (j := 0) (by simp [zeroC]); have f1 := hR1.frozen (j := 1) (by simp [zeroC]); have f2 := hR1.frozen (j := 2) (by simp [zeroC]); have f3 := hR1.frozen (j := 3) (by simp [zeroC]); have f4 := hR1.frozen (j := 4) (by simp [zeroC])
    have q1 : IntKind.i64.wrap ((end_ : Int) - ((at_ : Int) + 3)) = (end_ : Int) - ((at_ : Int) + 3) := by rw [IntKind.wrap_i64]; omega
    by_cases h2 : end_ < at_ + 3 + n + 2
    · have HP : Hid (cellP b at_ end_ = none) := by show _ = _; rw [HCP.out, if_pos h2]
      have q2 : (end_ : Int) - ((at_ : Int) + 3) < (n : Int) + 2 := by omega
      clear HCP
      go_wp2_with fail
      obtain ⟨e0, e1, e2, e3, e4⟩ := cells5 (set5 hR1 (.slice none 0 0) (.int .i64 0) (.slice none 0 0) (.int .i64 0) (.int .i64 0))
      refine bodyPost_ret (v := .tuple #[.agg #[.slice none 0 0, .int .i64 0, .slice none 0 0, .int .i64 0, .int .i64 0], .int .i64 0]) ?_ rfl ?_
      · simp [results, Try.results57, go_sem, e0, e1, e2, e3, e4]
      · exact ⟨below5 hA1 (Nat.le_refl _) _ _ _ _ _, .inl ⟨HP.out, rfl⟩⟩
    · have q2 : ¬ (end_ : Int) - ((at_ : Int) + 3) < (n : Int) + 2 := by omega
      have hcp := HCP.out
      rw [if_neg h2] at hcp
      have hpt := part_w (.slice (some ad) b.length c) b (at_ + 3) n ((at_ : Int) + 3) n rfl rfl (by omega) (by omega) w1 (hv.below hA1 (Nat.le_refl _))
      have z0 := hC1.frozen (j := 0) (by simp)
      have y0 := hC1.cell' (j := 0) (u := .slice none 0 0) rfl
      have y1 := hC1.cell' (j := 1) (u := .int .i64 (kb.toNat : Int)) rfl
      have hKL : ((b.drop (at_ + 3)).take n).length = n := by simp; omega
      have HKL := Lib.hid hKL
      generalize (b.drop (at_ + 3)).take n = key at *
      have HCP2 := Lib.hid hcp
      clear HCP hcp hKL r0 r1 r2 r3 r4 f0 f1 f2 f3 f4
      go_wp2_with fail
      refine hpt.mono ?_
      rintro e w2 ⟨g2, rfl, hg2, ho2, hb2⟩
      have hC2 := hC1.below hb2 hz1
      have hR2 := hR1.below hb2 hR1.lt
      have hA2 := hA1.trans (hb2.mono hA1.size)
      have z0 := hC2.frozen (j := 0) (by simp)
      have y0 := hC2.cell' (j := 0) (u := .slice none 0 0) rfl
      have hne : g2 ≠ w.heap.size + 1 := by omega
      have hgw : w1.heap.size ≤ g2 := by omega
      clear hg2
      clear hpt hC1 hR1 hA1 z0 y0 y1
      have z0 := hC2.frozen (j := 0) (by simp)
      have y0 := hC2.cell' (j := 0) (u := .slice none 0 0) rfl
      go_upto_region 9 with (fail)
      have hC3 := hC2.set 0 (.slice (some ⟨g2, 0, none⟩) n n)
      have hR3 := hR2.far (p := ⟨w.heap.size + 1, 0, none⟩) (show w.heap.size ≠ w.heap.size + 1 by omega) (.slice (some ⟨g2, 0, none⟩) n n)
      have hA3 := hA2.setCell (p := ⟨w.heap.size + 1, 0, none⟩) (show w.heap.size ≤ w.heap.size + 1 by omega) (.slice (some ⟨g2, 0, none⟩) n n)
      have ho3 : OwB (w2.setCell ⟨w.heap.size + 1, 0, none⟩ (.slice (some ⟨g2, 0, none⟩) n n)) w.heap.size (.slice (some ⟨g2, 0, none⟩) n n) key := Own.heap (OwB.base_le ho2 (b := w.heap.size) fun k hk => by simp only [Value.ownBlock, if_true, Option.some.injEq] at hk; omega) fun k hk => Below.heap_setCell _ _ _ _ (by simp only [Value.ownBlock, if_true, Option.some.injEq] at hk; subst hk; exact hne)
      have hz3 : g2 < (w2.setCell ⟨w.heap.size + 1, 0, none⟩ (.slice (some ⟨g2, 0, none⟩) n n)).heap.size := (Own.lt ho3 g2 rfl).2
      simp only [List.set_cons_zero] at hC3
      generalize w2.setCell ⟨w.heap.size + 1, 0, none⟩ (.slice (some ⟨g2, 0, none⟩) n n) = w3 at *
      clear hC2 hR2 hA2 ho2 hb2 z0 y0
      obtain ⟨r0, r1, r2, r3, r4⟩ := cells5 hR3
      have f0 := hR3.frozen (j := 0) (by simp [zeroC]); have f1 := hR3.frozen (j := 1) (by simp [zeroC]); have f2 := hR3.frozen (j := 2) (by simp [zeroC]); have f3 := hR3.frozen (j := 3) (by simp [zeroC]); have f4 := hR3.frozen (j := 4) (by simp [zeroC])
      obtain ⟨y0, y1, y2, y3, y4⟩ := cells5 hC3
      have z2 := hC3.frozen (j := 2) (by simp); have z3 := hC3.frozen (j := 3) (by simp); have z4 := hC3.frozen (j := 4) (by simp)
      have q3 : IntKind.i64.wrap ((end_ : Int) - ((at_ : Int) + 3 + (n : Int))) = (end_ : Int) - ((at_ : Int) + 3 + (n : Int)) := by rw [IntKind.wrap_i64]; omega
      clear q1 q2
      by_cases hk1 : ((kb.toNat : Nat) : Int) = 1
      · have hkb : (((kb.toNat : Nat) : Int) != 1) = false := by simp [hk1]
        have hcp := HCP2.out
        rw [if_neg (by simp [hk1])] at hcp
        have hN2 := number_w 2 2 rfl (by omega) (by omega) (.slice (some ad) b.length c) b (at_ + 3 + n) ((at_ : Int) + 3 + (n : Int)) rfl (by omega) w3 (hv.below hA3 (Nat.le_refl _))
        have hl2 := numAt_lt b (at_ + 3 + n) 2
        generalize numAt b (at_ + 3 + n) 2 = m at *
        have q4 : IntKind.i64.wrap ((end_ : Int) - ((at_ : Int) + 3 + (n : Int) + 2)) = (end_ : Int) - ((at_ : Int) + 3 + (n : Int) + 2) := by rw [IntKind.wrap_i64]; omega
        have HK1 := Lib.hid hk1
        have HCP3 := Lib.hid hcp
        clear HCP2 hcp hk1
        go_wp2_with fail
        refine hN2.mono ?_
        rintro e w4 ⟨rfl, rfl⟩
        clear hN2
        by_cases h3 : end_ < at_ + 3 + n + 2 + m
        · have HP : Hid (cellP b at_ end_ = none) := by show _ = _; rw [HCP3.out, if_pos h3]
          have q2 : (end_ : Int) - ((at_ : Int) + 3 + (n : Int) + 2) < (m : Int) := by omega
          clear HCP3
          go_wp2_with fail
          obtain ⟨e0, e1, e2, e3, e4⟩ := cells5 (set5 hR3 (.slice none 0 0) (.int .i64 0) (.slice none 0 0) (.int .i64 0) (.int .i64 0))
          refine bodyPost_ret (v := .tuple #[.agg #[.slice none 0 0, .int .i64 0, .slice none 0 0, .int .i64 0, .int .i64 0], .int .i64 0]) ?_ rfl ?_
          · simp [results, Try.results57, go_sem, e0, e1, e2, e3, e4]
          · exact ⟨below5 hA3 (Nat.le_refl _) _ _ _ _ _, .inl ⟨HP.out, rfl⟩⟩
        · have q2 : ¬ (end_ : Int) - ((at_ : Int) + 3 + (n : Int) + 2) < (m : Int) := by omega
          have hcp := HCP3.out
          rw [if_neg h3] at hcp
          have hpt := part_w (.slice (some ad) b.length c) b (at_ + 3 + n + 2) m ((at_ : Int) + 3 + (n : Int) + 2) m rfl rfl (by omega) (by omega) w3 (hv.below hA3 (Nat.le_refl _))
          have hVL : ((b.drop (at_ + 3 + n + 2)).take m).length = m := by simp; omega
          have HVL := Lib.hid hVL
          generalize (b.drop (at_ + 3 + n + 2)).take m = val at *
          have HCP4 := Lib.hid hcp
          clear HCP3 hcp hVL
          go_wp2_with fail
          refine hpt.mono ?_
          rintro e w4 ⟨g4, rfl, hg4, hv4, hb4⟩
          have hC4 := hC3.below hb4 hC3.lt
          have hR4 := hR3.below hb4 hR3.lt
          have hA4 := hA3.trans (hb4.mono hA3.size)
          have ho4 := Own.below' ho3 hb4 (Nat.le_refl _)
          have hzC := hC3.lt
          have hne4 : g4 ≠ w.heap.size + 1 := by omega
          have hgw4 : w3.heap.size ≤ g4 := by omega
          clear hg4 hpt hC3 hR3 hA3 ho3 y0 y1 y2 y3 y4 z2 z3 z4 r0 r1 r2 r3 r4 f0 f1 f2 f3 f4
          have y2 := hC4.cell' (j := 2) (u := .slice none 0 0) rfl
          have z2 := hC4.frozen (j := 2) (by simp)
          go_upto_region 20 with (fail)
          have hC5 := hC4.set 2 (.slice (some ⟨g4, 0, none⟩) m m)
          have hR5 := hR4.far (p := ⟨w.heap.size + 1, 2, none⟩) (show w.heap.size ≠ w.heap.size + 1 by omega) (.slice (some ⟨g4, 0, none⟩) m m)
          have hA5 := hA4.setCell (p := ⟨w.heap.size + 1, 2, none⟩) (show w.heap.size ≤ w.heap.size + 1 by omega) (.slice (some ⟨g4, 0, none⟩) m m)
          have ho5 : OwB (w4.setCell ⟨w.heap.size + 1, 2, none⟩ (.slice (some ⟨g4, 0, none⟩) m m)) w.heap.size (.slice (some ⟨g2, 0, none⟩) n n) key := Own.heap ho4 fun k hk => Below.heap_setCell _ _ _ _ (by simp only [Value.ownBlock, if_true, Option.some.injEq] at hk; subst hk; exact hne)
          have hv5 : OwB (w4.setCell ⟨w.heap.size + 1, 2, none⟩ (.slice (some ⟨g4, 0, none⟩) m m)) w.heap.size (.slice (some ⟨g4, 0, none⟩) m m) val := Own.heap (OwB.base_le hv4 (b := w.heap.size) fun k hk => by simp only [Value.ownBlock, if_true, Option.some.injEq] at hk; omega) fun k hk => Below.heap_setCell _ _ _ _ (by simp only [Value.ownBlock, if_true, Option.some.injEq] at hk; subst hk; exact hne4)
          simp only [List.set_cons_succ, List.set_cons_zero] at hC5
          generalize w4.setCell ⟨w.heap.size + 1, 2, none⟩ (.slice (some ⟨g4, 0, none⟩) m m) = w5 at *
          clear hC4 hR4 hA4 ho4 hv4 hb4 y2 z2
          obtain ⟨r0, r1, r2, r3, r4⟩ := cells5 hR5
          have f0 := hR5.frozen (j := 0) (by simp [zeroC]); have f1 := hR5.frozen (j := 1) (by simp [zeroC]); have f2 := hR5.frozen (j := 2) (by simp [zeroC]); have f3 := hR5.frozen (j := 3) (by simp [zeroC]); have f4 := hR5.frozen (j := 4) (by simp [zeroC])
          obtain ⟨y0, y1, y2, y3, y4⟩ := cells5 hC5
          go_wp2_with fail
          obtain ⟨e0, e1, e2, e3, e4⟩ := cells5 (set5 hR5 (.slice (some ⟨g2, 0, none⟩) n n) (.int .i64 (kb.toNat : Int)) (.slice (some ⟨g4, 0, none⟩) m m) (.int .i64 0) (.int .i64 0))
          refine bodyPost_ret (v := .tuple #[.agg #[(.slice (some ⟨g2, 0, none⟩) n n), .int .i64 (kb.toNat : Int), (.slice (some ⟨g4, 0, none⟩) m m), .int .i64 0, .int .i64 0], .int .i64 ((at_ : Int) + 3 + (n : Int) + 2 + (m : Int))]) ?_ rfl ?_
          · simp [results, Try.results57, go_sem, e0, e1, e2, e3, e4]
          · refine ⟨below5 hA5 (Nat.le_refl _) _ _ _ _ _, .inr ⟨⟨(.slice (some ⟨g2, 0, none⟩) n n), (.slice (some ⟨g4, 0, none⟩) m m), ⟨key, kb.toNat, val, 0, 0⟩⟩, at_ + 3 + n + 2 + m, HCP4.out, rfl, by omega, by omega, ?_⟩⟩
            refine ⟨⟨g2, by rw [HKL.out], fun h hh => by simp only [Value.ownBlock, if_true, Option.some.injEq] at hh; omega⟩, ⟨_, by rw [HVL.out]⟩, ow5 ho5 (fun k hk => by simp only [Value.ownBlock, if_true, Option.some.injEq] at hk; omega) _ _ _ _ _, ow5 hv5 (fun k hk => by simp only [Value.ownBlock, if_true, Option.some.injEq] at hk; omega) _ _ _ _ _, ?_, ?_, ?_⟩
            · show _ ≤ _ ∧ _ ≤ _
              simp only
              omega
            · show _ ≤ _ ∧ _ ≤ _
              simp only
              omega
            · show _ ≤ _ ∧ _ ≤ _
              simp only
              omega
      · have hkb : (((kb.toNat : Nat) : Int) != 1) = true := by simp only [bne, beq_eq_false_iff_ne.2 hk1]; rfl
        have hcp := HCP2.out
        rw [if_pos hk1] at hcp
        clear hk1
        by_cases h3 : end_ < at_ + 3 + n + 8
        · have HP : Hid (cellP b at_ end_ = none) := by show _ = _; rw [hcp, if_pos h3]
          have q2 : (end_ : Int) - ((at_ : Int) + 3 + (n : Int)) < 8 := by omega
          clear HCP2 hcp
          go_wp2_with fail
          obtain ⟨e0, e1, e2, e3, e4⟩ := cells5 (set5 hR3 (.slice none 0 0) (.int .i64 0) (.slice none 0 0) (.int .i64 0) (.int .i64 0))
          refine bodyPost_ret (v := .tuple #[.agg #[.slice none 0 0, .int .i64 0, .slice none 0 0, .int .i64 0, .int .i64 0], .int .i64 0]) ?_ rfl ?_
          · simp [results, Try.results57, go_sem, e0, e1, e2, e3, e4]
          · exact ⟨below5 hA3 (Nat.le_refl _) _ _ _ _ _, .inl ⟨HP.out, rfl⟩⟩
        · have q2 : ¬ (end_ : Int) - ((at_ : Int) + 3 + (n : Int)) < 8 := by omega
          rw [if_neg h3] at hcp
          have hN2 := number_w 4 4 rfl (by omega) (by omega) (.slice (some ad) b.length c) b (at_ + 3 + n) ((at_ : Int) + 3 + (n : Int)) rfl (by omega) w3 (hv.below hA3 (Nat.le_refl _))
          have hN3 := number_w 4 4 rfl (by omega) (by omega) (.slice (some ad) b.length c) b (at_ + 3 + n + 4) ((at_ : Int) + 3 + (n : Int) + 4) rfl (by omega) w3 (hv.below hA3 (Nat.le_refl _))
          have hl2 := numAt_lt b (at_ + 3 + n) 4
          have hl3 := numAt_lt b (at_ + 3 + n + 4) 4
          generalize numAt b (at_ + 3 + n) 4 = pn at *
          generalize numAt b (at_ + 3 + n + 4) 4 = cn at *
          have HCP3 := Lib.hid hcp
          clear HCP2 hcp
          go_wp2_with fail
          refine hN2.mono ?_
          rintro e w4 ⟨rfl, rfl⟩
          go_wp2_with fail
          refine hN3.mono ?_
          rintro e w5 ⟨rfl, rfl⟩
          clear hN2 hN3
          go_upto_region 14 with (fail)
          have hC4 := (hC3.set 3 (.int .i64 (pn : Int))).set 4 (.int .i64 (cn : Int))
          have hR4 := (hR3.far (p := ⟨w.heap.size + 1, 3, none⟩) (show w.heap.size ≠ w.heap.size + 1 by omega) (.int .i64 (pn : Int))).far (p := ⟨w.heap.size + 1, 4, none⟩) (show w.heap.size ≠ w.heap.size + 1 by omega) (.int .i64 (cn : Int))
          have hA4 := (hA3.setCell (p := ⟨w.heap.size + 1, 3, none⟩) (show w.heap.size ≤ w.heap.size + 1 by omega) (.int .i64 (pn : Int))).setCell (p := ⟨w.heap.size + 1, 4, none⟩) (show w.heap.size ≤ w.heap.size + 1 by omega) (.int .i64 (cn : Int))
          have ho4 : OwB ((w3.setCell ⟨w.heap.size + 1, 3, none⟩ (.int .i64 (pn : Int))).setCell ⟨w.heap.size + 1, 4, none⟩ (.int .i64 (cn : Int))) w.heap.size (.slice (some ⟨g2, 0, none⟩) n n) key := Own.heap ho3 fun k hk => by
            simp only [Value.ownBlock, if_true, Option.some.injEq] at hk; subst hk
            rw [Below.heap_setCell _ _ _ _ hne, Below.heap_setCell _ _ _ _ hne]
          simp only [List.set_cons_succ, List.set_cons_zero] at hC4
          generalize (w3.setCell ⟨w.heap.size + 1, 3, none⟩ (.int .i64 (pn : Int))).setCell ⟨w.heap.size + 1, 4, none⟩ (.int .i64 (cn : Int)) = w4 at *
          clear hC3 hR3 hA3 ho3 y0 y1 y2 y3 y4 z2 z3 z4 r0 r1 r2 r3 r4 f0 f1 f2 f3 f4
          obtain ⟨r0, r1, r2, r3, r4⟩ := cells5 hR4
          have f0 := hR4.frozen (j := 0) (by simp [zeroC]); have f1 := hR4.frozen (j := 1) (by simp [zeroC]); have f2 := hR4.frozen (j := 2) (by simp [zeroC]); have f3 := hR4.frozen (j := 3) (by simp [zeroC]); have f4 := hR4.frozen (j := 4) (by simp [zeroC])
          obtain ⟨y0, y1, y2, y3, y4⟩ := cells5 hC4
          go_wp2_with fail
          obtain ⟨e0, e1, e2, e3, e4⟩ := cells5 (set5 hR4 (.slice (some ⟨g2, 0, none⟩) n n) (.int .i64 (kb.toNat : Int)) (.slice none 0 0) (.int .i64 (pn : Int)) (.int .i64 (cn : Int)))
          refine bodyPost_ret (v := .tuple #[.agg #[(.slice (some ⟨g2, 0, none⟩) n n), .int .i64 (kb.toNat : Int), .slice none 0 0, .int .i64 (pn : Int), .int .i64 (cn : Int)], .int .i64 ((at_ : Int) + 3 + (n : Int) + 8)]) ?_ rfl ?_
          · simp [results, Try.results57, go_sem, e0, e1, e2, e3, e4]
          · refine ⟨below5 hA4 (Nat.le_refl _) _ _ _ _ _, .inr ⟨⟨(.slice (some ⟨g2, 0, none⟩) n n), .slice none 0 0, ⟨key, kb.toNat, [], pn, cn⟩⟩, at_ + 3 + n + 8, HCP3.out, rfl, by omega, by omega, ?_⟩⟩
            refine ⟨⟨g2, by rw [HKL.out], fun h hh => by simp [Value.ownBlock] at hh⟩, ⟨none, rfl⟩, ow5 ho4 (fun k hk => by simp only [Value.ownBlock, if_true, Option.some.injEq] at hk; omega) _ _ _ _ _, OwB.nil _ _, ?_, ?_, ?_⟩
            · show _ ≤ _ ∧ _ ≤ _
              simp only
              omega
            · show _ ≤ _ ∧ _ ≤ _
              simp only
              omega
            · show _ ≤ _ ∧ _ ≤ _
              simp only
              omega
end Go.Proofs.Ytonbcipofakpjaa

-- Owned cells: append; what Decode tells.
namespace Go.Proofs.Ytonbcipofakpjaa
open Go.RowKit
theorem Own.ne_Tg {w : World} {b n size : Nat} {v : Value} {xs : List Value} {T T' : TypeId} {g : Nat} {cs : List Value} (h : Own w b T size v n xs) (hg : OBlk w g T' cs) (hT : T ≠ T') : some g ≠ v.ownBlock := by
  rcases h.2 with ⟨rfl, _⟩ | ⟨g', cap, cs', rfl, _, hg', _⟩
  · simp [Value.ownBlock]
  · intro e
    simp [Value.ownBlock] at e
    subst e
    exact (hg'.ne hg hT) rfl
theorem OwB.blkU {w : World} {b : Nat} {v : Value} {l : List UInt8} (h : OwB w b v l) {k : Nat} (hk : v.ownBlock = some k) : ∃ cs, OBlk w k 5 cs := by
  rcases h.2 with ⟨rfl, _⟩ | ⟨g', cap, cs', rfl, _, hg', _⟩
  · simp [Value.ownBlock] at hk
  · simp [Value.ownBlock] at hk
    subst hk
    exact ⟨cs', hg'⟩
/-- What a page says. -/
def isPln (b : List UInt8) (kind : Int) (l : List PC) : Prop := isPowB (b.length : Int) = true ∧ isKindB kind = true ∧ encE kind l b.length = 0 ∧ laidF kind l b.length = b
theorem isPln_parse {b : List UInt8} {kind : Int} {l : List PC} (h : isPln b kind l) : parseF b = some l ∧ kindF b = kind := by
  obtain ⟨h1, h2, h3, h4⟩ := h
  have hP := (isPowB_range h1).2
  have := parse_laid (P := b.length) (by omega) h2 h3
  rw [h4] at this
  exact this
def DecAt (w : World) (b : List UInt8) (e : Ending) (w' : World) : Prop :=
  Below w.heap.size w w' ∧ ((∃ (kind : Int) (l : List CV) (v : Value), isPln b kind (pcs l) ∧ e = .returned (.tuple #[.int .i64 kind, v, .int .i64 0]) ∧ OwCs w' w.heap.size v l) ∨
    ((∀ kind l, ¬ isPln b kind l) ∧ e = .returned (.tuple #[.int .i64 0, .slice none 0 0, .int .i64 60])))
theorem OwCs.nil (w : World) (base : Nat) : OwCs w base (.slice none 0 0) [] := { own := Own.nil _ _ _ _, each := by simp, rng := by simp, apart := by simp }
theorem OwCs.rd {w : World} {base : Nat} {v : Value} {l : List CV} (h : OwCs w base v l) : RdCs w v l :=
  ⟨h.own.rd, fun x hx => { k := (h.each x hx).1.rd, v := (h.each x hx).2.rd, r1 := (h.rng x hx).1, r2 := (h.rng x hx).2.1, r3 := (h.rng x hx).2.2 }⟩
theorem OwCs.below {w w' : World} {base : Nat} {v : Value} {l : List CV} (h : OwCs w base v l) (hb : Below w.heap.size w w') : OwCs w' base v l :=
  { h with own := Own.below' h.own hb (Nat.le_refl _), each := fun x hx => ⟨Own.below' (h.each x hx).1 hb (Nat.le_refl _), Own.below' (h.each x hx).2 hb (Nat.le_refl _)⟩ }
theorem OwCs.snoc {w w1 w2 : World} {base : Nat} {v v' : Value} {l : List CV} {x : CV} (h : OwCs w base v l) (hb : Below w.heap.size w w1) (hbase : base ≤ w.heap.size) (hk : OwB w1 w.heap.size x.kv x.c.key) (hv : OwB w1 w.heap.size x.vv x.c.val)
    (hr : i64r x.c.kind ∧ i64r x.c.page ∧ i64r x.c.count) (ha : ∀ g g', x.kv.ownBlock = some g → x.vv.ownBlock = some g' → g < g') (hg : w1.grownBy w2 v.ownBlock) (ho : Own w2 base 32 5 v' (l.length + 1) (flatC l ++ x.cells)) : OwCs w2 base v' (l ++ [x]) where
  own := by
    have e : flatC (l ++ [x]) = flatC l ++ x.cells := by rw [flatC_append]; simp [flatC]
    rw [e, List.length_append]; exact ho
  each := by
    have hown := Own.below' h.own hb (Nat.le_refl _)
    have step : ∀ {u : Value} {m : List UInt8}, OwB w1 base u m → OwB w2 base u m := fun {u m} hu => Own.grown hu hg fun g hg' e => by
      obtain ⟨cs, hc⟩ := OwB.blkU hu hg'
      exact Own.ne_Tg hown hc (by decide) e
    intro y hy
    rcases List.mem_append.1 hy with hy | hy
    · exact ⟨step (Own.below' (h.each y hy).1 hb (Nat.le_refl _)), step (Own.below' (h.each y hy).2 hb (Nat.le_refl _))⟩
    · rw [List.mem_singleton] at hy
      subst hy
      exact ⟨step (OwB.base_le hk fun g hg' => Nat.le_trans hbase (Own.lt hk g hg').1), step (OwB.base_le hv fun g hg' => Nat.le_trans hbase (Own.lt hv g hg').1)⟩
  rng := by
    intro y hy
    rcases List.mem_append.1 hy with hy | hy
    · exact h.rng y hy
    · rw [List.mem_singleton] at hy
      subst hy; exact hr
  apart := by
    rw [List.flatMap_append, List.filterMap_append, List.pairwise_append]
    refine ⟨h.apart, ?_, ?_⟩
    · simp only [List.flatMap_cons, List.flatMap_nil, List.append_nil]
      cases h1 : x.kv.ownBlock with
      | none => cases h2 : x.vv.ownBlock <;> simp
      | some g => cases h2 : x.vv.ownBlock with
        | none => simp
        | some g' => simpa using ha g g' h1 h2
    · intro g hg1 g' hg2
      have hlt : g < w.heap.size := by
        obtain ⟨o, ho, he⟩ := List.mem_filterMap.1 hg1
        obtain ⟨y, hy, hoy⟩ := List.mem_flatMap.1 ho
        simp only [id] at he
        rcases List.mem_cons.1 hoy with e | e
        · exact (Own.lt (h.each y hy).1 g (by rw [← e, he])).2
        · rw [List.mem_singleton] at e
          exact (Own.lt (h.each y hy).2 g (by rw [← e, he])).2
      have hge : w.heap.size ≤ g' := by
        obtain ⟨o, ho, he⟩ := List.mem_filterMap.1 hg2
        simp only [List.flatMap_cons, List.flatMap_nil, List.append_nil] at ho
        simp only [id] at he
        rcases List.mem_cons.1 ho with e | e
        · exact (Own.lt hk g' (by rw [← e, he])).1
        · rw [List.mem_singleton] at e
          exact (Own.lt hv g' (by rw [← e, he])).1
      omega
theorem cells_one {w : World} {b1 b2 : Nat} {x : CV} (hk : OwB w b1 x.kv x.c.key) (hv : OwB w b2 x.vv x.c.val) : ∀ u ∈ x.cells, u.oneCell' = true := by
  have h : ∀ {b : Nat} {v : Value} {l : List UInt8}, OwB w b v l → v.oneCell' = true := fun {b v l} h => by
    rcases Own.form h with ⟨rfl, _⟩ | ⟨_, _, rfl, _⟩ <;> rfl
  intro u hu
  simp only [CV.cells, List.mem_cons, List.not_mem_nil, or_false] at hu
  rcases hu with rfl | rfl | rfl | rfl | rfl
  · exact h hk
  · rfl
  · exact h hv
  · rfl
  · rfl
set_option maxRecDepth 20000 in
set_option maxHeartbeats 1000000 in
theorem Equal_any (u v : Value) (a b : List UInt8) (w : World) (hu : RdB w u a) (hv : RdB w v b) :
    Calls Try.prog 58 #[u, v] w fun e w' => e = .returned (.bool (a == b)) ∧ w = w' := by
  have q1 := run_B_string hu
  have q2 := run_B_string hv
  obtain ⟨A, c, rfl, _⟩ := hu.form
  obtain ⟨B, d, rfl, _⟩ := hv.form
  go_enter Try.func58, Try.ntmps58
  go_wp2_with fail
  go_ret
  exact ⟨rfl, rfl⟩
end Go.Proofs.Ytonbcipofakpjaa
