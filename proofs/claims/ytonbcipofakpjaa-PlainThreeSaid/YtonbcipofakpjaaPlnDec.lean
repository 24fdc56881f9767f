/- plain.Decode: the walk. -/
import Derived.Test.YtonbcipofakpjaaPlnOwn
import Derived.Deep.CutBlock
namespace Go.Proofs.Ytonbcipofakpjaa
open Go.RowKit
set_option maxRecDepth 100000 in
set_option maxHeartbeats 8000000 in
theorem PDecode_any (v : Value) (b : List UInt8) (w : World) (hv : RdB w v b) : Calls Try.prog 20 #[v] w (DecAt w b) := by
  obtain ⟨A, c, rfl, hm⟩ := hv.form
  have hPa := fun W => isPage_any (b.length : Int) (by omega) W
  cases hp : isPowB (b.length : Int) with
  | false =>
    have HN : Hid (∀ kind l, ¬ isPln b kind l) := Lib.hid fun kind l h => by have := h.1; rw [hp] at this; cases this
    rw [hp] at hPa
    clear hp
    go_enter Try.func20, Try.ntmps20
    go_wp2_with (first | (go_at_call 49; refine (hPa _).mono ?_; rintro e w1 ⟨rfl, rfl⟩) | fail)
    refine bodyPost_ret (v := .tuple #[.int .i64 0, .slice none 0 0, .int .i64 60]) ?_ rfl ?_
    · simp [results, Try.results20, go_sem]
    · exact ⟨Below.refl _ _, .inr ⟨HN.out, rfl⟩⟩
  | true =>
    obtain ⟨hP1, hP2⟩ := isPowB_range hp
    have hb1 : 512 ≤ b.length := by omega
    have hb2 : b.length ≤ 65536 := by omega
    have HPG := Lib.hid hp
    have HNO : Hid (∀ kind l, isPln b kind l → parseF b = some l ∧ kindF b = kind) := Lib.hid fun kind l h => isPln_parse h
    rw [hp] at hPa
    clear hp
    have hN1 := number_w 2 2 rfl (by omega) (by omega) (.slice A b.length c) b 2 2 rfl (by omega) w hv
    have hN2 := number_w 2 2 rfl (by omega) (by omega) (.slice A b.length c) b 4 4 rfl (by omega) w hv
    have hl1 := numAt_lt b 2 2
    have hl2 := numAt_lt b 4 2
    have hpf : parseF b = if b.length - 4 < 4 + 2 * numAt b 2 2 then none else cellsP b (b.length - 4) (firstP b (numAt b 2 2) (b.length - 4)) (numAt b 2 2) := rfl
    have hfp : ∀ n, firstP b n (b.length - 4) ≤ 65536 := fun n => by unfold firstP; split <;> omega
    have hff : firstP b (numAt b 2 2) (b.length - 4) = if 0 < numAt b 2 2 then numAt b 4 2 else b.length - 4 := rfl
    have hfp := hfp (numAt b 2 2)
    generalize numAt b 2 2 = n at *
    generalize firstP b n (b.length - 4) = fp at *
    have HFF := Lib.hid hff
    generalize numAt b 4 2 = n4 at *
    obtain ⟨en, hen⟩ : ∃ en : Nat, b.length = en + 4 := ⟨b.length - 4, by omega⟩
    have hen2 : b.length - 4 = en := by omega
    rw [hen2] at hpf hff
    have HPF := Lib.hid hpf
    have HEN := Lib.hid hen
    have e1 : (b.length : Int) - 4 = (en : Int) := by omega
    have e2 : IntKind.i64.wrap (en : Int) = (en : Int) := by rw [IntKind.wrap_i64]; omega
    have e3 : en + 4 ≤ b.length := by omega
    have hff' : (0 < n → fp = n4) ∧ (¬ 0 < n → fp = en) := ⟨fun h => by rw [hff, if_pos h], fun h => by rw [hff, if_neg h]⟩
    have HF2 := Lib.hid hff'
    clear hpf hff HFF hff' hen hen2
    by_cases h1 : en < 4 + 2 * n
    · have HN : Hid (∀ kind l, ¬ isPln b kind l) := Lib.hid fun kind l h => by
        have := (HNO.out kind l h).1
        rw [HPF.out, if_pos h1] at this
        cases this
      have i1 : (en : Int) < 4 + 2 * (n : Int) := by omega
      go_enter Try.func20, Try.ntmps20
      go_wp2_with (first | (go_at_call 49; refine (hPa _).mono ?_; rintro e w1 ⟨rfl, rfl⟩) | (go_at_call 56; refine hN1.mono ?_; rintro e w1 ⟨rfl, rfl⟩) | fail)
      refine bodyPost_ret (v := .tuple #[.int .i64 0, .slice none 0 0, .int .i64 60]) ?_ rfl ?_
      · simp [results, Try.results20, go_sem]
      · exact ⟨Below.refl _ _, .inr ⟨HN.out, rfl⟩⟩
    · have i1 : ¬ (en : Int) < 4 + 2 * (n : Int) := by omega
      have HPF2 : Hid (parseF b = cellsP b en fp n) := by show _ = _; rw [HPF.out, if_neg h1]
      clear HPF
      go_enter Try.func20, Try.ntmps20
      go_upto_if 30 with (first | (go_at_call 49; refine (hPa _).mono ?_; rintro e w1 ⟨rfl, rfl⟩) | (go_at_call 56; refine hN1.mono ?_; rintro e w1 ⟨rfl, rfl⟩) | fail)
      go_cut [8] (fun s wx => s = .int .i64 (fp : Int) ∧ wx = w)
      case first =>
        by_cases hn0 : 0 < n
        · have i2 : (0 : Int) < (n : Int) := by omega
          go_wp2_with (first | (go_at_call 56; refine hN2.mono ?_; rintro e w1 ⟨rfl, rfl⟩) | fail)
          go_meet
          exact ⟨by rw [HF2.out.1 hn0], rfl⟩
        · have i2 : ¬ (0 : Int) < (n : Int) := by omega
          go_wp2_with fail
          go_meet
          exact ⟨by rw [HF2.out.2 hn0], rfl⟩
      case rest =>
        obtain ⟨rfl, rfl⟩ := hcut
        clear hPa hN1 hN2
        obtain ⟨i0, hi, hz0, hz1, hz2⟩ := info_parts cell_info
        go_wp2_with fail
        go_loopw [7, 8, 34] (fun cv t i wr => ∃ (k : Nat) (l : List CV) (a : Nat), k ≤ n ∧ i = .int .i64 (k : Int) ∧ t = .int .i64 (a : Int) ∧ a ≤ 65536 ∧ Hid (l.length = k) ∧ Hid (cellsP b en fp n = (cellsP b en a (n - k)).map (pcs l ++ ·)) ∧ OwCs wr wc.heap.size cv l ∧ Below wc.heap.size wc wr) (fun _ _ i _ => n - (intOf i).toNat)
        case atStart => exact ⟨0, [], fp, Nat.zero_le _, rfl, rfl, hfp, Lib.hid rfl, Lib.hid (by simp [pcs]), OwCs.nil _ _, Below.refl _ _⟩
        case round =>
          obtain ⟨k, l, a, hk, rfl, rfl, ha, HLK, HP, hO, hB⟩ := hrel
          obtain ⟨B, cc, rfl⟩ := Own.slice hO.own
          rw [HLK.out] at hO
          rw [HLK.out]
          by_cases hlt : k < n
          · have ik : (k : Int) < (n : Int) := by omega
            have hstep : cellsP b en a (n - k) = match cellP b a en with
                | none => none
                | some (c, t) => (cellsP b en t (n - (k + 1))).map (c :: ·) := by rw [show n - k = (n - (k + 1)) + 1 by omega]; rfl
            have HST := Lib.hid hstep
            have hce := cell_any (.slice A b.length c) b a en wr (hv.below hB (Nat.le_refl _)) hb2 (by omega) (by omega)
            clear hstep
            go_wp2_with fail
            refine hce.mono ?_
            rintro e w2 ⟨hw2, ⟨hno, rfl⟩ | ⟨x, tn, hso, rfl, htn, htp, ⟨g, hkv, hgh⟩, ⟨A', hvv⟩, hok, hov, hr1, hr2, hr3⟩⟩
            · have HN : Hid (∀ kind l, ¬ isPln b kind l) := Lib.hid fun kind l' h => by
                have := (HNO.out kind l' h).1
                rw [HPF2.out, HP.out, HST.out, hno] at this
                cases this
              clear hno hce
              have hB2 := hB.trans (hw2.mono hB.size)
              go_wp2_with fail
              refine bodyPost_ret (v := .tuple #[.int .i64 0, .slice none 0 0, .int .i64 60]) ?_ rfl ?_
              · simp [results, Try.results20, go_sem]
              · exact ⟨hB2.alloc hB2.size _, .inr ⟨HN.out, rfl⟩⟩
            · obtain ⟨kv, vv, key, ck, val, pg, ct⟩ := x
              simp only at hkv hvv
              subst hkv hvv
              have hP2 : cellsP b en fp n = (cellsP b en tn (n - (k + 1))).map (pcs (l ++ [⟨.slice (some ⟨g, 0, none⟩) key.length key.length, .slice A' val.length val.length, ⟨key, ck, val, pg, ct⟩⟩]) ++ ·) := by
                rw [HP.out, HST.out, hso]
                show Option.map _ (Option.map _ _) = _
                rw [Option.map_map]
                congr 1
                funext z
                simp [pcs]
              have HP2 := Lib.hid hP2
              unfold cellV
              have htb : (((tn : Nat) : Int) == 0) = false := beq_eq_false_iff_ne.2 (by omega)
              have hB2 := hB.trans (hw2.mono hB.size)
              have hA2 : Below wr.heap.size wr ((w2.alloc (.cells #[.slice (some ⟨g, 0, none⟩) key.length key.length, .int .i64 ck, .slice A' val.length val.length, .int .i64 pg, .int .i64 ct] 32)).alloc (.cells #[.slice (some ⟨g, 0, none⟩) key.length key.length, .int .i64 ck, .slice A' val.length val.length, .int .i64 pg, .int .i64 ct] 32)) := (hw2.alloc hw2.size _).alloc (by have := hw2.size; simp; omega) _
              have hsrc := Rd.five (w2.alloc (.cells #[.slice (some ⟨g, 0, none⟩) key.length key.length, .int .i64 ck, .slice A' val.length val.length, .int .i64 pg, .int .i64 ct] 32)) (.slice (some ⟨g, 0, none⟩) key.length key.length) (.int .i64 ck) (.slice A' val.length val.length) (.int .i64 pg) (.int .i64 ct) 32
              rw [World.size_alloc] at hsrc
              have hown2 := Own.below' hO.own hA2 (Nat.le_refl _)
              rw [HLK.out] at hown2
              have hone := cells_one hok hov
              have hcz : wc.heap.size ≤ ((w2.alloc (.cells #[.slice (some ⟨g, 0, none⟩) key.length key.length, .int .i64 ck, .slice A' val.length val.length, .int .i64 pg, .int .i64 ct] 32)).alloc (.cells #[.slice (some ⟨g, 0, none⟩) key.length key.length, .int .i64 ck, .slice A' val.length val.length, .int .i64 pg, .int .i64 ct] 32)).heap.size := Nat.le_trans hB.size hA2.size
              have hok2 := Own.below' hok (((Below.refl w2.heap.size w2).alloc (Nat.le_refl _) (.cells #[.slice (some ⟨g, 0, none⟩) key.length key.length, .int .i64 ck, .slice A' val.length val.length, .int .i64 pg, .int .i64 ct] 32)).alloc (by simp) (.cells #[.slice (some ⟨g, 0, none⟩) key.length key.length, .int .i64 ck, .slice A' val.length val.length, .int .i64 pg, .int .i64 ct] 32)) (Nat.le_refl _)
              have hov2 := Own.below' hov (((Below.refl w2.heap.size w2).alloc (Nat.le_refl _) (.cells #[.slice (some ⟨g, 0, none⟩) key.length key.length, .int .i64 ck, .slice A' val.length val.length, .int .i64 pg, .int .i64 ct] 32)).alloc (by simp) (.cells #[.slice (some ⟨g, 0, none⟩) key.length key.length, .int .i64 ck, .slice A' val.length val.length, .int .i64 pg, .int .i64 ct] 32)) (Nat.le_refl _)
              clear hP2 hso hce
              go_wp2_with (first
                | (at_builtin; refine wp_append rfl (.tmp 45) (.tmp 47) _ _ rfl wc.heap.size 32 i0 _ 5 72 Try.underlying25 hi hz0 hz1 hz2 rfl _ k (flatC l) rfl hown2 (.slice (some ⟨w2.heap.size + 1, 0, none⟩) 1 1) 1 _ rfl (Rd.src _ Try.underlying25 (by omega) hsrc hone) (by omega) (by omega) hcz ?_; intro v' w' ho' hg' hk'; obtain ⟨B', c', rfl⟩ := Own.slice ho')
                | fail)
              refine ⟨⟨k + 1, l ++ [⟨.slice (some ⟨g, 0, none⟩) key.length key.length, .slice A' val.length val.length, ⟨key, ck, val, pg, ct⟩⟩], tn, by omega, by go_num, rfl, by omega, Lib.hid (by rw [List.length_append, HLK.out]; rfl), HP2, ?_, ?_⟩, by simp [intOf]; omega⟩
              · exact hO.snoc hA2 hB.size hok2 hov2 ⟨hr1, hr2, hr3⟩ (fun g1 g' e1 e2 => by simp [Value.ownBlock] at e1; subst e1; exact hgh g' e2) hg' (by rw [HLK.out]; exact ho')
              · exact (hB.trans (hA2.mono hB.size)).grown hg' hcz (fun j hj => (Own.lt hown2 j hj).1)
          · obtain rfl : k = n := by omega
            have hpl : parseF b = some (pcs l) := by
              rw [HPF2.out, HP.out, Nat.sub_self]
              simp [cellsP]
            have HPL := Lib.hid hpl
            obtain ⟨kb, hkb⟩ : ∃ kb, b[0]? = some kb := ⟨_, List.getElem?_eq_getElem (by omega)⟩
            have hgd : kindF b = (kb.toNat : Int) := by unfold kindF; rw [List.getD, hkb]; rfl
            have HKF := Lib.hid hgd
            obtain ⟨ad, rfl, hcb⟩ := (hv.below hB (Nat.le_refl _)).at_ (j := 0) (by omega)
            have hcb' : wr.cell? ad = some (.int .u8 (kb.toNat : Int)) := by
              rw [List.getElem?_eq_getElem (by omega)] at hkb
              rw [← Option.some.inj hkb]
              have := hcb
              rw [show ad.add 0 = ad from rfl] at this
              exact this
            have hkl := kb.toNat_lt
            have hkw : IntKind.i64.wrap ((kb.toNat : Nat) : Int) = ((kb.toNat : Nat) : Int) := by rw [IntKind.wrap_i64]; omega
            have j1 : (0 : Int) < (b.length : Int) := by omega
            have j2 : 0 < b.length := by omega
            have hrd := hO.rd
            have hE := PEncode_any (kb.toNat : Int) _ l (b.length : Int) (by unfold i64r; omega) wr hrd (by rw [HLK.out]; omega)
            have hEQ := fun v' (a' : List UInt8) W (hW : Below wc.heap.size wc W) (h' : RdB W v' a') => Equal_any v' (.slice (some ad) b.length c) a' b W h' (hv.below hW (Nat.le_refl _))
            have HISP : Hid (isPowB (b.length : Int) = true) := HPG
            clear hcb hkb hgd hpl hrd hkl
            go_wp2_with fail
            refine hE.mono ?_
            unfold EncAt
            simp only [Int.toNat_natCast]
            rintro e w2 ⟨hw2, ⟨hf, rfl⟩ | ⟨ht, ⟨hne, rfl⟩ | ⟨hz, g, rfl, hg, hbk⟩⟩⟩
            · have HN : Hid (∀ kind l, ¬ isPln b kind l) := Lib.hid fun kind l' h => by
                have h1 := (HNO.out kind l' h).2
                have h2 := h.2.1
                rw [HKF.out] at h1
                rw [← h1] at h2
                rw [h2, HISP.out] at hf
                cases hf
              have hB2 := hB.trans (hw2.mono hB.size)
              clear hf hE hEQ
              go_wp2_with fail
              refine bodyPost_ret (v := .tuple #[.int .i64 0, .slice none 0 0, .int .i64 60]) ?_ rfl ?_
              · simp [results, Try.results20, go_sem]
              · exact ⟨hB2, .inr ⟨HN.out, rfl⟩⟩
            · have HN : Hid (∀ kind l, ¬ isPln b kind l) := Lib.hid fun kind l' h => by
                have h1 := HNO.out kind l' h
                rw [HKF.out, HPL.out] at h1
                obtain ⟨h1, h2⟩ := h1
                injection h1 with h1
                have h3 := h.2.2.1
                rw [← h1, ← h2] at h3
                exact hne h3
              have hB2 := hB.trans (hw2.mono hB.size)
              have hnb : (encE (kb.toNat : Int) (pcs l) b.length != 0) = true := by simp only [bne, beq_eq_false_iff_ne.2 hne]; rfl
              generalize encE (kb.toNat : Int) (pcs l) b.length = ee at *
              clear hne hE hEQ ht
              go_wp2_with fail
              refine bodyPost_ret (v := .tuple #[.int .i64 0, .slice none 0 0, .int .i64 60]) ?_ rfl ?_
              · simp [results, Try.results20, go_sem]
              · exact ⟨hB2, .inr ⟨HN.out, rfl⟩⟩
            · have hB2 := hB.trans (hw2.mono hB.size)
              have hll : (laidF (kb.toNat : Int) (pcs l) b.length).length = b.length := laidF_length (encE_zero.1 hz).2
              have hEQ2 := hEQ _ _ w2 hB2 (hbk.rdB hll (by omega))
              have hisk : isKindB (kb.toNat : Int) = true := by
                rw [Bool.and_eq_true] at ht; exact ht.1
              have HZ := Lib.hid hz
              have hO2 := hO.below hw2
              rcases Bool.eq_false_or_eq_true (laidF (kb.toNat : Int) (pcs l) b.length == b) with hq | hq
              · rw [hq] at hEQ2
                have HY : Hid (isPln b (kb.toNat : Int) (pcs l)) := Lib.hid ⟨HISP.out, hisk, HZ.out, eq_of_beq hq⟩
                clear hq hE hEQ ht hz hll hbk hisk
                go_wp2_with fail
                refine hEQ2.mono ?_
                rintro e w3 ⟨rfl, rfl⟩
                go_wp2_with fail
                refine bodyPost_ret (v := .tuple #[.int .i64 (kb.toNat : Int), .slice B k cc, .int .i64 0]) ?_ rfl ?_
                · simp [results, Try.results20, go_sem]
                · exact ⟨hB2, .inl ⟨_, l, _, HY.out, rfl, hO2⟩⟩
              · rw [hq] at hEQ2
                have HN : Hid (∀ kind l, ¬ isPln b kind l) := Lib.hid fun kind l' h => by
                  have h1 := HNO.out kind l' h
                  rw [HKF.out, HPL.out] at h1
                  obtain ⟨h1, h2⟩ := h1
                  injection h1 with h1
                  have h3 := h.2.2.2
                  rw [← h1, ← h2] at h3
                  rw [h3] at hq
                  simp at hq
                clear hq hE hEQ ht hz hll hbk hisk
                go_wp2_with fail
                refine hEQ2.mono ?_
                rintro e w3 ⟨rfl, rfl⟩
                go_wp2_with fail
                refine bodyPost_ret (v := .tuple #[.int .i64 0, .slice none 0 0, .int .i64 60]) ?_ rfl ?_
                · simp [results, Try.results20, go_sem]
                · exact ⟨hB2, .inr ⟨HN.out, rfl⟩⟩
end Go.Proofs.Ytonbcipofakpjaa
