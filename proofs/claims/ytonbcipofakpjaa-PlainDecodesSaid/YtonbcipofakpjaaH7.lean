/- Texts joined: plain.Decode; slices.Clone of bytes.; plain.New, Open, Len, Used, Find; plain.Insert into a page that is empty, or beyond its end; plain.Insert into a page that is empty, or beyond its end; plain.Insert into a page that is empty, or beyond its end; espalierlaw06.awake -/
import Derived.Test.YtonbcipofakpjaaH2
import Derived.Test.YtonbcipofakpjaaH6
import Derived.Deep.CutBlock
import Derived.Lib.SlBytesConst
import Derived.Deep.RegionLaw
-- plain.Decode: the walk.
namespace Go.Proofs.Ytonbcipofakpjaa
open Go.RowKit
set_option maxRecDepth 100000 in
set_option maxHeartbeats 8000000 in
theorem PDecode_any (v : Value) (b : List UInt8) (w : World) (hv : RdB w v b) : Calls Try.prog 20 #[v] w (DecAt w b) := by
  obtain ⟨A, c, rfl, hm⟩ := hv.form
  have hPa := fun W => isPage_any (b.length : Int) (by omega) W
  cases hp : isPowB (b.length : Int) with
  | false =>
    have HN : Hid (∀ kind l, ¬ isPln b kind l) := Lib.hid fun kind l h => by have := h.1; rw [hp] at this; cases this
    rw [hp] at hPa
    clear hp
    go_enter Try.func20, Try.ntmps20
    go_wp2_with (first | (go_at_call 49; refine (hPa _).mono ?_; rintro e w1 ⟨rfl, rfl⟩) | fail)
    refine bodyPost_ret (v := .tuple #[.int .i64 0, .slice none 0 0, .int .i64 60]) ?_ rfl ?_
    · simp [results, Try.results20, go_sem]
    · exact ⟨Below.refl _ _, .inr ⟨HN.out, rfl⟩⟩
  | true =>
    obtain ⟨hP1, hP2⟩ := isPowB_range hp
    have hb1 : 512 ≤ b.length := by omega
    have hb2 : b.length ≤ 65536 := by omega
    have HPG := Lib.hid hp
    have HNO : Hid (∀ kind l, isPln b kind l → parseF b = some l ∧ kindF b = kind) := Lib.hid fun kind l h => isPln_parse h
    rw [hp] at hPa
    clear hp
    have hN1 := number_w 2 2 rfl (by omega) (by omega) (.slice A b.length c) b 2 2 rfl (by omega) w hv
    have hN2 := number_w 2 2 rfl (by omega) (by omega) (.slice A b.length c) b 4 4 rfl (by omega) w hv
    have hl1 := numAt_lt b 2 2
    have hl2 := numAt_lt b 4 2
    have hpf : parseF b = if b.length - 4 < 4 + 2 * numAt b 2 2 then none else cellsP b (b.length - 4) (firstP b (numAt b 2 2) (b.length - 4)) (numAt b 2 2) := rfl
    have hfp : ∀ n, firstP b n (b.length - 4) ≤ 65536 := fun n => by unfold firstP; split <;> omega
    have hff : firstP b (numAt b 2 2) (b.length - 4) = if 0 < numAt b 2 2 then numAt b 4 2 else b.length - 4 := rfl
    have hfp := hfp (numAt b 2 2)
    generalize numAt b 2 2 = n at *
    generalize firstP b n (b.length - 4) = fp at *
    have HFF := Lib.hid hff
    generalize numAt b 4 2 = n4 at *
    obtain ⟨en, hen⟩ : ∃ en : Nat, b.length = en + 4 := ⟨b.length - 4, by omega⟩
    have hen2 : b.length - 4 = en := by omega
    rw [hen2] at hpf hff
    have HPF := Lib.hid hpf
    have HEN := Lib.hid hen
    have e1 : (b.length : Int) - 4 = (en : Int) := by omega
    have e2 : IntKind.i64.wrap (en : Int) = (en : Int) := by rw [IntKind.wrap_i64]; omega
    have e3 : en + 4 ≤ b.length := by omega
    have hff' : (0 < n → fp = n4) ∧ (¬ 0 < n → fp = en) := ⟨fun h => by rw [hff, if_pos h], fun h => by rw [hff, if_neg h]⟩
    have HF2 := Lib.hid hff'
    clear hpf hff HFF hff' hen hen2
    by_cases h1 : en < 4 + 2 * n
    · have HN : Hid (∀ kind l, ¬ isPln b kind l) := Lib.hid fun kind l h => by
        have := (HNO.out kind l h).1
        rw [HPF.out, if_pos h1] at this
        cases this
      have i1 : (en : Int) < 4 + 2 * (n : Int) := by omega
      go_enter Try.func20, Try.ntmps20
      go_wp2_with (first | (go_at_call 49; refine (hPa _).mono ?_; rintro e w1 ⟨rfl, rfl⟩) | (go_at_call 56; refine hN1.mono ?_; rintro e w1 ⟨rfl, rfl⟩) | fail)
      refine bodyPost_ret (v := .tuple #[.int .i64 0, .slice none 0 0, .int .i64 60]) ?_ rfl ?_
      · simp [results, Try.results20, go_sem]
      · exact ⟨Below.refl _ _, .inr ⟨HN.out, rfl⟩⟩
    · have i1 : ¬ (en : Int) < 4 + 2 * (n : Int) := by omega
      have HPF2 : Hid (parseF b = cellsP b en fp n) := by show _ = _; rw [HPF.out, if_neg h1]
      clear HPF
      go_enter Try.func20, Try.ntmps20
      go_upto_if 30 with (first | (go_at_call 49; refine (hPa _).mono ?_; rintro e w1 ⟨rfl, rfl⟩) | (go_at_call 56; refine hN1.mono ?_; rintro e w1 ⟨rfl, rfl⟩) | fail)
      go_cut [8] (fun s wx => s = .int .i64 (fp : Int) ∧ wx = w)
      case first =>
        by_cases hn0 : 0 < n
        · have i2 : (0 : Int) < (n : Int) := by omega
          go_wp2_with (first | (go_at_call 56; refine hN2.mono ?_; rintro e w1 ⟨rfl, rfl⟩) | fail)
          go_meet
          exact ⟨by rw [HF2.out.1 hn0], rfl⟩
        · have i2 : ¬ (0 : Int) < (n : Int) := by omega
          go_wp2_with fail
          go_meet
          exact ⟨by rw [HF2.out.2 hn0], rfl⟩
      case rest =>
        obtain ⟨rfl, rfl⟩ := hcut
        clear hPa hN1 hN2
        obtain ⟨i0, hi, hz0, hz1, hz2⟩ := info_parts cell_info
        go_wp2_with fail
        go_loopw [7, 8, 34] (fun cv t i wr => ∃ (k : Nat) (l : List CV) (a : Nat), k ≤ n ∧ i = .int .i64 (k : Int) ∧ t = .int .i64 (a : Int) ∧ a ≤ 65536 ∧ Hid (l.length = k) ∧ Hid (cellsP b en fp n = (cellsP b en a (n - k)).map (pcs l ++ ·)) ∧ OwCs wr wc.heap.size cv l ∧ Below wc.heap.size wc wr) (fun _ _ i _ => n - (intOf i).toNat)
        case atStart => exact ⟨0, [], fp, Nat.zero_le _, rfl, rfl, hfp, Lib.hid rfl, Lib.hid (by simp [pcs]), OwCs.nil _ _, Below.refl _ _⟩
        case round =>
          obtain ⟨k, l, a, hk, rfl, rfl, ha, HLK, HP, hO, hB⟩ := hrel
          obtain ⟨B, cc, rfl⟩ := Own.slice hO.own
          rw [HLK.out] at hO
          rw [HLK.out]
          by_cases hlt : k < n
          · have ik : (k : Int) < (n : Int) := by omega
            have hstep : cellsP b en a (n - k) = match cellP b a en with
                | none => none
                | some (c, t) => (cellsP b en t (n - (k + 1))).map (c :: ·) := by rw [show n - k = (n - (k + 1)) + 1 by omega]; rfl
            have HST := Lib.hid hstep
            have hce := cell_any (.slice A b.length c) b a en wr (hv.below hB (Nat.le_refl _)) hb2 (by omega) (by omega)
            clear hstep
            go_wp2_with fail
            refine hce.mono ?_
            rintro e w2 ⟨hw2, ⟨hno, rfl⟩ | ⟨x, tn, hso, rfl, htn, htp, ⟨g, hkv, hgh⟩, ⟨A', hvv⟩, hok, hov, hr1, hr2, hr3⟩⟩
            · have HN : Hid (∀ kind l, ¬ isPln b kind l) := Lib.hid fun kind l' h => by
                have := (HNO.out kind l' h).1
                rw [HPF2.out, HP.out, HST.out, hno] at this
                cases this
              clear hno hce
              have hB2 := hB.trans (hw2.mono hB.size)
              go_wp2_with fail
              refine bodyPost_ret (v := .tuple #[.int .i64 0, .slice none 0 0, .int .i64 60]) ?_ rfl ?_
              · simp [results, Try.results20, go_sem]
              · exact ⟨hB2.alloc hB2.size _, .inr ⟨HN.out, rfl⟩⟩
            · obtain ⟨kv, vv, key, ck, val, pg, ct⟩ := x
              simp only at hkv hvv
              subst hkv hvv
              have hP2 : cellsP b en fp n = (cellsP b en tn (n - (k + 1))).map (pcs (l ++ [⟨.slice (some ⟨g, 0, none⟩) key.length key.length, .slice A' val.length val.length, ⟨key, ck, val, pg, ct⟩⟩]) ++ ·) := by
                rw [HP.out, HST.out, hso]
                show Option.map _ (Option.map _ _) = _
                rw [Option.map_map]
                congr 1
                funext z
                simp [pcs]
              have HP2 := Lib.hid hP2
              unfold cellV
              have htb : (((tn : Nat) : Int) == 0) = false := beq_eq_false_iff_ne.2 (by omega)
              have hB2 := hB.trans (hw2.mono hB.size)
              have hA2 : Below wr.heap.size wr ((w2.alloc (.cells #[.slice (some ⟨g, 0, none⟩) key.length key.length, .int .i64 ck, .slice A' val.length val.length, .int .i64 pg, .int .i64 ct] 32)).alloc (.cells #[.slice (some ⟨g, 0, none⟩) key.length key.length, .int .i64 ck, .slice A' val.length val.length, .int .i64 pg, .int .i64 ct] 32)) := (hw2.alloc hw2.size _).alloc (by have := hw2.size; simp; omega) _
              have hsrc := Rd.five (w2.alloc (.cells #[.slice (some ⟨g, 0, none⟩) key.length key.length, .int .i64 ck, .slice A' val.length val.length, .int .i64 pg, .int .i64 ct] 32)) (.slice (some ⟨g, 0, none⟩) key.length key.length) (.int .i64 ck) (.slice A' val.length val.length) (.int .i64 pg) (.int .i64 ct) 32
              rw [World.size_alloc] at hsrc
              have hown2 := Own.below' hO.own hA2 (Nat.le_refl _)
              rw [HLK.out] at hown2
              have hone := cells_one hok hov
              have hcz : wc.heap.size ≤ ((w2.alloc (.cells #[.slice (some ⟨g, 0, none⟩) key.length key.length, .int .i64 ck, .slice A' val.length val.length, .int .i64 pg, .int .i64 ct] 32)).alloc (.cells #[.slice (some ⟨g, 0, none⟩) key.length key.length, .int .i64 ck, .slice A' val.length val.length, .int .i64 pg, .int .i64 ct] 32)).heap.size := Nat.le_trans hB.size hA2.size
              have hok2 := Own.below' hok (((Below.refl w2.heap.size w2).alloc (Nat.le_refl _) (.cells #[.slice (some ⟨g, 0, none⟩) key.length key.length, .int .i64 ck, .slice A' val.length val.length, .int .i64 pg, .int .i64 ct] 32)).alloc (by simp) (.cells #[.slice (some ⟨g, 0, none⟩) key.length key.length, .int .i64 ck, .slice A' val.length val.length, .int .i64 pg, .int .i64 ct] 32)) (Nat.le_refl _)
              have hov2 := Own.below' hov (((Below.refl w2.heap.size w2).alloc (Nat.le_refl _) (.cells #[.slice (some ⟨g, 0, none⟩) key.length key.length, .int .i64 ck, .slice A' val.length val.length, .int .i64 pg, .int .i64 ct] 32)).alloc (by simp) (.cells #[.slice (some ⟨g, 0, none⟩) key.length key.length, .int .i64 ck, .slice A' val.length val.length, .int .i64 pg, .int .i64 ct] 32)) (Nat.le_refl _)
              clear hP2 hso hce
              go_wp2_with (first
                | (at_builtin; refine wp_append rfl (.tmp 45) (.tmp 47) _ _ rfl wc.heap.size 32 i0 _ 5 72 Try.underlying25 hi hz0 hz1 hz2 rfl _ k (flatC l) rfl hown2 (.slice (some ⟨w2.heap.size + 1, 0, none⟩) 1 1) 1 _ rfl (Rd.src _ Try.underlying25 (by omega) hsrc hone) (by omega) (by omega) hcz ?_; intro v' w' ho' hg' hk'; obtain ⟨B', c', rfl⟩ := Own.slice ho')
                | fail)
              refine ⟨⟨k + 1, l ++ [⟨.slice (some ⟨g, 0, none⟩) key.length key.length, .slice A' val.length val.length, ⟨key, ck, val, pg, ct⟩⟩], tn, by omega, by go_num, rfl, by omega, Lib.hid (by rw [List.length_append, HLK.out]; rfl), HP2, ?_, ?_⟩, by simp [intOf]; omega⟩
              · exact hO.snoc hA2 hB.size hok2 hov2 ⟨hr1, hr2, hr3⟩ (fun g1 g' e1 e2 => by simp [Value.ownBlock] at e1; subst e1; exact hgh g' e2) hg' (by rw [HLK.out]; exact ho')
              · exact (hB.trans (hA2.mono hB.size)).grown hg' hcz (fun j hj => (Own.lt hown2 j hj).1)
          · obtain rfl : k = n := by omega
            have hpl : parseF b = some (pcs l) := by
              rw [HPF2.out, HP.out, Nat.sub_self]
              simp [cellsP]
            have HPL := Lib.hid hpl
            obtain ⟨kb, hkb⟩ : ∃ kb, b[0]? = some kb := ⟨_, List.getElem?_eq_getElem (by omega)⟩
            have hgd : kindF b = (kb.toNat : Int) := by unfold kindF; rw [List.getD, hkb]; rfl
            have HKF := Lib.hid hgd
            obtain ⟨ad, rfl, hcb⟩ := (hv.below hB (Nat.le_refl _)).at_ (j := 0) (by omega)
            have hcb' : wr.cell? ad = some (.int .u8 (kb.toNat : Int)) := by
              rw [List.getElem?_eq_getElem (by omega)] at hkb
              rw [← Option.some.inj hkb]
              have := hcb
              rw [show ad.add 0 = ad from rfl] at this
              exact this
            have hkl := kb.toNat_lt
            have hkw : IntKind.i64.wrap ((kb.toNat : Nat) : Int) = ((kb.toNat : Nat) : Int) := by rw [IntKind.wrap_i64]; omega
            have j1 : (0 : Int) < (b.length : Int) := by omega
            have j2 : 0 < b.length := by omega
            have hrd := hO.rd
            have hE := PEncode_any (kb.toNat : Int) _ l (b.length : Int) (by unfold i64r; omega) wr hrd (by rw [HLK.out]; omega)
            have hEQ := fun v' (a' : List UInt8) W (hW : Below wc.heap.size wc W) (h' : RdB W v' a') => Equal_any v' (.slice (some ad) b.length c) a' b W h' (hv.below hW (Nat.le_refl _))
            have HISP : Hid (isPowB (b.length : Int) = true) := HPG
            clear hcb hkb hgd hpl hrd hkl
            go_wp2_with fail
            refine hE.mono ?_
            unfold EncAt
            simp only [Int.toNat_natCast]
            rintro e w2 ⟨hw2, ⟨hf, rfl⟩ | ⟨ht, ⟨hne, rfl⟩ | ⟨hz, g, rfl, hg, hbk⟩⟩⟩
            · have HN : Hid (∀ kind l, ¬ isPln b kind l) := Lib.hid fun kind l' h => by
                have h1 := (HNO.out kind l' h).2
                have h2 := h.2.1
                rw [HKF.out] at h1
                rw [← h1] at h2
                rw [h2, HISP.out] at hf
                cases hf
              have hB2 := hB.trans (hw2.mono hB.size)
              clear hf hE hEQ
              go_wp2_with fail
              refine bodyPost_ret (v := .tuple #[.int .i64 0, .slice none 0 0, .int .i64 60]) ?_ rfl ?_
              · simp [results, Try.results20, go_sem]
              · exact ⟨hB2, .inr ⟨HN.out, rfl⟩⟩
            · have HN : Hid (∀ kind l, ¬ isPln b kind l) := Lib.hid fun kind l' h => by
                have h1 := HNO.out kind l' h
                rw [HKF.out, HPL.out] at h1
                obtain ⟨h1, h2⟩ := h1
                injection h1 with h1
                have h3 := h.2.2.1
                rw [← h1, ← h2] at h3
                exact hne h3
              have hB2 := hB.trans (hw2.mono hB.size)
              have hnb : (encE (kb.toNat : Int) (pcs l) b.length != 0) = true := by simp only [bne, beq_eq_false_iff_ne.2 hne]; rfl
              generalize encE (kb.toNat : Int) (pcs l) b.length = ee at *
              clear hne hE hEQ ht
              go_wp2_with fail
              refine bodyPost_ret (v := .tuple #[.int .i64 0, .slice none 0 0, .int .i64 60]) ?_ rfl ?_
              · simp [results, Try.results20, go_sem]
              · exact ⟨hB2, .inr ⟨HN.out, rfl⟩⟩
            · have hB2 := hB.trans (hw2.mono hB.size)
              have hll : (laidF (kb.toNat : Int) (pcs l) b.length).length = b.length := laidF_length (encE_zero.1 hz).2
              have hEQ2 := hEQ _ _ w2 hB2 (hbk.rdB hll (by omega))
              have hisk : isKindB (kb.toNat : Int) = true := by
                rw [Bool.and_eq_true] at ht; exact ht.1
              have HZ := Lib.hid hz
              have hO2 := hO.below hw2
              rcases Bool.eq_false_or_eq_true (laidF (kb.toNat : Int) (pcs l) b.length == b) with hq | hq
              · rw [hq] at hEQ2
                have HY : Hid (isPln b (kb.toNat : Int) (pcs l)) := Lib.hid ⟨HISP.out, hisk, HZ.out, eq_of_beq hq⟩
                clear hq hE hEQ ht hz hll hbk hisk
                go_wp2_with fail
                refine hEQ2.mono ?_
                rintro e w3 ⟨rfl, rfl⟩
                go_wp2_with fail
                refine bodyPost_ret (v := .tuple #[.int .i64 (kb.toNat : Int), .slice B k cc, .int .i64 0]) ?_ rfl ?_
                · simp [results, Try.results20, go_sem]
                · exact ⟨hB2, .inl ⟨_, l, _, HY.out, rfl, hO2⟩⟩
              · rw [hq] at hEQ2
                have HN : Hid (∀ kind l, ¬ isPln b kind l) := Lib.hid fun kind l' h => by
                  have h1 := HNO.out kind l' h
                  rw [HKF.out, HPL.out] at h1
                  obtain ⟨h1, h2⟩ := h1
                  injection h1 with h1
                  have h3 := h.2.2.2
                  rw [← h1, ← h2] at h3
                  rw [h3] at hq
                  simp at hq
                clear hq hE hEQ ht hz hll hbk hisk
                go_wp2_with fail
                refine hEQ2.mono ?_
                rintro e w3 ⟨rfl, rfl⟩
                go_wp2_with fail
                refine bodyPost_ret (v := .tuple #[.int .i64 0, .slice none 0 0, .int .i64 60]) ?_ rfl ?_
                · simp [results, Try.results20, go_sem]
                · exact ⟨hB2, .inr ⟨HN.out, rfl⟩⟩
end Go.Proofs.Ytonbcipofakpjaa

-- slices.Clone of bytes.
namespace Go.Proofs.Ytonbcipofakpjaa
open Go.RowKit
set_option maxRecDepth 20000 in
set_option maxHeartbeats 1000000 in
theorem CloneB_any (v : Value) (l : List UInt8) (w : World) (hv : RdB w v l) (hl : l.length ≤ 140737488355328) :
    Calls Try.prog 91 #[v] w fun e w' => ∃ v', e = .returned v' ∧ OwB w' w.heap.size v' l ∧ Below w.heap.size w w' := by
  obtain ⟨A, c, rfl, hm⟩ := hv.form
  have q22 : ∀ (w : World) (a : Option Addr) (n c n' c' : Nat), (binOp .eql 27 (.slice a n c) (.slice none n' c')).run Try.prog w = .ok (.bool a.isNone) w := fun w a n c n' c' => Lib.run_eql_slice_nil w _ _ a n c n' c' Try.underlying27
  cases A with
  | none =>
    have : l = [] := by
      cases l with
      | nil => rfl
      | cons x r => obtain ⟨ad, h, _⟩ := hv.at_ (j := 0) (by simp); cases h
    subst this
    go_enter Try.func91, Try.ntmps91
    go_wp2_with fail
    go_ret
    exact ⟨_, rfl, OwB.nil _ _, Below.refl _ _⟩
  | some ad =>
    go_enter Try.func91, Try.ntmps91
    have hbase : OwB (w.alloc (.cells #[] 5)) w.heap.size (.slice (some ⟨w.heap.size, 0, none⟩) 0 0) [] := by
      have := (OBlk.new' w 5 []).owB' (base := w.heap.size) (m := []) (Nat.le_refl _) (by simp)
      exact this
    go_wp2_with (first
      | (at_builtin; refine wp_append_B rfl (.tmp 5) (.tmp 6) rfl w.heap.size _ [] rfl hbase _ l rfl (hv.alloc _) (by simp; omega) (by simp) ?_; intro v' w' ho hg hbk)
      | fail)
    go_ret
    exact ⟨v', rfl, ho, ((Below.refl w.heap.size w).alloc (Nat.le_refl _) _).grown hg (by simp) (fun k hk => Nat.le_of_eq (Option.some.inj hk))⟩
end Go.Proofs.Ytonbcipofakpjaa

-- plain.New, Open, Len, Used, Find: walks.
namespace Go.Proofs.Ytonbcipofakpjaa
open Go.RowKit
/-- A page that is worked on, at p. -/
structure PgAt (w : World) (p : Nat) (kind : Int) (P : Nat) (used : Int) (v : Value) (l : List CV) : Prop where
  blk : OBlk w p 89 [.int .i64 kind, .int .i64 (P : Int), .int .i64 used, v]
  rd : RdCs w v l
theorem PgAt.below {w w' : World} {p : Nat} {kind : Int} {P : Nat} {used : Int} {v : Value} {l : List CV} (h : PgAt w p kind P used v l) (hb : Below w.heap.size w w') : PgAt w' p kind P used v l :=
  ⟨h.blk.below hb h.blk.lt, h.rd.below hb⟩
theorem cells4 {w : World} {g : Nat} {T : TypeId} {a0 a1 a2 a3 : Value} (h : OBlk w g T [a0, a1, a2, a3]) :
    w.cell? ⟨g, 0, none⟩ = some a0 ∧ w.cell? ⟨g, 1, none⟩ = some a1 ∧ w.cell? ⟨g, 2, none⟩ = some a2 ∧ w.cell? ⟨g, 3, none⟩ = some a3 :=
  ⟨h.cell 0, h.cell 1, h.cell 2, h.cell 3⟩
section
variable {w : World} {p : Nat} {kind : Int} {P : Nat} {used : Int} {v : Value} {l : List CV}
set_option maxRecDepth 20000 in
theorem PLen_any (h : PgAt w p kind P used v l) : Calls Try.prog 23 #[.pointer (some ⟨p, 0, none⟩)] w fun e w' => e = .returned (.int .i64 (l.length : Int)) ∧ w = w' := by
  obtain ⟨A, c, rfl, hm, hc⟩ := h.rd.slice
  obtain ⟨c0, c1, c2, c3⟩ := cells4 h.blk
  go_enter Try.func23, Try.ntmps23
  go_wp2_with fail
  go_ret
  exact ⟨rfl, rfl⟩
set_option maxRecDepth 20000 in
theorem PUsed_any (h : PgAt w p kind P used v l) : Calls Try.prog 24 #[.pointer (some ⟨p, 0, none⟩)] w fun e w' => e = .returned (.int .i64 used) ∧ w = w' := by
  obtain ⟨A, c, rfl, hm, hc⟩ := h.rd.slice
  obtain ⟨c0, c1, c2, c3⟩ := cells4 h.blk
  go_enter Try.func24, Try.ntmps24
  go_wp2_with fail
  go_ret
  exact ⟨rfl, rfl⟩
end
set_option maxRecDepth 20000 in
set_option maxHeartbeats 1000000 in
theorem PNew_ok (kind : Int) (P : Nat) (hk : isKindB kind = true) (hp : isPowB (P : Int) = true) (w : World) : Calls Try.prog 32 #[.int .i64 kind, .int .i64 (P : Int)] w fun e w' =>
    ∃ p, e = .returned (.tuple #[.pointer (some ⟨p, 0, none⟩), .int .i64 0]) ∧ w.heap.size ≤ p ∧ PgAt w' p kind P 8 (.slice none 0 0) [] ∧ Below w.heap.size w w' := by
  have hr := isPowB_range hp
  have hKi := fun W => isKind_any kind W
  have hPa := fun W => isPage_any (P : Int) (by omega) W
  rw [hk] at hKi
  rw [hp] at hPa
  clear hk hp
  go_enter Try.func32, Try.ntmps32
  go_wp2_with (first | (go_at_call 48; refine (hKi _).mono ?_; rintro e w1 ⟨rfl, rfl⟩) | (go_at_call 49; refine (hPa _).mono ?_; rintro e w1 ⟨rfl, rfl⟩) | fail)
  go_ret2
  exact ⟨_, rfl, Nat.le_refl _, ⟨OBlk.new' w 89 [.int .i64 kind, .int .i64 (P : Int), .int .i64 8, .slice none 0 0], (OwCs.nil _ 0).rd⟩, (Below.refl _ _).alloc (Nat.le_refl _) _⟩
set_option maxRecDepth 20000 in
set_option maxHeartbeats 1000000 in
theorem PNew_bad (kind P : Int) (hk : isKindB kind = false) (w : World) : Calls Try.prog 32 #[.int .i64 kind, .int .i64 P] w fun e w' =>
    e = .returned (.tuple #[.pointer none, .int .i64 1]) ∧ w = w' := by
  have hKi := fun W => isKind_any kind W
  rw [hk] at hKi
  clear hk
  go_enter Try.func32, Try.ntmps32
  go_wp2_with (first | (go_at_call 48; refine (hKi _).mono ?_; rintro e w1 ⟨rfl, rfl⟩) | fail)
  go_ret2
  exact ⟨rfl, rfl⟩
/-- Where a key stands, or would stand. -/
def findF (key : List UInt8) : List PC → Nat
  | [] => 0
  | c :: r => if ordC c.key key < 0 then findF key r + 1 else 0
def isF (key : List UInt8) (l : List PC) : Bool := decide (∃ c, l[findF key l]? = some c ∧ c.key = key)
theorem findF_le (key : List UInt8) (l : List PC) : findF key l ≤ l.length := by
  induction l with
  | nil => simp [findF]
  | cons c r ih => rw [findF]; split <;> simp <;> omega
theorem findF_drop {key : List UInt8} : ∀ {l : List PC} {k : Nat}, (∀ j (hj : j < k) (hl : j < l.length), ordC l[j].key key < 0) → k ≤ l.length → findF key l = k + findF key (l.drop k)
  | l, 0, _, _ => by simp
  | [], k + 1, _, h => by simp at h
  | c :: r, k + 1, h, hk => by
    have h0 : ordC c.key key < 0 := h 0 (by omega) (by simp)
    rw [findF, if_pos h0, List.drop_succ_cons, findF_drop (k := k) (fun j hj hl => h (j + 1) (by omega) (by simpa using hl)) (by simpa using hk)]
    omega
set_option maxRecDepth 100000 in
set_option maxHeartbeats 4000000 in
theorem PFind_any {w : World} {p : Nat} {kind : Int} {P : Nat} {used : Int} {v : Value} {l : List CV} (h : PgAt w p kind P used v l) (vk : Value) (key : List UInt8) (hk : RdB w vk key) :
    Calls Try.prog 25 #[.pointer (some ⟨p, 0, none⟩), vk] w fun e w' => e = .returned (.tuple #[.int .i64 (findF key (pcs l) : Nat), .bool (isF key (pcs l))]) ∧ Below w.heap.size w w' := by
  obtain ⟨A, c, rfl, hm, hc⟩ := h.rd.slice
  obtain ⟨K, kc, rfl, hkm⟩ := hk.form
  obtain ⟨c0, c1, c2, c3⟩ := cells4 h.blk
  have hl := h.rd
  have hpl := h.blk.lt
  have hblk := h.blk
  go_enter Try.func25, Try.ntmps25
  go_wp2_with fail
  clear c0 c1 c2 c3
  go_loopw [14] (fun i wr => ∃ k : Nat, k ≤ l.length ∧ i = .int .i64 (k : Int) ∧ Hid (∀ j (hj : j < k) (hjl : j < (pcs l).length), ordC (pcs l)[j].key key < 0) ∧ Below w.heap.size w wr) (fun i _ => l.length - (intOf i).toNat)
  case atStart => exact ⟨0, Nat.zero_le _, rfl, Lib.hid (fun j hj => by omega), Below.refl _ _⟩
  case round =>
    obtain ⟨k, hk', rfl, HJ, hB⟩ := hrel
    have hfd : findF key (pcs l) = k + findF key ((pcs l).drop k) := findF_drop HJ.out (by rw [pcs_length]; exact hk')
    by_cases hlt : k < l.length
    · have ik : (k : Int) < (l.length : Int) := by omega
      have hlp : k < (pcs l).length := by rw [pcs_length]; exact hlt
      have hJ2 : ∀ c, (pcs l)[k] = c → Hid (ordC c.key key < 0 → ∀ j (hj : j < k + 1) (hjl : j < (pcs l).length), ordC (pcs l)[j].key key < 0) := fun c hc => Lib.hid (fun ho j hj hjl => by
        by_cases e : j = k
        · subst e; rw [hc]; exact ho
        · exact HJ.out j (by omega) hjl)
      have hF2 : ∀ c, (pcs l)[k] = c → Hid (¬ ordC c.key key < 0 → findF key (pcs l) = k ∧ isF key (pcs l) = decide (ordC c.key key = 0)) := fun c hc => Lib.hid (fun ho => by
        have e : findF key (pcs l) = k := by
          rw [hfd, List.drop_eq_getElem_cons hlp, findF, hc, if_neg ho]; rfl
        refine ⟨e, ?_⟩
        unfold isF
        rw [e]
        refine decide_eq_decide.2 ⟨fun ⟨d, hd, hdk⟩ => ?_, fun h0 => ⟨c, by rw [List.getElem?_eq_getElem hlp, hc], ordC_eq _ _ h0⟩⟩
        rw [List.getElem?_eq_getElem hlp, hc] at hd
        injection hd with hd
        subst hd
        rw [hdk]; exact ordC_self _)
      have hJ2 := hJ2 _ (pcs_at hlt)
      have hF2 := hF2 _ (pcs_at hlt)
      have hlr := hl.below hB
      obtain ⟨ad, rfl, c0, c1, c2, c3, c4⟩ := hlr.at_ hlt
      have hx := hlr.ok _ (List.getElem_mem hlt)
      generalize l[k] = x at *
      obtain ⟨A1, a1, B1, b1, kk, ck, val, pg, ct, rfl, _, _⟩ := CV.form hx
      have hA0 : Below wr.heap.size wr (wr.alloc (.cells #[.slice A1 kk.length a1, .int .i64 ck, .slice B1 val.length b1, .int .i64 pg, .int .i64 ct] 32)) := (Below.refl wr.heap.size wr).alloc (Nat.le_refl _) _
      have hA := hB.trans (hA0.mono hB.size)
      have hcmp := Compare_any _ _ _ _ _ (hx.k.below hA0 (Nat.le_refl _)) (hk.below hA (Nat.le_refl _))
      have hJ3 : Hid (ordC kk key < 0 → ∀ j (hj : j < k + 1) (hjl : j < (pcs l).length), ordC (pcs l)[j].key key < 0) := hJ2
      have hF3 : Hid (¬ ordC kk key < 0 → findF key (pcs l) = k ∧ isF key (pcs l) = decide (ordC kk key = 0)) := hF2
      clear hJ2 hF2 hlr hx hB hfd HJ
      simp only at hcmp
      generalize ordC kk key = oc at *
      go_wp2_with fail
      refine hcmp.mono ?_
      rintro e w2 ⟨rfl, rfl⟩
      by_cases ho : oc < 0
      · have i1 : ¬ (0 : Int) ≤ oc := by omega
        have HJ4 := Lib.hid (hJ3.out (by omega))
        clear hJ3 hF3 ho
        go_wp2_with fail
        go_roundw
        case rel => exact ⟨k + 1, by omega, by go_num, HJ4, hA⟩
        case measure => simp [intOf]; omega
      · have i1 : (0 : Int) ≤ oc := by omega
        have HF4 := Lib.hid (hF3.out (by omega))
        clear hJ3 hF3 ho
        go_wp2_with fail
        go_ret2
        rw [HF4.out.1, HF4.out.2]
        refine ⟨?_, hA⟩
        congr 1
    · obtain rfl : k = l.length := by omega
      have hf : findF key (pcs l) = l.length ∧ isF key (pcs l) = false := by
        have e : findF key (pcs l) = l.length := by
          rw [hfd, List.drop_of_length_le (by rw [pcs_length]; omega)]; rfl
        refine ⟨e, ?_⟩
        unfold isF
        rw [e]
        refine decide_eq_false fun ⟨d, hd, _⟩ => ?_
        rw [List.getElem?_eq_none (by rw [pcs_length]; omega)] at hd
        cases hd
      have HF := Lib.hid hf
      obtain ⟨c0, c1, c2, c3⟩ := cells4 (hblk.below hB hpl)
      clear hf hfd HJ
      go_wp2_with fail
      go_ret2
      rw [HF.out.1, HF.out.2]
      exact ⟨rfl, hB⟩
set_option maxRecDepth 20000 in
set_option maxHeartbeats 1000000 in
theorem POpen_any (v : Value) (b : List UInt8) (w : World) (hv : RdB w v b) : Calls Try.prog 21 #[v] w fun e w' => Below w.heap.size w w' ∧
    ((∃ (kind : Int) (l : List CV) (p : Nat) (u : Value), isPln b kind (pcs l) ∧ e = .returned (.tuple #[.pointer (some ⟨p, 0, none⟩), .int .i64 0]) ∧ w.heap.size ≤ p ∧ PgAt w' p kind b.length (sizeF (pcs l) : Nat) u l) ∨
      ((∀ kind l, ¬ isPln b kind l) ∧ e = .returned (.tuple #[.pointer none, .int .i64 60]))) := by
  have hd := PDecode_any v b w hv
  obtain ⟨A, c, rfl, hm⟩ := hv.form
  go_enter Try.func21, Try.ntmps21
  go_wp2_with fail
  refine hd.mono ?_
  rintro e w1 ⟨hw1, ⟨kind, l, u, hy, rfl, hO⟩ | ⟨hn, rfl⟩⟩
  · obtain ⟨B, cc, rfl⟩ := Own.slice hO.own
    have hsz : sizeF (pcs l) ≤ b.length := (encE_zero.1 hy.2.2.1).2
    have hP := (isPowB_range hy.1).2
    have hokc : ∀ c ∈ pcs l, OkC b.length c := fun c hc => may_ok (scan_may (encE_zero.1 hy.2.2.1).1 c hc)
    have hn : (pcs l).length ≤ 2000000000000 := by have := sizeF_eq (pcs l); omega
    have hS := Size_any kind _ l w1 hO.rd (fit_of hokc (by omega) hn)
    have HY := Lib.hid hy
    have hrd := hO.rd
    clear hsz hokc hn hd hy
    go_wp2_with fail
    refine hS.mono ?_
    rintro e w2 ⟨rfl, hw2⟩
    have hb2 := hw1.trans (hw2.mono hw1.size)
    go_wp2_with fail
    go_ret2
    exact ⟨hb2.alloc hb2.size _, .inl ⟨kind, l, _, _, HY.out, rfl, hb2.size, ⟨OBlk.new' w2 89 [.int .i64 kind, .int .i64 (b.length : Int), .int .i64 (sizeF (pcs l) : Nat), .slice B l.length cc], (hrd.below hw2).below ((Below.refl _ _).alloc (Nat.le_refl _) _)⟩⟩⟩
  · have HN := Lib.hid hn
    clear hn hd
    go_wp2_with fail
    go_ret2
    exact ⟨hw1, .inr ⟨HN.out, rfl⟩⟩
end Go.Proofs.Ytonbcipofakpjaa

-- plain.Insert into a page that is empty, or beyond its end: walks.
namespace Go.Proofs.Ytonbcipofakpjaa
open Go.RowKit
set_option maxRecDepth 100000 in
set_option maxHeartbeats 4000000 in
theorem own_any (x : CV) (w : World) (hx : x.ok w) (h1 : x.c.key.length ≤ 140737488355328) (h2 : x.c.val.length ≤ 140737488355328) :
    Calls Try.prog 71 #[cellV x] w fun e w' => ∃ y : CV, e = .returned (cellV y) ∧ y.c = x.c ∧ OwB w' w.heap.size y.kv x.c.key ∧ OwB w' w.heap.size y.vv x.c.val ∧ (∀ g g', y.kv.ownBlock = some g → y.vv.ownBlock = some g' → g < g') ∧ Below w.heap.size w w' := by
  obtain ⟨A, ca, B, cb, key, ck, val, pg, ct, rfl, hk1, hk2⟩ := CV.form hx
  simp only at h1 h2
  have hkr : RdB w (.slice A key.length ca) key := hx.k
  have hvr : RdB w (.slice B val.length cb) val := hx.v
  have hC0 := OBlk.new' w 32 [.slice A key.length ca, .int .i64 ck, .slice B val.length cb, .int .i64 pg, .int .i64 ct]
  have hC := hC0.alloc (.cells #[.slice none 0 0, .int .i64 0, .slice none 0 0, .int .i64 0, .int .i64 0] 32)
  have hR := OBlk.new' (w.alloc (.cells #[.slice A key.length ca, .int .i64 ck, .slice B val.length cb, .int .i64 pg, .int .i64 ct] 32)) 32 [.slice none 0 0, .int .i64 0, .slice none 0 0, .int .i64 0, .int .i64 0]
  rw [World.size_alloc] at hR
  have hA := (((Below.refl w.heap.size w).alloc (Nat.le_refl _) (.cells #[.slice A key.length ca, .int .i64 ck, .slice B val.length cb, .int .i64 pg, .int .i64 ct] 32))).alloc (by simp) (.cells #[.slice none 0 0, .int .i64 0, .slice none 0 0, .int .i64 0, .int .i64 0] 32)
  unfold cellV
  go_enter Try.func71, Try.ntmps71
  go_upto_region 1 with (fail)
  have hkr0 := hkr.below hA (Nat.le_refl _)
  have hvr0 := hvr.below hA (Nat.le_refl _)
  generalize (w.alloc (.cells #[.slice A key.length ca, .int .i64 ck, .slice B val.length cb, .int .i64 pg, .int .i64 ct] 32)).alloc (.cells #[.slice none 0 0, .int .i64 0, .slice none 0 0, .int .i64 0, .int .i64 0] 32) = w0 at *
  obtain ⟨c0, c1, c2, c3, c4⟩ := cells5 hC
  have f0 := hC.frozen (j := 0) (by simp)
  have f2 := hC.frozen (j := 2) (by simp)
  have hcl := hC.lt
  have hrl := hR.lt
  go_region_law
    (first
      | (go_simp; go_at_call 91; refine (CloneB_any _ key _ hkr0.drew h1).mono ?_; rintro e w4 ⟨vd, rfl, hod, hw4⟩; obtain ⟨K2, kc2, rfl⟩ := Own.slice hod; have hC4 := hC.drew.below hw4 hcl; have d2 := hC4.cell' (j := 2) (u := .slice B val.length cb) rfl; have d0 := hC4.cell' (j := 0) (u := .slice A key.length ca) rfl; have hvr4 := hvr0.drew.below hw4 (Nat.le_refl _))
      | (go_simp; go_at_call 91; refine (CloneB_any _ val _ hvr4 h2).mono ?_; rintro e w5 ⟨ve, rfl, hoe, hw5⟩; obtain ⟨V2, vc2, rfl⟩ := Own.slice hoe; have hC5 := hC4.below hw5 hC4.lt; have e2 := hC5.cell' (j := 2) (u := .slice B val.length cb) rfl; have e0 := hC5.cell' (j := 0) (u := .slice A key.length ca) rfl; have g2 := hC5.frozen (j := 2) (by simp); have g0 := hC5.frozen (j := 0) (by simp))
      | fail)
  all_goals
    have hz0 : w.heap.size + 1 < w0.heap.size := hrl
    have hz4 : w0.heap.size ≤ w4.heap.size := hw4.size
    have hC6 := (hC5.set 0 (.slice K2 key.length kc2)).set 2 (.slice V2 val.length vc2)
    simp only [List.set_cons_succ, List.set_cons_zero] at hC6
    have hR5 := (hR.drew.below hw4 hrl).below hw5 (by omega)
    have hR6 := (hR5.far (p := ⟨w.heap.size, 0, none⟩) (show w.heap.size + 1 ≠ w.heap.size by omega) (.slice K2 key.length kc2)).far (p := ⟨w.heap.size, 2, none⟩) (show w.heap.size + 1 ≠ w.heap.size by omega) (.slice V2 val.length vc2)
    have hb5 : Below w.heap.size w w5 := (hA.drew.trans (hw4.mono hA.size)).trans (hw5.mono (by have := hA.size; omega))
    have hb6 := (hb5.setCell (p := ⟨w.heap.size, 0, none⟩) (Nat.le_refl _) (.slice K2 key.length kc2)).setCell (p := ⟨w.heap.size, 2, none⟩) (Nat.le_refl _) (.slice V2 val.length vc2)
    have hod5 := Own.below' hod hw5 (Nat.le_refl _)
    have hgk : ∀ k, Value.ownBlock (.slice K2 key.length kc2) = some k → w.heap.size + 1 < k ∧ k < w4.heap.size := fun k hk => ⟨Nat.lt_of_lt_of_le hz0 (Own.lt hod k hk).1, (Own.lt hod k hk).2⟩
    have hgv : ∀ k, Value.ownBlock (.slice V2 val.length vc2) = some k → w4.heap.size ≤ k := fun k hk => (Own.lt hoe k hk).1
    have hod6 : OwB ((w5.setCell ⟨w.heap.size, 0, none⟩ (.slice K2 key.length kc2)).setCell ⟨w.heap.size, 2, none⟩ (.slice V2 val.length vc2)) w.heap.size (.slice K2 key.length kc2) key := Own.heap (OwB.base_le hod5 (b := w.heap.size) fun k hk => by have := (hgk k hk).1; omega) fun k hk => by
      have := (hgk k hk).1
      rw [Below.heap_setCell _ _ _ _ (show k ≠ w.heap.size by omega), Below.heap_setCell _ _ _ _ (show k ≠ w.heap.size by omega)]
    have hoe6 : OwB ((w5.setCell ⟨w.heap.size, 0, none⟩ (.slice K2 key.length kc2)).setCell ⟨w.heap.size, 2, none⟩ (.slice V2 val.length vc2)) w.heap.size (.slice V2 val.length vc2) val := Own.heap (OwB.base_le hoe (b := w.heap.size) fun k hk => by have := hgv k hk; omega) fun k hk => by
      have := hgv k hk
      rw [Below.heap_setCell _ _ _ _ (show k ≠ w.heap.size by omega), Below.heap_setCell _ _ _ _ (show k ≠ w.heap.size by omega)]
    generalize (w5.setCell ⟨w.heap.size, 0, none⟩ (.slice K2 key.length kc2)).setCell ⟨w.heap.size, 2, none⟩ (.slice V2 val.length vc2) = w6 at *
    clear c0 c1 c2 c3 c4 f0 f2 d0 d2 e0 e2 g0 g2 hC hC4 hC5 hR hR5 hb5 hod5
    obtain ⟨y0, y1, y2, y3, y4⟩ := cells5 hC6
    obtain ⟨r0, r1, r2, r3, r4⟩ := cells5 hR6
    have f0 := hR6.frozen (j := 0) (by simp); have f1 := hR6.frozen (j := 1) (by simp); have f2 := hR6.frozen (j := 2) (by simp); have f3 := hR6.frozen (j := 3) (by simp); have f4 := hR6.frozen (j := 4) (by simp)
    have H1 := Lib.hid hgk
    have H2 := Lib.hid hgv
    clear hgk hgv
    go_wp2_with fail
    obtain ⟨e0, e1, e2, e3, e4⟩ := cells5 (set5 hR6 (.slice K2 key.length kc2) (.int .i64 ck) (.slice V2 val.length vc2) (.int .i64 pg) (.int .i64 ct))
    refine bodyPost_ret (v := .agg #[(.slice K2 key.length kc2), .int .i64 ck, (.slice V2 val.length vc2), .int .i64 pg, .int .i64 ct]) ?_ rfl ?_
    · simp [results, Try.results71, go_sem, e0, e1, e2, e3, e4]
    · exact ⟨⟨(.slice K2 key.length kc2), (.slice V2 val.length vc2), ⟨key, ck, val, pg, ct⟩⟩, rfl, rfl, ow5 hod6 (fun k hk => by have := (H1.out k hk).1; omega) _ _ _ _ _, ow5 hoe6 (fun k hk => by have := H2.out k hk; omega) _ _ _ _ _, fun g g' e e' => by have := (H1.out g e).2; have := H2.out g' e'; omega, below5 hb6 (by omega) _ _ _ _ _⟩
end Go.Proofs.Ytonbcipofakpjaa

-- plain.Insert into a page that is empty, or beyond its end: walks.
namespace Go.Proofs.Ytonbcipofakpjaa
open Go.RowKit
set_option maxRecDepth 100000 in
set_option maxHeartbeats 4000000 in
/-- An empty page's refusal. -/
theorem refused_nil {w : World} {p : Nat} {kind : Int} {P : Nat} (h : PgAt w p kind P 8 (.slice none 0 0) []) (hP : P ≤ 65536) (x : CV) (hx : x.ok w) (hm : mayP kind P x.c = true) (hf : 10 + longF x.c ≤ P) :
    Calls Try.prog 69 #[.pointer (some ⟨p, 0, none⟩), .int .i64 0, .int .i64 0, cellV x, .int .i64 0] w fun e w' => e = .returned (.int .i64 0) ∧ Below w.heap.size w w' := by
  have hok := may_ok hm
  have hkv := okc_fit hok hP
  obtain ⟨A, ca, B, cb, key, ck, val, pg, ct, rfl, hk1, hk2⟩ := CV.form hx
  have hA : Below w.heap.size w (w.alloc (.cells #[.slice A key.length ca, .int .i64 ck, .slice B val.length cb, .int .i64 pg, .int .i64 ct] 32)) := (Below.refl _ _).alloc (Nat.le_refl _) _
  have hC := OBlk.new' w 32 [.slice A key.length ca, .int .i64 ck, .slice B val.length cb, .int .i64 pg, .int .i64 ct]
  have hB := h.blk.alloc (.cells #[.slice A key.length ca, .int .i64 ck, .slice B val.length cb, .int .i64 pg, .int .i64 ct] 32)
  have hx1 := hx.below hA
  have hma := fun W => may_any ⟨.slice A key.length ca, .slice B val.length cb, ⟨key, ck, val, pg, ct⟩⟩ kind P hP W
  have hlo := fun W => long_any ⟨.slice A key.length ca, .slice B val.length cb, ⟨key, ck, val, pg, ct⟩⟩ W
  have hkv' : key.length + val.length ≤ 9223372036854775000 := by have : key.length + val.length ≤ 131072 := hkv; omega
  rw [hm] at hma
  have hf' : 10 + longF ⟨key, ck, val, pg, ct⟩ ≤ P := hf
  unfold cellV at hma hlo ⊢
  have hlo2 : ∀ W, CV.ok W ⟨.slice A key.length ca, .slice B val.length cb, ⟨key, ck, val, pg, ct⟩⟩ → Calls Try.prog 53 #[.agg #[.slice A key.length ca, .int .i64 ck, .slice B val.length cb, .int .i64 pg, .int .i64 ct]] W fun e w' => e = .returned (.int .i64 (longF ⟨key, ck, val, pg, ct⟩ : Nat)) ∧ Below W.heap.size W w' := fun W hW => hlo W hW hkv'
  have HM := Lib.hid hma
  have HL := Lib.hid hlo2
  have HX := Lib.hid hx
  clear hlo hma hlo2 hm hok hkv hf h hx
  have hpl := hB.lt
  generalize longF ⟨key, ck, val, pg, ct⟩ = lo at *
  go_enter Try.func69, Try.ntmps69
  go_upto_region 1 with (fail)
  generalize (w.alloc (.cells #[.slice A key.length ca, .int .i64 ck, .slice B val.length cb, .int .i64 pg, .int .i64 ct] 32)) = w1 at *
  obtain ⟨c0, c1, c2, c3, c4⟩ := cells5 hC
  obtain ⟨b0, b1, b2, b3⟩ := cells4 hB
  have hcl := hC.lt
  go_cut [11] (fun s wx => s = .bool false ∧ Below w1.heap.size w1 wx)
  case first =>
    go_region_held3 (fun w' => w'.cell? ⟨w.heap.size, 0, none⟩ = some (.slice A key.length ca) ∧ w'.cell? ⟨w.heap.size, 1, none⟩ = some (.int .i64 ck) ∧ w'.cell? ⟨w.heap.size, 2, none⟩ = some (.slice B val.length cb) ∧ w'.cell? ⟨w.heap.size, 3, none⟩ = some (.int .i64 pg) ∧ w'.cell? ⟨w.heap.size, 4, none⟩ = some (.int .i64 ct) ∧ w'.cell? ⟨p, 0, none⟩ = some (.int .i64 kind) ∧ w'.cell? ⟨p, 1, none⟩ = some (.int .i64 (P : Int)))
      (first
        | exact ⟨c0, c1, c2, c3, c4, b0, b1⟩
        | (obtain ⟨d0, d1, d2, d3, d4⟩ := cells5 (hC.drew.below hw2 hcl); obtain ⟨f0, f1, _, _⟩ := cells4 (hB.drew.below hw2 hpl); exact ⟨d0, d1, d2, d3, d4, f0, f1⟩))
      (first
        | (go_at_call 50; refine (HM.out _ (hx1.below ((Below.refl _ _).drew))).mono ?_; rintro e w2 ⟨rfl, hw2⟩)
        | fail)
    go_wp2_with fail
    go_meet
    exact ⟨rfl, (Below.refl _ _).drew.trans hw2⟩
  case rest =>
    obtain ⟨rfl, hw2⟩ := hcut
    have hC2 := hC.below hw2 hcl
    have hB2 := hB.below hw2 hpl
    have hx2 := hx1.below hw2
    have hcl2 := hC2.lt
    have hpl2 := hB2.lt
    clear c0 c1 c2 c3 c4 b0 b1 b2 b3 hC hB hx1
    obtain ⟨c0, c1, c2, c3, c4⟩ := cells5 hC2
    obtain ⟨b0, b1, b2, b3⟩ := cells4 hB2
    have i1 : ¬ (P : Int) < (10 : Int) + (lo : Int) := by omega
    have i2 : IntKind.i64.wrap (IntKind.i64.wrap (IntKind.i64.wrap 8 + 2) + (lo : Int)) = (10 : Int) + (lo : Int) := by rw [IntKind.wrap_i64, IntKind.wrap_i64, IntKind.wrap_i64]; omega
    go_upto_region 3 with (fail)
    go_region
    go_upto_region 4 with (fail)
    go_region
    go_upto_region 6 with (fail)
    go_region_held3 (fun w' => w'.cell? ⟨w.heap.size, 0, none⟩ = some (.slice A key.length ca) ∧ w'.cell? ⟨w.heap.size, 1, none⟩ = some (.int .i64 ck) ∧ w'.cell? ⟨w.heap.size, 2, none⟩ = some (.slice B val.length cb) ∧ w'.cell? ⟨w.heap.size, 3, none⟩ = some (.int .i64 pg) ∧ w'.cell? ⟨w.heap.size, 4, none⟩ = some (.int .i64 ct) ∧ w'.cell? ⟨p, 1, none⟩ = some (.int .i64 (P : Int)) ∧ w'.cell? ⟨p, 2, none⟩ = some (.int .i64 8))
      (first
        | exact ⟨c0, c1, c2, c3, c4, b1, b2⟩
        | (obtain ⟨d0, d1, d2, d3, d4⟩ := cells5 (OBlk.below (w := wc.drew.drew.drew) hC2 hw3 hcl2); obtain ⟨_, f1, f2, _⟩ := cells4 (OBlk.below (w := wc.drew.drew.drew) hB2 hw3 hpl2); exact ⟨d0, d1, d2, d3, d4, f1, f2⟩))
      (first
        | (go_at_call 53; refine (HL.out _ (hx2.below (((Below.refl _ _).drew.drew).drew))).mono ?_; rintro e w3 ⟨rfl, hw3⟩)
        | fail)
    go_wp2_with fail
    go_ret
    exact ⟨rfl, (hA.trans (hw2.mono hA.size)).trans ((((Below.refl wc.heap.size wc).drew.drew).drew.trans hw3).mono (by have := hA.size; have := hw2.size; omega))⟩
/-- The one way of slices.Insert that is needed: behind the end. -/
theorem cs_elem : Try.prog.underlying 25 = some (.slice (Try.prog.elem 25)) := by kernel_rfl
set_option maxRecDepth 100000 in
set_option maxHeartbeats 4000000 in
theorem InsertS_nil (w : World) (y : CV) (b1 b2 : Nat) (hk : OwB w b1 y.kv y.c.key) (hv : OwB w b2 y.vv y.c.val) :
    Calls Try.prog 70 #[.slice none 0 0, .int .i64 0, .slice (some ⟨w.heap.size, 0, none⟩) 1 1] (w.alloc (.cells #[y.kv, .int .i64 y.c.kind, y.vv, .int .i64 y.c.page, .int .i64 y.c.count] 32)) fun e w' =>
      ∃ v, e = .returned v ∧ Own w' w.heap.size 32 5 v 1 y.cells ∧ Below w.heap.size w w' := by
  obtain ⟨i0, hi, hz0, hz1, hz2⟩ := info_parts cell_info
  have hsrc := Rd.five w y.kv (.int .i64 y.c.kind) y.vv (.int .i64 y.c.page) (.int .i64 y.c.count) 32
  have hone := cells_one hk hv
  have hA : Below w.heap.size w (w.alloc (.cells #[y.kv, .int .i64 y.c.kind, y.vv, .int .i64 y.c.page, .int .i64 y.c.count] 32)) := (Below.refl _ _).alloc (Nat.le_refl _) _
  go_enter Try.func70, Try.ntmps70
  go_wp2_with (first
    | (at_builtin; refine wp_append rfl (.tmp 23) (.tmp 24) _ _ rfl w.heap.size 32 i0 _ 5 72 Try.underlying25 hi hz0 hz1 hz2 rfl _ 0 [] rfl (Own.nil _ _ _ _) (.slice (some ⟨w.heap.size, 0, none⟩) 1 1) 1 _ rfl (Rd.src _ Try.underlying25 (by omega) hsrc hone) (by omega) (by omega) (by simp) ?_; intro v' w' ho' hg' hk'; obtain ⟨B', c', rfl⟩ := Own.slice ho')
    | fail)
  go_ret
  exact ⟨_, rfl, by simpa [CV.cells] using ho', hA.grown hg' (by simp) (fun k hk => by cases hk)⟩
end Go.Proofs.Ytonbcipofakpjaa

-- plain.Insert into a page that is empty, or beyond its end: the walk.
namespace Go.Proofs.Ytonbcipofakpjaa
open Go.RowKit
set_option maxRecDepth 100000 in
set_option maxHeartbeats 4000000 in
theorem Insert_far {w : World} {p : Nat} {kind : Int} {P : Nat} {used : Int} {v : Value} {l : List CV} (h : PgAt w p kind P used v l) (x : CV) (hx : x.ok w) (i : Int) (hi : (l.length : Int) < i) :
    Calls Try.prog 40 #[.pointer (some ⟨p, 0, none⟩), .int .i64 i, cellV x] w fun e w' => e = .returned (.int .i64 64) ∧ Below w.heap.size w w' := by
  obtain ⟨A, ca, B, cb, key, ck, val, pg, ct, rfl, hk1, hk2⟩ := CV.form hx
  obtain ⟨L, lc, rfl, hm, hc⟩ := h.rd.slice
  have hA : Below w.heap.size w (w.alloc (.cells #[.slice A key.length ca, .int .i64 ck, .slice B val.length cb, .int .i64 pg, .int .i64 ct] 32)) := (Below.refl _ _).alloc (Nat.le_refl _) _
  have hB := h.blk.alloc (.cells #[.slice A key.length ca, .int .i64 ck, .slice B val.length cb, .int .i64 pg, .int .i64 ct] 32)
  obtain ⟨b0, b1, b2, b3⟩ := cells4 hB
  have hpl := h.blk.lt
  have i1 : ¬ i < 0 := by omega
  unfold cellV
  go_enter Try.func40, Try.ntmps40
  go_wp2_with fail
  go_ret
  exact ⟨rfl, hA⟩
set_option maxRecDepth 100000 in
set_option maxHeartbeats 4000000 in
theorem Insert_first {w : World} {p : Nat} {kind : Int} {P : Nat} (h : PgAt w p kind P 8 (.slice none 0 0) []) (hP : P ≤ 65536) (x : CV) (hx : x.ok w) (hxp : ∀ w', Below p w w' → x.ok w') (hm : mayP kind P x.c = true) (hf : 10 + longF x.c ≤ P) :
    Calls Try.prog 40 #[.pointer (some ⟨p, 0, none⟩), .int .i64 0, cellV x] w fun e w' => e = .returned (.int .i64 0) ∧ (∃ (v : Value) (y : CV), y.c = x.c ∧ PgAt w' p kind P ((10 + longF x.c : Nat) : Int) v [y]) ∧ Below p w w' := by
  have hok := may_ok hm
  have hkv := okc_fit hok hP
  have hrf := fun W (hW : Below w.heap.size w W) => refused_nil (h.below hW) hP x (hx.below hW) hm hf
  obtain ⟨A, ca, B, cb, key, ck, val, pg, ct, rfl, hk1, hk2⟩ := CV.form hx
  have hA : Below w.heap.size w (w.alloc (.cells #[.slice A key.length ca, .int .i64 ck, .slice B val.length cb, .int .i64 pg, .int .i64 ct] 32)) := (Below.refl _ _).alloc (Nat.le_refl _) _
  have hC := OBlk.new' w 32 [.slice A key.length ca, .int .i64 ck, .slice B val.length cb, .int .i64 pg, .int .i64 ct]
  have hB := h.blk.alloc (.cells #[.slice A key.length ca, .int .i64 ck, .slice B val.length cb, .int .i64 pg, .int .i64 ct] 32)
  have hx1 := hx.below hA
  have hpw : p < w.heap.size := h.blk.lt
  have hkv' : key.length + val.length ≤ 131072 := hkv
  have hr := ((OwCs.rng (OwCs.nil w 0)) : _)
  have hlo : ∀ W, CV.ok W ⟨.slice A key.length ca, .slice B val.length cb, ⟨key, ck, val, pg, ct⟩⟩ → Calls Try.prog 53 #[.agg #[.slice A key.length ca, .int .i64 ck, .slice B val.length cb, .int .i64 pg, .int .i64 ct]] W fun e w' => e = .returned (.int .i64 (longF ⟨key, ck, val, pg, ct⟩ : Nat)) ∧ Below W.heap.size W w' := fun W hW => long_any ⟨.slice A key.length ca, .slice B val.length cb, ⟨key, ck, val, pg, ct⟩⟩ W hW (show key.length + val.length ≤ 9223372036854775000 by omega)
  have how : ∀ W, CV.ok W ⟨.slice A key.length ca, .slice B val.length cb, ⟨key, ck, val, pg, ct⟩⟩ → Calls Try.prog 71 #[.agg #[.slice A key.length ca, .int .i64 ck, .slice B val.length cb, .int .i64 pg, .int .i64 ct]] W fun e w' => ∃ (K2 V2 : Option Addr) (kc vc : Nat), e = .returned (.agg #[.slice K2 key.length kc, .int .i64 ck, .slice V2 val.length vc, .int .i64 pg, .int .i64 ct]) ∧ OwB w' W.heap.size (.slice K2 key.length kc) key ∧ OwB w' W.heap.size (.slice V2 val.length vc) val ∧ Below W.heap.size W w' := fun W hW => by
    refine (own_any ⟨.slice A key.length ca, .slice B val.length cb, ⟨key, ck, val, pg, ct⟩⟩ W hW (show key.length ≤ _ by omega) (show val.length ≤ _ by omega)).mono fun e w' hh => ?_
    obtain ⟨⟨kv, vv, c⟩, rfl, rfl, hk, hv, _, hb⟩ := hh
    simp only at hk hv
    obtain ⟨K2, kc, rfl⟩ := Own.slice hk
    obtain ⟨V2, vc, rfl⟩ := Own.slice hv
    exact ⟨K2, V2, kc, vc, rfl, hk, hv, hb⟩
  have hf' : 10 + longF ⟨key, ck, val, pg, ct⟩ ≤ P := hf
  have hins := fun (W : World) (K2 V2 : Option Addr) (kc vc : Nat) (b1 b2 : Nat) hk hv => InsertS_nil W ⟨.slice K2 key.length kc, .slice V2 val.length vc, ⟨key, ck, val, pg, ct⟩⟩ b1 b2 hk hv
  simp only [CV.cells] at hins
  unfold cellV at hrf ⊢
  have HL := Lib.hid hlo
  have HO := Lib.hid how
  have HI := Lib.hid hins
  have HX := Lib.hid hx
  have HXP := Lib.hid hxp
  have HE : Hid (longF (⟨.slice A key.length ca, .slice B val.length cb, ⟨key, ck, val, pg, ct⟩⟩ : CV).c = longF ⟨key, ck, val, pg, ct⟩) := Lib.hid rfl
  have hrf1 := hrf _ hA
  clear hlo how hins hx hxp hm hok hkv hf hrf hr
  generalize longF ⟨key, ck, val, pg, ct⟩ = lo at *
  go_enter Try.func40, Try.ntmps40
  obtain ⟨b0, b1, b2, b3⟩ := cells4 hB
  go_wp2_with fail
  refine hrf1.mono ?_
  rintro e w1 ⟨rfl, hw1⟩
  have hC1 := hC.below hw1 hC.lt
  have hB1 := hB.below hw1 hB.lt
  have hx2 := hx1.below hw1
  have hA1 := hA.trans (hw1.mono hA.size)
  have hz := hC1.lt
  clear hrf1 b0 b1 b2 b3 hC hB hx1 hw1 hA
  obtain ⟨b0, b1, b2, b3⟩ := cells4 hB1
  obtain ⟨c0, c1, c2, c3, c4⟩ := cells5 hC1
  have f2 := hB1.frozen (j := 2) (by simp)
  have hpz := hB1.lt
  have i2 : IntKind.i64.wrap ((8 : Int) + ((2 : Int) + (lo : Int))) = (8 : Int) + ((2 : Int) + (lo : Int)) := by rw [IntKind.wrap_i64]; omega
  have i3 : IntKind.i64.wrap ((2 : Int) + (lo : Int)) = (2 : Int) + (lo : Int) := by rw [IntKind.wrap_i64]; omega
  go_upto_region 6 with (fail)
  go_cut [] (fun wx => OBlk wx p 89 [.int .i64 kind, .int .i64 (P : Int), .int .i64 ((10 + lo : Nat) : Int), .slice none 0 0] ∧ OBlk wx w.heap.size 32 [.slice A key.length ca, .int .i64 ck, .slice B val.length cb, .int .i64 pg, .int .i64 ct] ∧ Below p w wx)
  case first =>
    go_region_law
      (first
        | (go_simp; go_at_call 53; refine (HL.out _ (hx2.below ((Below.refl _ _).drew))).mono ?_; rintro e w3 ⟨rfl, hw3⟩; have hB3 := hB1.drew.below hw3 hpz; have hC3 := hC1.drew.below hw3 hz; obtain ⟨d0, d1, d2, d3⟩ := cells4 hB3; have g2 := hB3.frozen (j := 2) (by simp))
        | fail)
    all_goals
      go_wp2_with fail
      go_meet
      have hB4 := hB3.set 2 (.int .i64 (8 + (2 + (lo : Int))))
      simp only [List.set_cons_succ, List.set_cons_zero] at hB4
      rw [show ((10 + lo : Nat) : Int) = 8 + (2 + (lo : Int)) by omega]
      exact ⟨hB4, hC3.far (p := ⟨p, 2, none⟩) (show w.heap.size ≠ p by omega) _, (((hA1.mono (B' := p) (by omega)).trans (((Below.refl w1.heap.size w1).drew.trans hw3).mono (B' := p) (by omega))).setCell (p := ⟨p, 2, none⟩) (Nat.le_refl _) _)⟩
  case rest =>
    obtain ⟨hB5, hC5, hb5⟩ := hcut
    clear b0 b1 b2 b3 c0 c1 c2 c3 c4 f2 hB1 hC1
    obtain ⟨b0, b1, b2, b3⟩ := cells4 hB5
    obtain ⟨c0, c1, c2, c3, c4⟩ := cells5 hC5
    have hpz5 := hB5.lt
    have hcz5 := hC5.lt
    have f3 := hB5.frozen (j := 3) (by simp)
    go_upto_region 7 with (fail)
    have hx5 := HXP.out _ (hb5.drew)
    go_region_law
      (first
        | (go_simp; go_at_call 71; refine (HO.out _ hx5).mono ?_; rintro e w6 ⟨K2, V2, kc, vc, rfl, hk6, hv6, hw6⟩; have hB6 := hB5.drew.below hw6 hpz5; obtain ⟨d0, d1, d2, d3⟩ := cells4 (hB6.alloc (.cells #[.slice K2 key.length kc, .int .i64 ck, .slice V2 val.length vc, .int .i64 pg, .int .i64 ct] 32)); obtain ⟨e0, e1, e2, e3⟩ := cells4 hB6)
        | (go_simp; go_at_call 70; refine (HI.out w6 K2 V2 kc vc _ _ hk6 hv6).mono ?_; rintro e w7 ⟨v7, rfl, hown7, hw7⟩; obtain ⟨B7, c7, rfl⟩ := Own.slice hown7; have hB7 := hB6.below hw7 hB6.lt; obtain ⟨x0, x1, x2, x3⟩ := cells4 hB7; have g3 := hB7.frozen (j := 3) (by simp))
        | fail)
    all_goals
      have hw5z : wc.heap.size ≤ w6.heap.size := hw6.size
      have hB8 := hB7.set 3 (.slice B7 1 c7)
      simp only [List.set_cons_succ, List.set_cons_zero] at hB8
      have hheap : ∀ k, p < k → (w7.setCell ⟨p, 3, none⟩ (.slice B7 1 c7)).heap[k]? = w7.heap[k]? := fun k hk => Below.heap_setCell _ _ _ _ (show k ≠ p by omega)
      have hown8 := Own.heap hown7 fun k hk => hheap k (by have := (Own.lt hown7 k hk).1; omega)
      have hk8 := Own.heap (Own.below' hk6 hw7 (Nat.le_refl _)) fun k hk => hheap k (by have := (Own.lt hk6 k hk).1; have : wc.heap.size ≤ k := this; omega)
      have hv8 := Own.heap (Own.below' hv6 hw7 (Nat.le_refl _)) fun k hk => hheap k (by have := (Own.lt hv6 k hk).1; have : wc.heap.size ≤ k := this; omega)
      have hb8 : Below p w (w7.setCell ⟨p, 3, none⟩ (.slice B7 1 c7)) := ((hb5.drew.trans (hw6.mono (B' := p) (show p ≤ wc.heap.size by omega))).trans (hw7.mono (B' := p) (by omega))).setCell (p := ⟨p, 3, none⟩) (Nat.le_refl _) _
      have HB8 := Lib.hid hB8
      have HO8 := Lib.hid hown8
      have HK8 := Lib.hid hk8
      have HV8 := Lib.hid hv8
      clear hB8 hown8 hk8 hv8 hheap
      go_wp2_with fail
      go_ret
      refine ⟨rfl, ⟨_, ⟨.slice K2 key.length kc, .slice V2 val.length vc, ⟨key, ck, val, pg, ct⟩⟩, rfl, HB8.out, ⟨?_, ?_⟩⟩, hb8⟩
      · exact HO8.out.rd
      · intro y hy
        rw [List.mem_singleton] at hy
        subst hy
        exact { k := OwB.rd HK8.out, v := OwB.rd HV8.out, r1 := HX.out.r1, r2 := HX.out.r2, r3 := HX.out.r3 }
end Go.Proofs.Ytonbcipofakpjaa

-- espalierlaw06.awake: the walk.
namespace Go.Proofs.Ytonbcipofakpjaa
open Go.RowKit
def c0 : PC := ⟨[97], 1, [120, 121], 0, 0⟩
theorem c0_may : mayP 2 512 c0 = true := by decide
theorem c0_long : longF c0 = 8 := by decide
theorem c0_size : sizeF [c0] = 18 := by decide
theorem c0_enc : encE 2 [c0] 512 = 0 := by decide
theorem c0_len : (laidF 2 [c0] 512).length = 512 := laidF_length (by rw [c0_size]; omega)
theorem c0_pre : (preF 2 [c0] 512).length = 508 := preF_length (by rw [c0_size]; omega)
theorem c0_take6 : (laidF 2 [c0] 512).take 6 = [2, 1, 0, 1, 1, 244] := by
  unfold laidF
  rw [List.take_append_of_le_length (by rw [c0_pre]; omega)]
  decide +kernel
theorem c0_take8 : ((laidF 2 [c0] 512).take 508).drop 500 = [1, 0, 1, 97, 0, 2, 120, 121] := by
  unfold laidF
  rw [List.take_append_of_le_length (by rw [c0_pre]; omega)]
  decide +kernel
theorem c0_pln : isPln (laidF 2 [c0] 512) 2 [c0] := by
  have h := c0_len
  refine ⟨by rw [h]; decide, by decide, by rw [h]; exact c0_enc, by rw [h]⟩
theorem c0_only {kind : Int} {l : List PC} (h : isPln (laidF 2 [c0] 512) kind l) : kind = 2 ∧ l = [c0] := by
  have h1 := isPln_parse h
  have h2 := isPln_parse c0_pln
  rw [h2.1] at h1
  exact ⟨h1.2.symm.trans h2.2, (Option.some.inj h1.1).symm⟩
theorem c0_find : findF [97] [c0] = 0 ∧ isF [97] [c0] = true := ⟨by decide, by
  exact decide_eq_true ⟨c0, rfl, rfl⟩⟩
theorem conv_id (w : World) (C : Array Value) (n c g : Nat) (hg : g = w.heap.size) : (convert 27 27 (.slice (some ⟨g, 0, none⟩) n c)).run Try.prog (w.alloc (.cells C 5)) = .ok (.slice (some ⟨g, 0, none⟩) n c) (w.alloc (.cells C 5 (C.size, C.size + 1))) := by
  subst hg; exact Lib.run_convert_bytes_const w _ _ C n c Try.underlying27 Try.underlying5
theorem RdB.litm (w : World) (l : List UInt8) (cells : Array Value) (T : TypeId) (fr : Nat × Nat) (n : Nat) (h : cells = (bvs l).toArray) (hn : l.length = n) (hm : n ≤ maxLen) : RdB (w.alloc (.cells cells T fr)) (.slice (some ⟨w.heap.size, 0, none⟩) n n) l := by
  subst h; subst hn
  refine ⟨_, _, rfl, Nat.le_refl _, hm, fun j hj => ⟨_, rfl, ?_⟩⟩
  rw [add_row, Nat.zero_add, World.cell?_alloc_mark]
  have := bvs_get' l j hj
  simpa using this
theorem one_rd (W : World) (x : CV) (h : x.ok W) : RdCs (W.alloc (.cells #[x.kv, .int .i64 x.c.kind, x.vv, .int .i64 x.c.page, .int .i64 x.c.count] 32)) (.slice (some ⟨W.heap.size, 0, none⟩) 1 1) [x] := by
  refine ⟨?_, fun y hy => ?_⟩
  · have := Rd.five W x.kv (.int .i64 x.c.kind) x.vv (.int .i64 x.c.page) (.int .i64 x.c.count) 32
    simpa [flatC, CV.cells] using this
  · rw [List.mem_singleton] at hy
    subst hy
    exact h.below ((Below.refl _ _).alloc (Nat.le_refl _) _)
theorem Enc0 (W : World) (v : Value) (x : CV) (hx : x.c = c0) (h : RdCs W v [x]) : Calls Try.prog 15 #[.int .i64 2, v, .int .i64 512] W fun e w' => ∃ g, e = .returned (.tuple #[.slice (some ⟨g, 0, none⟩) 512 512, .int .i64 0]) ∧ W.heap.size ≤ g ∧ OBlk w' g 5 (bvs (laidF 2 [c0] 512)) ∧ Below W.heap.size W w' := by
  refine (PEncode_any 2 v [x] 512 (by unfold i64r; omega) W h (by simp)).mono fun e w' hh => ?_
  obtain ⟨hb, ⟨hf, _⟩ | ⟨_, ⟨hne, _⟩ | ⟨_, g, he, hg, ho⟩⟩⟩ := hh
  · exact absurd hf (by decide)
  · refine absurd ?_ hne
    have : pcs [x] = [c0] := by simp [pcs, hx]
    rw [this]; exact c0_enc
  · have : pcs [x] = [c0] := by simp [pcs, hx]
    rw [this] at ho
    exact ⟨g, he, hg, ho, hb⟩
theorem Dec0 (W : World) (v : Value) (h : RdB W v (laidF 2 [c0] 512)) : Calls Try.prog 20 #[v] W fun e w' => ∃ A c, e = .returned (.tuple #[.int .i64 2, .slice A 1 c, .int .i64 0]) ∧ Below W.heap.size W w' := by
  refine (PDecode_any v _ W h).mono fun e w' hh => ?_
  obtain ⟨hb, ⟨kind, l, u, hp, he, ho⟩ | ⟨hn, _⟩⟩ := hh
  · obtain ⟨rfl, hl⟩ := c0_only hp
    have hl1 : l.length = 1 := by rw [← pcs_length, hl]; rfl
    obtain ⟨A, c, rfl⟩ := Own.slice ho.own
    rw [hl1] at he
    exact ⟨A, c, he, hb⟩
  · exact absurd c0_pln (hn _ _)
theorem Size0 (W : World) (v : Value) (x : CV) (hx : x.c = c0) (h : RdCs W v [x]) : Calls Try.prog 16 #[.int .i64 2, v] W fun e w' => e = .returned (.int .i64 18) ∧ Below W.heap.size W w' := by
  have hp : pcs [x] = [c0] := by simp [pcs, hx]
  have := Size_any 2 v [x] W h (by rw [hp]; refine ⟨by rw [c0_size]; omega, fun c hc => ?_⟩; rw [List.mem_singleton] at hc; subst hc; decide)
  rw [hp, c0_size] at this
  exact this
theorem Find0 {w : World} {p : Nat} {kind : Int} {P : Nat} {used : Int} {v : Value} {y : CV} (h : PgAt w p kind P used v [y]) (hy : y.c = c0) (vk : Value) (hk : RdB w vk [97]) :
    Calls Try.prog 25 #[.pointer (some ⟨p, 0, none⟩), vk] w fun e w' => e = .returned (.tuple #[.int .i64 0, .bool true]) ∧ Below w.heap.size w w' := by
  have := PFind_any h vk [97] hk
  rw [show pcs [y] = [c0] by simp [pcs, hy], c0_find.1, c0_find.2] at this
  exact this
set_option maxRecDepth 100000 in
set_option maxHeartbeats 8000000 in
theorem awake_any (w : World) : Calls Try.prog 10 #[] w fun e w' => e = .returned (.bool true) ∧ Below w.heap.size w w' := by
  have kc := fun (w : World) (C : Array Value) (n c g : Nat) (hg : g = w.heap.size) => conv_id w C n c g hg
  go_enter Try.func10, Try.ntmps10
  go_wp2_with fail
  have hK := RdB.litm w [97] #[.int .u8 97] 5 (1, 2) 1 rfl rfl (by decide)
  have hV := RdB.litm (w.alloc (.cells #[.int .u8 97] 5 (1, 2))) [120, 121] #[.int .u8 120, .int .u8 121] 5 (2, 3) 2 rfl rfl (by decide)
  have hK3 := (hK.alloc (.cells #[.int .u8 120, .int .u8 121] 5 (2, 3))).alloc (.cells #[.slice (some ⟨w.heap.size, 0, none⟩) 1 1, .int .i64 1, .slice (some ⟨w.heap.size + 1, 0, none⟩) 2 2, .int .i64 0, .int .i64 0] 32)
  have hV3 := hV.alloc (.cells #[.slice (some ⟨w.heap.size, 0, none⟩) 1 1, .int .i64 1, .slice (some ⟨w.heap.size + 1, 0, none⟩) 2 2, .int .i64 0, .int .i64 0] 32)
  have hC3 := OBlk.new' ((w.alloc (.cells #[.int .u8 97] 5 (1, 2))).alloc (.cells #[.int .u8 120, .int .u8 121] 5 (2, 3))) 32 [.slice (some ⟨w.heap.size, 0, none⟩) 1 1, .int .i64 1, .slice (some ⟨w.heap.size + 1, 0, none⟩) 2 2, .int .i64 0, .int .i64 0]
  have hA3 := (((Below.refl w.heap.size w).alloc (Nat.le_refl _) (.cells #[.int .u8 97] 5 (1, 2))).alloc (by simp) (.cells #[.int .u8 120, .int .u8 121] 5 (2, 3))).alloc (by simp; omega) (.cells #[.slice (some ⟨w.heap.size, 0, none⟩) 1 1, .int .i64 1, .slice (some ⟨w.heap.size + 1, 0, none⟩) 2 2, .int .i64 0, .int .i64 0] 32)
  have hz3 : (((w.alloc (.cells #[.int .u8 97] 5 (1, 2))).alloc (.cells #[.int .u8 120, .int .u8 121] 5 (2, 3))).alloc (.cells #[.slice (some ⟨w.heap.size, 0, none⟩) 1 1, .int .i64 1, .slice (some ⟨w.heap.size + 1, 0, none⟩) 2 2, .int .i64 0, .int .i64 0] 32)).heap.size = w.heap.size + 1 + 1 + 1 := by simp
  simp only [World.size_alloc] at hV3 hC3
  rw [← hz3]
  generalize ((w.alloc (.cells #[.int .u8 97] 5 (1, 2))).alloc (.cells #[.int .u8 120, .int .u8 121] 5 (2, 3))).alloc (.cells #[.slice (some ⟨w.heap.size, 0, none⟩) 1 1, .int .i64 1, .slice (some ⟨w.heap.size + 1, 0, none⟩) 2 2, .int .i64 0, .int .i64 0] 32) = w3 at *
  clear hK hV
  have hx : CV.ok w3 ⟨.slice (some ⟨w.heap.size, 0, none⟩) 1 1, .slice (some ⟨w.heap.size + 1, 0, none⟩) 2 2, c0⟩ := { k := hK3, v := hV3, r1 := show i64r 1 by unfold i64r; omega, r2 := show i64r 0 by unfold i64r; omega, r3 := show i64r 0 by unfold i64r; omega }
  have hrd := one_rd w3 _ hx
  have HZ := Lib.hid hz3
  have hzl : w.heap.size + 2 < w3.heap.size := by omega
  clear hz3 hK3 hV3
  refine (Enc0 _ _ _ rfl hrd).mono ?_
  rintro e w4 ⟨g, rfl, hg, hbk, hw4⟩
  simp only [World.size_alloc] at hw4 hg
  have hb4 : Below w3.heap.size w3 w4 := ((Below.refl w3.heap.size w3).alloc (Nat.le_refl _) _).trans (hw4.mono (by omega))
  have hx4 := hx.below hb4
  have hC4 := hC3.below hb4 hC3.lt
  have hA4 := hA3.trans (hb4.mono (by omega))
  have hrd4 := one_rd w4 _ hx4
  clear hrd hw4 hC3 hA3
  obtain ⟨c0', c1', c2', c3', c4'⟩ := cells5 hC4
  go_wp2_with fail
  refine (Size0 _ _ _ rfl hrd4).mono ?_
  rintro e w5 ⟨rfl, hw5⟩
  simp only [World.size_alloc] at hw5
  have hb5 : Below w4.heap.size w4 w5 := ((Below.refl w4.heap.size w4).alloc (Nat.le_refl _) _).trans (hw5.mono (by omega))
  have hbk5 := hbk.below hb5 hbk.lt
  have hC5 := hC4.below hb5 hC4.lt
  have hx5 := hx4.below hb5
  have hA5 := hA4.trans (hb5.mono hA4.size)
  have hgl := hbk.lt
  have hcl := hC4.lt
  have hs5 := hb5.size
  have hdec := fun W v h => Dec0 W v h
  have H6 := Lib.hid c0_take6
  have H8 := Lib.hid c0_take8
  have HLN := Lib.hid c0_len
  clear hrd4 hw5 hbk hC4 hx4 hA4 hb4 hx hb5 c0' c1' c2' c3' c4'
  generalize laidF 2 [c0] 512 = b at *
  have hbr5 := hbk5.rdB HLN.out (by omega)
  go_wp2_with fail
  refine (hdec _ _ hbr5).mono ?_
  rintro e w6 ⟨DA, dc, rfl, hw6⟩
  have hbk6 := hbk5.below hw6 hbk5.lt
  have hC6 := hC5.below hw6 hC5.lt
  have hx6 := hx5.below hw6
  have hA6 := hA5.trans (hw6.mono hA5.size)
  have hs6 := hw6.size
  clear hdec hbr5 hbk5 hC5 hx5 hA5 hw6
  go_wp2_with fail
  refine (PNew_ok 2 512 rfl (by decide) _).mono ?_
  rintro e w7 ⟨p, rfl, hp, hP7, hw7⟩
  have hxp : ∀ w', Below p w7 w' → CV.ok w' ⟨.slice (some ⟨w.heap.size, 0, none⟩) 1 1, .slice (some ⟨w.heap.size + 1, 0, none⟩) 2 2, c0⟩ := fun w' hb => hx6.below (hw7.trans (hb.mono hp))
  have hbk7 := hbk6.below hw7 hbk6.lt
  have hC7 := hC6.below hw7 hC6.lt
  have hx7 := hx6.below hw7
  have hA7 := hA6.trans (hw7.mono hA6.size)
  have hs7 := hw7.size
  have HXP := Lib.hid hxp
  clear hbk6 hC6 hA6 hxp
  go_wp2_with fail
  refine (PNew_bad 1 512 rfl _).mono ?_
  rintro e w8 ⟨rfl, rfl⟩
  obtain ⟨c0', c1', c2', c3', c4'⟩ := cells5 hC7
  have hins := Insert_first hP7 (by omega) _ hx7 HXP.out c0_may (by rw [c0_long]; omega)
  unfold cellV at hins
  go_wp2_with fail
  refine hins.mono ?_
  rintro e w9 ⟨rfl, ⟨v9, y9, hy9, hP9⟩, hw9⟩
  have hbk9 := hbk7.below hw9 (by omega)
  have hC9 := hC7.below hw9 (by omega)
  have hx9 := HXP.out _ hw9
  have hA9 := hA7.trans (hw9.mono (by have := hA7.size; omega))
  have hs9 := hw9.size
  clear hins hP7 hbk7 hC7 hx7 hA7 hx6 c0' c1' c2' c3' c4'
  obtain ⟨c0', c1', c2', c3', c4'⟩ := cells5 hC9
  have hkr := RdB.litm w9 [97] #[.int .u8 97] 5 (1, 2) 1 rfl rfl (by decide)
  have hfi := Find0 (hP9.below ((Below.refl w9.heap.size w9).alloc (Nat.le_refl _) (.cells #[.int .u8 97] 5 (1, 2)))) hy9 _ hkr
  have HY := Lib.hid hy9
  clear hy9
  go_wp2_with fail
  refine hfi.mono ?_
  rintro e w10 ⟨rfl, hw10⟩
  simp only [World.size_alloc] at hw10
  have hb10 : Below w9.heap.size w9 w10 := ((Below.refl w9.heap.size w9).alloc (Nat.le_refl _) _).trans (hw10.mono (by omega))
  have hbk10 := hbk9.below hb10 hbk9.lt
  have hC10 := hC9.below hb10 hC9.lt
  have hx10 := hx9.below hb10
  have hP10 := hP9.below hb10
  have hA10 := hA9.trans (hb10.mono hA9.size)
  have hs10 := hb10.size
  have hif := Insert_far hP10 _ hx10 2 (by simp)
  unfold cellV at hif
  clear hfi hkr hbk9 hC9 hx9 hP9 hA9 hw10 hb10 c0' c1' c2' c3' c4'
  obtain ⟨c0', c1', c2', c3', c4'⟩ := cells5 hC10
  go_wp2_with fail
  refine hif.mono ?_
  rintro e w11 ⟨rfl, hw11⟩
  have hbk11 := hbk10.below hw11 hbk10.lt
  have hP11 := hP10.below hw11
  have hA11 := hA10.trans (hw11.mono hA10.size)
  have hr := hbk11.rdB HLN.out (by omega)
  have r6 := RdB.slice0 (n := 6) hbk11 (by rw [HLN.out]; omega) HLN.out (by omega)
  have r8 : RdB w11 (.slice (some ⟨g, 500, none⟩) 8 12) ((b.take 508).drop 500) := by
    have h := hr.cut (lo := 500) (hi := 508) (by omega) (by rw [HLN.out]; omega)
    rw [if_neg (by omega)] at h
    have e : Option.map (fun x => Addr.add x 500) (some (⟨g, 0, none⟩ : Addr)) = some ⟨g, 500, none⟩ := by rw [Option.map_some, add_row]
    rw [e] at h
    exact h
  rw [H6.out] at r6
  rw [H8.out] at r8
  have s6 := run_B_string r6
  have s8 := run_B_string r8
  have hln := PLen_any hP11
  have hus := PUsed_any hP11
  clear hif hbk10 hC10 hx10 hP10 hA10 c0' c1' c2' c3' c4' hr r6 r8 kc
  go_wp2_with (first
    | (go_at_call 23; refine hln.mono ?_; rintro e w12 ⟨rfl, rfl⟩)
    | (go_at_call 24; refine hus.mono ?_; rintro e w12 ⟨rfl, rfl⟩)
    | fail)
  go_ret
  exact ⟨by rw [c0_long]; rfl, hA11⟩
end Go.Proofs.Ytonbcipofakpjaa
