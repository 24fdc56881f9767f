/- espalierlaw06.PlainTotal: the walk. -/
import Derived.Test.YtonbcipofakpjaaPlnAwake
import Derived.Laws.Cover1
namespace Go.Proofs.Ytonbcipofakpjaa
open Go.RowKit
theorem ordC_trans : ∀ (a b c : List UInt8), ordC a b < 0 → ordC b c < 0 → ordC a c < 0
  | [], [], _, h, _ => by simp [ordC] at h
  | _ :: _, [], _, h, _ => by simp [ordC] at h
  | [], _ :: _, [], _, h => by simp [ordC] at h
  | [], _ :: _, _ :: _, _, _ => by simp [ordC]
  | _ :: _, _ :: _, [], _, h => by simp [ordC] at h
  | x :: a, y :: b, z :: c, h1, h2 => by
    unfold ordC at h1 h2 ⊢
    simp only [UInt8.lt_iff_toNat_lt] at h1 h2 ⊢
    split at h1
    · split at h2
      · rw [if_pos (by omega)]; omega
      · split at h2
        · omega
        · rw [if_pos (by omega)]; omega
    · split at h1
      · omega
      · split at h2
        · rw [if_pos (by omega)]; omega
        · split at h2
          · omega
          · rw [if_neg (by omega), if_neg (by omega)]
            exact ordC_trans a b c h1 h2
theorem bytesLess_ord : ∀ (a b : List UInt8), Op.bytesLess a b = decide (ordC a b < 0)
  | [], [] => by simp [Op.bytesLess, ordC]
  | _ :: _, [] => by simp [Op.bytesLess, ordC]
  | [], _ :: _ => by simp [Op.bytesLess, ordC]
  | x :: a, y :: b => by
    rw [Op.bytesLess, bytesLess_ord a b, ordC]
    by_cases h1 : x < y
    · simp [h1]
    · by_cases h2 : y < x
      · have : ¬ x = y := fun e => by subst e; exact h1 h2
        simp [h1, h2, this]
      · have e : x = y := by
          rw [UInt8.lt_iff_toNat_lt] at h1 h2
          exact UInt8.toNat_inj.mp (by omega)
        subst e
        simp [h1]
theorem scan_sorted {kind : Int} {P : Nat} : ∀ {l : List PC} {p : Option (List UInt8)}, scanE kind P p l = 0 → (∀ q, p = some q → ∀ c ∈ l, ordC q c.key < 0) ∧ l.Pairwise (fun a b => ordC a.key b.key < 0)
  | [], _, _ => ⟨fun _ _ c hc => (by cases hc), List.Pairwise.nil⟩
  | c :: r, p, h => by
    rw [scanE] at h
    split at h
    · cases h
    · split at h
      · cases h
      · rename_i ha
        obtain ⟨h1, h2⟩ := scan_sorted (l := r) h
        have hr := h1 c.key rfl
        refine ⟨fun q hq d hd => ?_, List.Pairwise.cons (fun d hd => hr d hd) h2⟩
        subst hq
        have hqc : ordC q c.key < 0 := by simpa [afterP] using ha
        rcases List.mem_cons.1 hd with rfl | hd
        · exact hqc
        · exact ordC_trans _ _ _ hqc (hr d hd)
theorem find_lt {key : List UInt8} : ∀ {l : List PC} {j : Nat} (hj : j < l.length), j < findF key l → ordC l[j].key key < 0
  | [], _, hj, _ => by simp at hj
  | c :: r, 0, _, h => by
    rw [findF] at h
    split at h
    · assumption
    · omega
  | c :: r, j + 1, hj, h => by
    rw [findF] at h
    split at h
    · exact find_lt (l := r) (by simpa using hj) (by omega)
    · omega
theorem find_at {key : List UInt8} : ∀ {l : List PC} (hj : findF key l < l.length), ¬ ordC l[findF key l].key key < 0
  | [], hj => by simp at hj
  | c :: r, hj => by
    by_cases h : ordC c.key key < 0
    · have e : findF key (c :: r) = findF key r + 1 := by rw [findF, if_pos h]
      have hj' : findF key r < r.length := by rw [e] at hj; simpa using hj
      have := find_at hj'
      simp only [e, List.getElem_cons_succ]
      exact this
    · have e : findF key (c :: r) = 0 := by rw [findF, if_neg h]
      simp only [e, List.getElem_cons_zero]
      exact h
theorem find_ge {key : List UInt8} {l : List PC} (hs : l.Pairwise (fun a b => ordC a.key b.key < 0)) {j : Nat} (hj : j < l.length) (h : findF key l ≤ j) : ¬ ordC l[j].key key < 0 := by
  intro hlt
  have h1 := find_at (key := key) (l := l) (by omega)
  rcases Nat.lt_or_ge (findF key l) j with h2 | h2
  · exact h1 (ordC_trans _ _ _ (List.pairwise_iff_getElem.1 hs _ _ (by omega) hj h2) hlt)
  · have e : findF key l = j := by omega
    simp only [e] at h1
    exact h1 hlt
theorem find_self {l : List PC} (hs : l.Pairwise (fun a b => ordC a.key b.key < 0)) {i : Nat} (hi : i < l.length) : findF l[i].key l = i ∧ isF l[i].key l = true := by
  have e : findF l[i].key l = i := by
    rcases Nat.lt_trichotomy (findF l[i].key l) i with h | h | h
    · exact absurd (List.pairwise_iff_getElem.1 hs _ _ (by omega) hi h) (find_at (by omega))
    · exact h
    · have := find_lt hi h
      rw [ordC_self] at this; omega
  refine ⟨e, ?_⟩
  unfold isF
  rw [e]
  exact decide_eq_true ⟨l[i], List.getElem?_eq_getElem hi, rfl⟩
theorem isF_lt {key : List UInt8} {l : List PC} (h : findF key l < l.length) : isF key l = (l[findF key l].key == key) := by
  unfold isF
  rw [Bool.eq_iff_iff, decide_eq_true_iff, beq_iff_eq]
  refine ⟨fun ⟨c, hc, he⟩ => ?_, fun he => ⟨_, List.getElem?_eq_getElem h, he⟩⟩
  rw [List.getElem?_eq_getElem h] at hc
  rw [Option.some.inj hc]; exact he
theorem isF_ge {key : List UInt8} {l : List PC} (h : ¬ findF key l < l.length) : isF key l = false := by
  unfold isF
  refine decide_eq_false fun ⟨c, hc, _⟩ => ?_
  rw [List.getElem?_eq_none (by omega)] at hc
  cases hc
set_option maxRecDepth 100000 in
set_option maxHeartbeats 8000000 in
theorem total_any (vb vk : Value) (b key : List UInt8) (w : World) (hb : RdB w vb b) (hk : RdB w vk key) :
    Calls Try.prog 7 #[vb, vk] w fun e w' => e = .returned (.bool true) ∧ Below w.heap.size w w' := by
  obtain ⟨A, c, rfl, hm⟩ := hb.form
  obtain ⟨K, kc, rfl, hkm⟩ := hk.form
  go_enter Try.func7, Try.ntmps7
  go_wp2_with fail
  refine (awake_any _).mono ?_
  rintro e w1 ⟨rfl, hw1⟩
  have hdec := PDecode_any _ b w1 (hb.below hw1 (Nat.le_refl _))
  go_wp2_with fail
  refine hdec.mono ?_
  rintro e w2 ⟨hw2, ⟨kind, l, v1, hy1, rfl, hO1⟩ | ⟨hno, rfl⟩⟩
  · have hb2 := hw1.trans (hw2.mono hw1.size)
    obtain ⟨C1, cc1, rfl⟩ := Own.slice hO1.own
    have hop := POpen_any _ b w2 (hb.below hb2 (Nat.le_refl _))
    have HY := Lib.hid hy1
    clear hdec hw1 hw2 hy1
    go_wp2_with fail
    refine hop.mono ?_
    rintro e w3 ⟨hw3, ⟨k2, l2, p, u2, hy2, rfl, hp, hPg⟩ | ⟨hno, _⟩⟩
    case inr => exact absurd HY.out (hno _ _)
    have hsame : pcs l2 = pcs l := by
      have h1 := isPln_parse hy2
      have h2 := isPln_parse HY.out
      rw [h2.1] at h1
      exact (Option.some.inj h1.1).symm
    have hb3 := hb2.trans (hw3.mono hb2.size)
    have hO3 := hO1.below hw3
    have hPl := (isPowB_range HY.out.1)
    have hlb : (pcs l).length ≤ b.length := by have := sizeF_eq (pcs l); have := (encE_zero.1 HY.out.2.2.1).2; omega
    have hln : l.length ≤ 2000000000000 := by rw [pcs_length] at hlb; omega
    have hE := PEncode_any kind _ l (b.length : Int) (by unfold i64r; omega) w3 hO3.rd hln
    have hsrt := (scan_sorted (encE_zero.1 HY.out.2.2.1).1).2
    have HS := Lib.hid hsrt
    have HE := Lib.hid hsame
    clear hop hy2 hsame hO1 hsrt
    go_wp2_with fail
    refine hE.mono ?_
    unfold EncAt
    simp only [Int.toNat_natCast]
    rintro e w4 ⟨hw4, ⟨hf, _⟩ | ⟨_, ⟨hne, _⟩ | ⟨_, g, rfl, hg, hbk⟩⟩⟩
    · rw [HY.out.1, HY.out.2.1] at hf; cases hf
    · exact absurd HY.out.2.2.1 hne
    have hb4 := hb3.trans (hw4.mono hb3.size)
    rw [HY.out.2.2.2] at hbk
    have q1 := run_B_string (hbk.rdB rfl (by omega))
    have q2 := run_B_string (hb.below hb4 (Nat.le_refl _))
    have hl4 := hO3.rd.below hw4
    have hPg4 := hPg.below hw4
    have hk4 := hk.below hb4 (Nat.le_refl _)
    have hpd : PgAt w4 p k2 b.length (sizeF (pcs l2) : Nat) u2 l2 := hPg4
    clear hE hbk hO3 hPg hPg4 hb3 hw4 hg
    go_wp2_with fail
    clear q1 q2
    go_loopw [13, 14] (fun n i wr => ∃ k : Nat, k ≤ l.length ∧ i = .int .i64 (k : Int) ∧ n = .int .i64 ((min k (findF key (pcs l)) : Nat) : Int) ∧ Below w4.heap.size w4 wr) (fun _ i _ => l.length - (intOf i).toNat)
    case atStart => exact ⟨0, Nat.zero_le _, rfl, by simp, Below.refl _ _⟩
    case round =>
      obtain ⟨k, hk', rfl, rfl, hB⟩ := hrel
      have hlr := hl4.below hB
      have hpr := hpd.below hB
      have hkr := hk4.below hB (Nat.le_refl _)
      by_cases hlt : k < l.length
      · have ik : (k : Int) < (l.length : Int) := by omega
        have hlp : k < (pcs l).length := by rw [pcs_length]; exact hlt
        have hself := find_self HS.out hlp
        have hcnt : (min (k + 1) (findF key (pcs l)) = if ordC (pcs l)[k].key key < 0 then min k (findF key (pcs l)) + 1 else min k (findF key (pcs l))) := by
          by_cases h : k < findF key (pcs l)
          · rw [if_pos (find_lt hlp h)]; omega
          · rw [if_neg (find_ge HS.out hlp (by omega))]; omega
        have hprev : ∀ kk, k = kk + 1 → ∃ q, (∃ A0 a0, RdB wr (.slice A0 q.length a0) q ∧ ∀ ad, C1 = some ad → wr.cell? (ad.add (kk * 5)) = some (.slice A0 q.length a0)) ∧ ∀ c, (pcs l)[k] = c → ordC q c.key < 0 := fun kk hkk => by
          have hk1 : kk < l.length := by omega
          obtain ⟨ad', ea, d0, _⟩ := hlr.at_ hk1
          have hxp := hlr.ok _ (List.getElem_mem hk1)
          obtain ⟨A0, a0, he, _⟩ := hxp.k.form
          refine ⟨l[kk].c.key, ⟨A0, a0, by rw [← he]; exact hxp.k, fun ad e => ?_⟩, fun c hc => ?_⟩
          · rw [ea] at e
            cases e
            rw [d0, he]
          · have := List.pairwise_iff_getElem.1 HS.out kk k (by rw [pcs_length]; exact hk1) hlp (by omega)
            rw [hc, pcs_at hk1] at this
            exact this
        have hfi := fun (vk' : Value) (W : World) (hW : Below w4.heap.size w4 W) (h' : RdB W vk' (pcs l)[k].key) => PFind_any (hpd.below hW) vk' (pcs l)[k].key h'
        rw [HE.out, hself.1, hself.2] at hfi
        rw [pcs_at hlt] at hcnt hfi
        have hprev' : ∀ kk, k = kk + 1 → ∃ q, (∃ A0 a0, RdB wr (.slice A0 q.length a0) q ∧ ∀ ad, C1 = some ad → wr.cell? (ad.add (kk * 5)) = some (.slice A0 q.length a0)) ∧ ordC q l[k].c.key < 0 := fun kk hkk => by
          obtain ⟨q, h1, h2⟩ := hprev kk hkk
          exact ⟨q, h1, h2 _ (pcs_at hlt)⟩
        obtain ⟨ad, rfl, c0, c1, c2, c3, c4⟩ := hlr.at_ hlt
        have hx := hlr.ok _ (List.getElem_mem hlt)
        generalize l[k] = x at *
        obtain ⟨A1, a1, B1, b1, kk1, ck, val, pg, ct, rfl, _, _⟩ := CV.form hx
        have hxk : RdB wr (.slice A1 kk1.length a1) kk1 := hx.k
        have hcnt' : (min (k + 1) (findF key (pcs l)) = if ordC kk1 key < 0 then min k (findF key (pcs l)) + 1 else min k (findF key (pcs l))) := hcnt
        have hfi' : ∀ (vk' : Value) (W : World), Below w4.heap.size w4 W → RdB W vk' kk1 → Calls Try.prog 25 #[.pointer (some ⟨p, 0, none⟩), vk'] W fun e w' => e = .returned (.tuple #[.int .i64 (k : Nat), .bool true]) ∧ Below W.heap.size W w' := hfi
        have HC := Lib.hid hcnt'
        have HF := Lib.hid hfi'
        have HP := Lib.hid hprev'
        have hb1 := bytesLess_ord kk1 key
        clear hcnt hcnt' hfi hfi' hprev hprev' hself hx hlr hpr
        have hnk : min k (findF key (pcs l)) ≤ k := Nat.min_le_left _ _
        generalize min k (findF key (pcs l)) = n at *
        go_upto_region 15 with (fail)
        go_cut [98] (fun s wx => s = .bool false ∧ wx = wr.drew)
        case first =>
          by_cases hk0 : 0 < k
          · obtain ⟨kk, rfl⟩ : ∃ kk, k = kk + 1 := ⟨k - 1, by omega⟩
            obtain ⟨q, ⟨A0, a0, hqr, hqc⟩, hqo⟩ := HP.out kk rfl
            have hqc' := hqc ad rfl
            have hbl : Op.bytesLess q kk1 = true := by rw [bytesLess_ord]; exact decide_eq_true hqo
            have j1 : (0 : Int) ≤ (kk : Int) := by omega
            have j2 : (kk : Int) < (l.length : Int) := by omega
            have j3 : kk < l.length := by omega
            have j4 : IntKind.i64.wrap (kk : Int) = (kk : Int) := by rw [IntKind.wrap_i64]; omega
            have j5 : (0 : Int) < (kk : Int) + 1 := by omega
            have j6 : (0 : Int) ≤ (kk : Int) + 1 := by omega
            have j7 : (kk : Int) + 1 < (l.length : Int) := by omega
            have j8 : ((kk : Int) + 1).toNat = kk + 1 := by omega
            have j9 : IntKind.i64.wrap ((kk : Int) + 1) = (kk : Int) + 1 := by rw [IntKind.wrap_i64]; omega
            have j10 : kk + 1 < l.length := by omega
            have s1 := run_B_string (w := wr.drew) (show RdB wr.drew _ _ from hqr)
            have s2 := run_B_string (w := wr.drew) (show RdB wr.drew _ _ from hxk)
            clear hqo hqc hqr hb1 HF HC HP hkr c1 c2 c3 c4 hnk
            go_region
            go_wp2_with fail
            go_meet
            exact ⟨rfl, rfl⟩
          · obtain rfl : k = 0 := by omega
            go_region
            go_wp2_with fail
            go_meet
            exact ⟨rfl, rfl⟩
        case rest =>
          obtain ⟨rfl, rfl⟩ := hcut
          have hB1 := hB.drew
          have hxk1 : RdB wr.drew (.slice A1 kk1.length a1) kk1 := hxk
          go_wp2_with fail
          refine (HF.out _ _ hB1 hxk1).mono ?_
          rintro e w5 ⟨rfl, hw5⟩
          have hB5 := hB1.trans (hw5.mono hB1.size)
          have hx5 := hxk1.below hw5 (Nat.le_refl _)
          have hk5 := hk4.below hB5 (Nat.le_refl _)
          have c5 : w5.cell? (ad.add (k * 5)) = some (.slice A1 kk1.length a1) := (hw5.cell (World.block_lt_of_cell? wr _ c0)).trans c0
          have s1 := run_B_string (w := w5.drew) (show RdB w5.drew _ _ from hx5)
          have s2 := run_B_string (w := w5.drew) (show RdB w5.drew _ _ from hk5)
          by_cases ho : ordC kk1 key < 0
          · have hbl : Op.bytesLess kk1 key = true := by rw [hb1]; exact decide_eq_true ho
            have hn1 : min (k + 1) (findF key (pcs l)) = n + 1 := by rw [HC.out, if_pos ho]
            have HN := Lib.hid hn1
            clear hn1 hb1 ho c0 c1 c2 c3 c4 hx5 hk5 hxk hxk1 hkr
            go_upto_region 20 with (fail)
            go_region
            go_wp2_with fail
            exact ⟨⟨k + 1, by omega, by go_num, by rw [HN.out]; go_num, hB5.drew⟩, by simp [intOf]; omega⟩
          · have hbl : Op.bytesLess kk1 key = false := by rw [hb1]; exact decide_eq_false ho
            have hn1 : min (k + 1) (findF key (pcs l)) = n := by rw [HC.out, if_neg ho]
            have HN := Lib.hid hn1
            clear hn1 hb1 ho c0 c1 c2 c3 c4 hx5 hk5 hxk hxk1 hkr
            go_upto_region 20 with (fail)
            go_region
            go_wp2_with fail
            exact ⟨⟨k + 1, by omega, by go_num, by rw [HN.out], hB5.drew⟩, by simp [intOf]; omega⟩
      · obtain rfl : k = l.length := by omega
        have hFl := findF_le key (pcs l)
        rw [pcs_length] at hFl
        rw [show min l.length (findF key (pcs l)) = findF key (pcs l) by omega]
        have hfi := PFind_any hpr (.slice K key.length kc) key hkr
        rw [HE.out] at hfi
        by_cases hF : findF key (pcs l) < l.length
        · have hFp : findF key (pcs l) < (pcs l).length := by rw [pcs_length]; exact hF
          have his := isF_lt hFp
          have hcat := pcs_at hF
          rw [hcat] at his
          rw [his] at hfi
          have i1 : (findF key (pcs l) : Int) < (l.length : Int) := by omega
          obtain ⟨ad, rfl, c0, _, _, _, _⟩ := hlr.at_ hF
          have hx := hlr.ok _ (List.getElem_mem hF)
          clear his hcat hFp hFl
          generalize findF key (pcs l) = f at *
          generalize l[f] = x at *
          obtain ⟨A1, a1, B1, b1, kk1, ck, val, pg, ct, rfl, _, _⟩ := CV.form hx
          have hxk : RdB wr (.slice A1 kk1.length a1) kk1 := hx.k
          simp only at hfi c0
          clear hx
          go_wp2_with fail
          refine hfi.mono ?_
          rintro e w5 ⟨rfl, hw5⟩
          have hB5 := hB.trans (hw5.mono hB.size)
          have hx5 := hxk.below hw5 (Nat.le_refl _)
          have hk5 := hk4.below hB5 (Nat.le_refl _)
          have c5 : w5.cell? (ad.add (f * 5)) = some (.slice A1 kk1.length a1) := (hw5.cell (World.block_lt_of_cell? wr _ c0)).trans c0
          have s1 := run_B_string (w := w5.drew) (show RdB w5.drew _ _ from hx5)
          have s2 := run_B_string (w := w5.drew) (show RdB w5.drew _ _ from hk5)
          have hb5 := hb4.trans (hB5.mono hb4.size)
          clear hfi hlr hpr hkr hxk hx5 hk5 c0
          rcases Bool.eq_false_or_eq_true (kk1 == key) with hq | hq
          · rw [hq]
            go_upto_region 23 with (fail)
            go_region
            go_wp2_with fail
            go_ret
            exact ⟨rfl, hb5.drew⟩
          · rw [hq]
            go_upto_region 23 with (fail)
            go_region
            go_wp2_with fail
            go_ret
            exact ⟨rfl, hb5.drew⟩
        · have his := isF_ge (key := key) (l := pcs l) (by rw [pcs_length]; exact hF)
          rw [his] at hfi
          have i1 : ¬ (findF key (pcs l) : Int) < (l.length : Int) := by omega
          clear his hFl
          generalize findF key (pcs l) = f at *
          go_wp2_with fail
          refine hfi.mono ?_
          rintro e w5 ⟨rfl, hw5⟩
          have hB5 := hB.trans (hw5.mono hB.size)
          have hb5 := hb4.trans (hB5.mono hb4.size)
          clear hfi hlr hpr hkr
          go_upto_region 23 with (fail)
          go_region
          go_wp2_with fail
          go_ret
          exact ⟨rfl, hb5.drew⟩
  · have hb2 := hw1.trans (hw2.mono hw1.size)
    have hop := POpen_any _ b w2 (hb.below hb2 (Nat.le_refl _))
    have HN := Lib.hid hno
    clear hdec hno
    go_wp2_with fail
    refine hop.mono ?_
    rintro e w3 ⟨hw3, ⟨k2, l2, p, u2, hy2, _, _, _⟩ | ⟨_, rfl⟩⟩
    · exact absurd hy2 (HN.out _ _)
    have hb3 := hb2.trans (hw3.mono hb2.size)
    go_wp2_with fail
    go_ret
    exact ⟨rfl, hb3⟩
end Go.Proofs.Ytonbcipofakpjaa
