/- espalierlaw06.PlainThree: the walk. -/
import Derived.Test.YtonbcipofakpjaaSlC
namespace Go.Proofs.Ytonbcipofakpjaa
open Go.RowKit
def noneIs (key : List UInt8) (l : List PC) (j : Nat) : Prop := ∀ jj (h : jj < l.length), jj < j → l[jj].key ≠ key
def InsAt (P : Program) (w : World) (kind : Int) (Q : Int) (k : Nat) (ls : List CV) (v : Value) (wr : World) : Prop :=
  ls.length = k ∧ OwL wr w.heap.size v ls ∧ Rising (pcs ls) ∧ (∀ c ∈ pcs ls, mayP kind Q.toNat c = true) ∧ (k = 0 ∨ (isKindB kind && isPowB Q) = true) ∧ Below w.heap.size w wr
theorem mem_ins {α : Type} {l : List α} {x y : α} {n : Nat} (h : y ∈ l.take n ++ x :: l.drop n) : y = x ∨ y ∈ l := by
  rcases List.mem_append.1 h with h | h
  · exact .inr (List.mem_of_mem_take h)
  · rcases List.mem_cons.1 h with h | h
    · exact .inl h
    · exact .inr (List.mem_of_mem_drop h)
theorem InsAt.next {P : Program} {w : World} {kind Q : Int} {k : Nat} {ls : List CV} {v v' : Value} {wr w' : World} {x : CV} (h : InsAt P w kind Q k ls v wr) (hx : x.ok wr) (hb : Below wr.heap.size wr w') (hm : mayP kind Q.toNat x.c = true) (hq : (isKindB kind && isPowB Q) = true)
    (hne : ∀ c ∈ pcs ls, c.key ≠ x.c.key) (ho : Own w' wr.heap.size 32 5 v' (ls.take (findF x.c.key (pcs ls)) ++ x :: ls.drop (findF x.c.key (pcs ls))).length (flatC (ls.take (findF x.c.key (pcs ls)) ++ x :: ls.drop (findF x.c.key (pcs ls))))) :
    InsAt P w kind Q (k + 1) (ls.take (findF x.c.key (pcs ls)) ++ x :: ls.drop (findF x.c.key (pcs ls))) v' w' := by
  obtain ⟨h1, h2, h3, h4, h5, h6⟩ := h
  have hf := findF_le x.c.key (pcs ls)
  rw [pcs_length] at hf
  have hp : pcs (ls.take (findF x.c.key (pcs ls)) ++ x :: ls.drop (findF x.c.key (pcs ls))) = (pcs ls).take (findF x.c.key (pcs ls)) ++ x.c :: (pcs ls).drop (findF x.c.key (pcs ls)) := by
    simp [pcs, List.map_take, List.map_drop]
  refine ⟨by simp; omega, ⟨Own.low ho h6.size, fun y hy => ?_⟩, ?_, fun c hc => ?_, .inr hq, h6.trans (hb.mono h6.size)⟩
  · rcases mem_ins hy with rfl | hy
    · exact hx.below hb
    · exact (h2.ok y hy).below hb
  · rw [hp]; exact rise_ins h3 hne
  · rw [hp] at hc
    rcases mem_ins hc with rfl | hc
    · exact hm
    · exact h4 c hc
set_option maxRecDepth 100000 in
set_option maxHeartbeats 8000000 in
theorem three_any (kind : Int) (v : Value) (l : List CV) (P : Int) (hPr : i64r P) (w : World) (hl : RdCs w v l) (hn : l.length * 72 ≤ 140737488355328) (hb : ∀ c ∈ pcs l, c.key.length ≤ 140737488355328 ∧ c.val.length ≤ 140737488355328) :
    Calls Try.prog 5 #[.int .i64 kind, v, .int .i64 P] w fun e w' => e = .returned (.bool true) ∧ Below w.heap.size w w' := by
  obtain ⟨A, c, rfl, hm, hc⟩ := hl.slice
  go_enter Try.func5, Try.ntmps5
  go_wp2_with fail
  refine (awake_any _).mono ?_
  rintro e w1 ⟨rfl, hw1⟩
  have hl1 := hl.below hw1
  have hgr := great_any _ l w1 hl1 hn hb
  go_wp2_with fail
  refine hgr.mono ?_
  rintro e w2 ⟨hw2, ⟨rfl, _, _⟩ | ⟨rfl, _⟩⟩
  · have hl2 := hl1.below hw2
    have hb2 := hw1.trans (hw2.mono hw1.size)
    clear hgr hw2 hw1 hl1
    by_cases h3 : l.length = 3
    · have i1 : ((l.length : Int) != 3) = false := by rw [h3]; rfl
      have H3 := Lib.hid h3
      clear h3
      go_wp2_with fail
      go_loopw [9, 10] (fun u i wr => ∃ (k : Nat) (ls : List CV) (A' : Option Addr) (c' : Nat), k ≤ 3 ∧ i = .int .i64 (k : Int) ∧ u = .slice A' k c' ∧ InsAt Try.prog w2 kind P k ls (.slice A' k c') wr) (fun _ i _ => 3 - (intOf i).toNat)
      case atStart => exact ⟨0, [], none, 0, by omega, rfl, rfl, rfl, OwL.nil _ _, by simp [Rising, pcs], by simp [pcs], .inl rfl, Below.refl _ _⟩
      case round =>
        obtain ⟨k, ls, A', c', hk, rfl, rfl, hI⟩ := hrel
        obtain ⟨wq, rfl⟩ : ∃ wq, wq = wr := ⟨_, rfl⟩
        obtain ⟨hlen, hO, hR, hM, hQ, hB⟩ := hI
        have hI : InsAt Try.prog w2 kind P k ls (.slice A' k c') wq := ⟨hlen, hO, hR, hM, hQ, hB⟩
        have hlr := hl2.below hB
        by_cases hlt : k < 3
        · have ik : (k : Int) < 3 := by omega
          have hkl : k < l.length := by rw [H3.out]; exact hlt
          have ikl : (k : Int) < (l.length : Int) := by omega
          obtain ⟨A1, c1, hrun, hrd⟩ := hlr.run_lh k (k + 1) (by omega) (by omega)
          rw [show ((k + 1 : Nat) : Int) = (k : Int) + 1 by omega, show k + 1 - k = 1 by omega] at hrun
          have e1 : (l.take (k + 1)).drop k = [l[k]] := by rw [List.take_succ_eq_append_getElem hkl, List.drop_left' (by simp; omega)]
          rw [show k + 1 - k = 1 by omega, e1] at hrd
          have hE := PEncode_any kind _ [l[k]] P hPr wq hrd (by simp)
          have hone : pcs [l[k]] = [l[k].c] := rfl
          rw [hone] at hE
          clear e1 hone hrd
          obtain ⟨ad, rfl, c0, c1', c2, c3, c4⟩ := hlr.at_ hkl
          have hx := hlr.ok _ (List.getElem_mem hkl)
          generalize l[k] = x at *
          have HI := Lib.hid hI
          clear hI hlen hR hM hQ
          go_wp2_with fail
          refine hE.mono ?_
          unfold EncAt
          rintro e w3 ⟨hw3, ⟨hf, rfl⟩ | ⟨ht, ⟨hne, rfl⟩ | ⟨hz, g, rfl, hg, hbk⟩⟩⟩
          · have hb3 := hb2.trans ((hB.trans (hw3.mono hB.size)).mono hb2.size)
            clear hE hf hrun
            go_wp2_with fail
            go_ret
            exact ⟨rfl, hb3⟩
          · have hb3 := hb2.trans ((hB.trans (hw3.mono hB.size)).mono hb2.size)
            have hP1 := isPowB_range (Bool.and_eq_true_iff.1 ht).2
            rw [enc_one (show 512 ≤ P.toNat by omega)] at hne ⊢
            by_cases hmy : mayP kind P.toNat x.c = true
            · rw [if_pos hmy] at hne
              exact absurd rfl hne
            · rw [if_neg hmy] at hne ⊢
              clear hE hne hmy ht hrun
              go_wp2_with fail
              go_ret
              exact ⟨rfl, hb3⟩
          · have hP1 := isPowB_range (Bool.and_eq_true_iff.1 ht).2
            have hmy : mayP kind P.toNat x.c = true := by
              rw [enc_one (show 512 ≤ P.toNat by omega)] at hz
              by_cases hmy : mayP kind P.toNat x.c = true
              · exact hmy
              · rw [if_neg hmy] at hz; cases hz
            have hB3 := hB.trans (hw3.mono hB.size)
            have hO3 := hO.below hw3
            have hlr3 := hlr.below hw3
            have HM := Lib.hid hmy
            have HT := Lib.hid ht
            obtain ⟨A2, a2, B2, b2, key, ck, val, pg, ct, rfl, _, _⟩ := CV.form hx
            have hx3 := hx.below hw3
            have hkx3 : RdB w3 (.slice A2 key.length a2) key := hx3.k
            have d0 := (hw3.cell (World.block_lt_of_cell? wq _ c0)).trans c0
            have d1 := (hw3.cell (World.block_lt_of_cell? wq _ c1')).trans c1'
            have d2 := (hw3.cell (World.block_lt_of_cell? wq _ c2)).trans c2
            have d3 := (hw3.cell (World.block_lt_of_cell? wq _ c3)).trans c3
            have d4 := (hw3.cell (World.block_lt_of_cell? wq _ c4)).trans c4
            clear hE hz hmy ht hrun hbk hg c0 c1' c2 c3 c4 hlr hO hx hP1
            go_wp2_with fail
            go_loopw [13, 14] (fun n j wr => ∃ jj : Nat, jj ≤ k ∧ j = .int .i64 (jj : Int) ∧ n = .int .i64 ((min jj (findF key (pcs ls)) : Nat) : Int) ∧ Hid (noneIs key (pcs ls) jj) ∧ Below w3.heap.size w3 wr) (fun _ j _ => k - (intOf j).toNat)
            case atStart => exact ⟨0, Nat.zero_le _, rfl, by simp, Lib.hid (fun jj _ h => absurd h (Nat.not_lt_zero _)), Below.refl _ _⟩
            case round =>
              obtain ⟨jj, hjk, rfl, rfl, HNI, hBx⟩ := hrel
              have hOx := hO3.below hBx
              have hlx := hlr3.below hBx
              have f0 := (hBx.cell (World.block_lt_of_cell? w3 _ d0)).trans d0
              have hkx := hkx3.below hBx (Nat.le_refl _)
              have hlen := HI.out.1
              have hRis := HI.out.2.2.1
              by_cases hj : jj < k
              · have ij : (jj : Int) < (k : Int) := by omega
                have hjl : jj < ls.length := by omega
                have hlp : jj < (pcs ls).length := by rw [pcs_length]; exact hjl
                have hcnt : (min (jj + 1) (findF key (pcs ls)) = if ordC (pcs ls)[jj].key key < 0 then min jj (findF key (pcs ls)) + 1 else min jj (findF key (pcs ls))) := by
                  by_cases h : jj < findF key (pcs ls)
                  · rw [if_pos (find_lt hlp h)]; omega
                  · rw [if_neg (find_ge hRis hlp (by omega))]; omega
                have hni : (pcs ls)[jj].key ≠ key → noneIs key (pcs ls) (jj + 1) := fun h j2 h2 h3 => by
                  rcases Nat.lt_or_ge j2 jj with h4 | h4
                  · exact HNI.out j2 h2 h4
                  · obtain rfl : j2 = jj := by omega
                    exact h
                rw [pcs_at hjl] at hcnt hni
                obtain ⟨bd, rfl, g0, g1, g2, g3, g4⟩ := hOx.rd.at_ hjl
                have hy := hOx.rd.ok _ (List.getElem_mem hjl)
                generalize ls[jj] = y at *
                obtain ⟨A5, a5, B5, b5, key2, ck2, val2, pg2, ct2, rfl, _, _⟩ := CV.form hy
                have hyk : RdB wr (.slice A5 key2.length a5) key2 := hy.k
                have hcnt' : (min (jj + 1) (findF key (pcs ls)) = if ordC key2 key < 0 then min jj (findF key (pcs ls)) + 1 else min jj (findF key (pcs ls))) := hcnt
                have hni' : key2 ≠ key → noneIs key (pcs ls) (jj + 1) := hni
                have HC := Lib.hid hcnt'
                have HN := Lib.hid hni'
                have s1 := run_B_string (w := wr.drew) (show RdB wr.drew _ _ from hyk)
                have s2 := run_B_string (w := wr.drew) (show RdB wr.drew _ _ from hkx)
                have hnk : min jj (findF key (pcs ls)) ≤ jj := Nat.min_le_left _ _
                clear hcnt hcnt' hni hni' hy hOx hlx g1 g2 g3 g4 hRis
                generalize min jj (findF key (pcs ls)) = n at *
                rcases Bool.eq_false_or_eq_true (key2 == key) with hq | hq
                · clear hyk hkx
                  go_upto_region 18 with (fail)
                  go_region
                  go_wp2_with fail
                  go_ret
                  exact ⟨rfl, hb2.trans ((hB3.trans (hBx.mono hB3.size)).mono hb2.size).drew⟩
                · have HN2 := Lib.hid (HN.out (by simpa using hq))
                  go_upto_region 18 with (fail)
                  go_region
                  clear s1 s2
                  have s1 := run_B_string (w := wr.drew.drew) (show RdB wr.drew.drew _ _ from hyk)
                  have s2 := run_B_string (w := wr.drew.drew) (show RdB wr.drew.drew _ _ from hkx)
                  have hbl0 := bytesLess_ord key2 key
                  clear hyk hkx hq
                  by_cases ho : ordC key2 key < 0
                  · have hbl : Op.bytesLess key2 key = true := by rw [hbl0]; exact decide_eq_true ho
                    have hn1 : min (jj + 1) (findF key (pcs ls)) = n + 1 := by rw [HC.out, if_pos ho]
                    have HN1 := Lib.hid hn1
                    clear hn1 hbl0 ho
                    go_upto_region 20 with (fail)
                    go_region
                    go_wp2_with fail
                    exact ⟨⟨jj + 1, by omega, by go_num, by rw [HN1.out]; go_num, HN2, hBx.drew.drew⟩, by simp [intOf]; omega⟩
                  · have hbl : Op.bytesLess key2 key = false := by rw [hbl0]; exact decide_eq_false ho
                    have hn1 : min (jj + 1) (findF key (pcs ls)) = n := by rw [HC.out, if_neg ho]
                    have HN1 := Lib.hid hn1
                    clear hn1 hbl0 ho
                    go_upto_region 20 with (fail)
                    go_region
                    go_wp2_with fail
                    exact ⟨⟨jj + 1, by omega, by go_num, by rw [HN1.out], HN2, hBx.drew.drew⟩, by simp [intOf]; omega⟩
              · obtain rfl : jj = k := by omega
                have hFl := findF_le key (pcs ls)
                rw [pcs_length, hlen] at hFl
                rw [show min jj (findF key (pcs ls)) = findF key (pcs ls) by omega]
                have hne : ∀ c ∈ pcs ls, c.key ≠ key := fun c hc => by
                  obtain ⟨j2, h2, rfl⟩ := List.getElem_of_mem hc
                  exact HNI.out j2 h2 (by rw [pcs_length] at h2; omega)
                have HNE := Lib.hid hne
                have hIx : InsAt Try.prog w2 kind P jj ls (.slice A' jj c') wr := by
                  obtain ⟨h1, h2, h3, h4, h5, h6⟩ := HI.out
                  exact ⟨h1, hOx, h3, h4, h5, hB3.trans (hBx.mono hB3.size)⟩
                have HIX := Lib.hid hIx
                have hrdx := hOx.rd
                obtain ⟨AH, cH, hrun1, hrd1⟩ := hrdx.run_h (findF key (pcs ls)) (by omega)
                obtain ⟨AL, cL, hrun2, hrd2⟩ := hrdx.run_l (findF key (pcs ls)) (by omega)
                rw [hlen] at hrun2 hrd2
                have hone1 := flatC_one hrd1.ok
                have hone2 := flatC_one hrd2.ok
                have hls3 : (ls.take (findF key (pcs ls))).length ≤ 3 ∧ (ls.drop (findF key (pcs ls))).length ≤ 3 := by simp; omega
                have HFN : Hid (InsAt Try.prog w2 kind P (jj + 1) = InsAt Try.prog w2 kind P (jj + 1)) := Lib.hid rfl
                have hxx := hx3.below hBx
                have f1 := (hBx.cell (World.block_lt_of_cell? w3 _ d1)).trans d1
                have f2 := (hBx.cell (World.block_lt_of_cell? w3 _ d2)).trans d2
                have f3 := (hBx.cell (World.block_lt_of_cell? w3 _ d3)).trans d3
                have f4 := (hBx.cell (World.block_lt_of_cell? w3 _ d4)).trans d4
                clear hne hIx hrdx hOx hlx hkx hRis hlen d0 d1 d2 d3 d4 hx3 hkx3
                generalize hff : findF key (pcs ls) = f at *
                have HFF := Lib.hid hff
                clear hff
                have hf1 : f ≤ jj := by omega
                go_upto_region 24 with (first
                  | (at_builtin; refine wp_append_C rfl (.tmp 86) (.tmp 89) rfl wr.heap.size _ [] rfl (Own.nil _ _ _ _) _ (ls.take f) rfl hrd1.form hone1 (by simp only [List.length_nil]; omega) (Nat.le_refl _) ?_; intro v4 w4 ho4 hg4 hk4)
                  | fail)
                rw [List.nil_append] at ho4
                obtain ⟨V4, e4, rfl⟩ := Own.slice ho4
                have hb4 : Below wr.heap.size wr w4 := (Below.refl _ _).grown hg4 (Nat.le_refl _) (fun j hj => by cases hj)
                have c0 := (hb4.cell (World.block_lt_of_cell? wr _ f0)).trans f0
                have c1 := (hb4.cell (World.block_lt_of_cell? wr _ f1)).trans f1
                have c2 := (hb4.cell (World.block_lt_of_cell? wr _ f2)).trans f2
                have c3 := (hb4.cell (World.block_lt_of_cell? wr _ f3)).trans f3
                have c4 := (hb4.cell (World.block_lt_of_cell? wr _ f4)).trans f4
                clear f0 f1 f2 f3 f4
                have hsrc : Rd (w4.alloc (.cells #[.slice A2 key.length a2, .int .i64 ck, .slice B2 val.length b2, .int .i64 pg, .int .i64 ct] 32)) 5 (.slice (some ⟨w4.heap.size, 0, none⟩) 1 1) ([(⟨.slice A2 key.length a2, .slice B2 val.length b2, ⟨key, ck, val, pg, ct⟩⟩ : CV)]).length (flatC [(⟨.slice A2 key.length a2, .slice B2 val.length b2, ⟨key, ck, val, pg, ct⟩⟩ : CV)]) := Rd.five w4 _ _ _ _ _ _
                have hone3 := flatC_one (w := wr) (l := [(⟨.slice A2 key.length a2, .slice B2 val.length b2, ⟨key, ck, val, pg, ct⟩⟩ : CV)]) (fun y hy => by rw [List.mem_singleton] at hy; subst hy; exact hxx)
                go_upto_region 25 with (first
                  | (at_builtin; refine wp_append_C rfl (.tmp 91) (.tmp 96) rfl wr.heap.size _ (ls.take f) rfl (Own.alloc ho4 _) _ _ rfl hsrc hone3 (by simp only [List.length_singleton]; omega) (Nat.le_trans hb4.size (by simp)) ?_; intro v5 w5 ho5 hg5 hk5)
                  | fail)
                obtain ⟨V5, e5, rfl⟩ := Own.slice ho5
                have hb5 : Below wr.heap.size wr w5 := (hb4.alloc hb4.size _).grown hg5 (Nat.le_trans hb4.size (by simp)) (fun j hj => (Own.lt ho4 j hj).1)
                have hrd5 := hrd2.below hb5
                clear c0 c1 c2 c3 c4 hsrc hone3 hrun1
                have hl5 : (ls.take f ++ [(⟨.slice A2 key.length a2, .slice B2 val.length b2, ⟨key, ck, val, pg, ct⟩⟩ : CV)]).length ≤ 4 := by
                  rw [List.length_append, List.length_singleton]; omega
                go_upto_region 10 with (first
                  | (at_builtin; refine wp_append_C rfl (.tmp 98) (.tmp 101) rfl wr.heap.size _ _ rfl ho5 _ (ls.drop f) rfl hrd5.form hone2 (by omega) hb5.size ?_; intro v6 w6 ho6 hg6 hk6)
                  | fail)
                have hb6 : Below wr.heap.size wr w6 := hb5.grown hg6 hb5.size (fun j hj => (Own.lt ho5 j hj).1)
                rw [List.append_assoc, List.singleton_append] at ho6
                obtain ⟨V6, e6, rfl⟩ := Own.slice ho6
                have hnext := HIX.out.next hxx hb6 HM.out HT.out HNE.out (v' := .slice V6 (ls.take f ++ (⟨.slice A2 key.length a2, .slice B2 val.length b2, ⟨key, ck, val, pg, ct⟩⟩ : CV) :: ls.drop f).length e6) (by
                  show Own w6 wr.heap.size 32 5 _ (ls.take (findF key (pcs ls)) ++ _ :: ls.drop (findF key (pcs ls))).length (flatC (ls.take (findF key (pcs ls)) ++ _ :: ls.drop (findF key (pcs ls))))
                  rw [HFF.out]; exact ho6)
                have hnl := hnext.1
                have hnext' : InsAt Try.prog w2 kind P (jj + 1) (ls.take f ++ (⟨.slice A2 key.length a2, .slice B2 val.length b2, ⟨key, ck, val, pg, ct⟩⟩ : CV) :: ls.drop f) (.slice V6 (ls.take f ++ (⟨.slice A2 key.length a2, .slice B2 val.length b2, ⟨key, ck, val, pg, ct⟩⟩ : CV) :: ls.drop f).length e6) w6 := by
                  have h := hnext
                  simp only [HFF.out] at h
                  exact h
                simp only [HFF.out] at hnl
                have HNX := Lib.hid hnext'
                clear hnext hnext' ho6 ho5 ho4 hg4 hg5 hg6 hk4 hk5 hk6 hrd1 hrd2 hrd5 hone1 hone2 hrun2
                rw [hnl] at HNX ⊢
                clear hnl
                go_wp2_with fail
                exact ⟨⟨jj + 1, _, V6, e6, by omega, by go_num, rfl, HNX.out⟩, by simp [intOf]; omega⟩
        · obtain rfl : k = 3 := by omega
          have hE := PEncode_any kind _ ls P hPr wq hO.rd (by omega)
          have hq : (isKindB kind && isPowB P) = true := by
            rcases hQ with h | h
            · omega
            · exact h
          have hP1 := isPowB_range (Bool.and_eq_true_iff.1 hq).2
          have hz := enc_three (P := P.toNat) (l := pcs ls) (by omega) (by rw [pcs_length]; omega) hM hR
          have HQ := Lib.hid hq
          have HZ := Lib.hid hz
          clear hq hz hQ hM hR hlen hI
          go_wp2_with fail
          refine hE.mono ?_
          unfold EncAt
          rintro e w3 ⟨hw3, ⟨hf, _⟩ | ⟨_, ⟨hne, _⟩ | ⟨_, g, rfl, _, _⟩⟩⟩
          · rw [HQ.out] at hf; cases hf
          · exact absurd HZ.out hne
          · go_wp2_with fail
            go_ret
            exact ⟨rfl, hb2.trans ((hB.trans (hw3.mono hB.size)).mono hb2.size)⟩
    · have i1 : ((l.length : Int) != 3) = true := by simp; omega
      clear h3
      go_wp2_with fail
      go_ret
      exact ⟨rfl, hb2⟩
  · have hb2 := hw1.trans (hw2.mono hw1.size)
    go_wp2_with fail
    go_ret
    exact ⟨rfl, hb2⟩
end Go.Proofs.Ytonbcipofakpjaa
