/- spill.chain: the walk. -/
import Derived.Test.YtgnhakgfgdelpaaSpChF
import Derived.Test.YtgnhakgfgdelpaaRm
import Derived.Test.YtgnhakgfgdelpaaInts2
import Derived.Test.YtgnhakgfgdelpaaSepN
import Derived.WalkMore

namespace Go.Proofs.Ytgnhakgfgdelpaa
open Go.RowKit Go.Maps
section
variable {w0 w : World} {gb gm : Nat} {pv : Int → Option Value} {S : BS} {L : List Ent}
def ChAt (gb gm : Nat) (w0 : World) (L : List Ent) (r : ChR) (e : Ending) (w' : World) : Prop :=
  ∃ pu ou pv', e = .returned (.tuple #[pu, ou, .int .i64 r.1]) ∧ Sep w0 w' (intsE pu r.2.1 :: bytesE ou r.2.2.1 :: benchE gb gm pv' r.2.2.2 :: L)
theorem ChAt.bad {w' : World} {z : Int} {pv' : Int → Option Value} {S' : BS} (h : Sep w0 w' (benchE gb gm pv' S' :: L)) : ChAt gb gm w0 L (z, [], [], S') (.returned (.tuple #[.slice none 0 0, .slice none 0 0, .int .i64 z])) w' :=
  ⟨_, _, _, rfl, h.nil.nilI⟩
set_option maxRecDepth 100000 in
set_option maxHeartbeats 8000000 in
theorem SChain_any (hS : Sep w0 w (benchE gb gm pv S :: L)) (first : Int) (hfi : i64w first) (n most : Nat) (hn : n ≤ 65536) (hmn : most ≤ n) :
    Calls Try.prog 47 #[roomV gb, .int .i64 first, .int .i64 (n : Int), .int .i64 (most : Int)] w (ChAt gb gm w0 L (chF most (most + 1) S first n [] [])) := by
  have hE : (benchE gb gm pv S).p w := hS.head
  have hok := hE.2.2.1
  obtain ⟨hp1, hp2⟩ := isPowB_range hok.page
  have hSz := BSize_any hE
  have hrz := rm_size (.pointer (some ⟨gb, 0, none⟩))
  have hrr := rm_read (.pointer (some ⟨gb, 0, none⟩))
  have ew : IntKind.i64.wrap ((S.page : Int) - 12 - 4) = (S.page : Int) - 16 := by rw [IntKind.wrap_i64]; omega
  go_enter Try.func47, Try.ntmps47
  go_upto_region 6 with (fail)
  go_step3
  go_upto_region 6 with (first
    | (go_at_call 65; (with_reducible refine hSz.mono ?_); rintro e w1 ⟨rfl, rfl⟩)
    | fail)
  go_step3
  go_upto_region 6 with (fail)
  go_loopw [12, 13, 14, 15, 16] (fun pu ou z a left wr => ∃ (f : Nat) (Sk : BS) (pages : List Int) (out : List UInt8) (pvk : Int → Option Value) (at_ lf : Int), z = .int .i64 0 ∧ a = .int .i64 at_ ∧ left = .int .i64 lf ∧ i64w at_ ∧
    lf + out.length = n ∧ 0 ≤ lf ∧ pages.length ≤ out.length ∧ most + 1 ≤ f + out.length ∧ Hid (Sk.page = S.page) ∧ Hid (chF most (most + 1) S first n [] [] = chF most f Sk at_ lf pages out) ∧
    Sep w0 wr (benchE gb gm pvk Sk :: intsE pu pages :: bytesE ou out :: L)) (fun _ ou _ _ _ _ => most - slen ou)
  case atStart => exact ⟨most + 1, S, [], [], pv, first, n, rfl, rfl, rfl, hfi, by simp, by omega, by simp, by simp, Lib.hid rfl, Lib.hid rfl, hS.nil.nilI.sw2⟩
  case round =>
    clear hS hE hSz hfi
    obtain ⟨f, Sk, pages, out, pvk, at_, lf, rfl, rfl, rfl, hai, hlf, hlf0, hpl, hf, HP, HC, hSk⟩ := hrel
    have hE : (benchE gb gm pvk Sk).p wr := hSk.head
    have hob : OwB wr 0 u13 out := hSk.tail.tail.head
    have hpi : OwI wr 0 u12 pages := hSk.tail.head
    obtain ⟨A, c, rfl, hm⟩ := hob.rd.form
    by_cases hlt : (out.length : Int) < (most : Int)
    · have hge : ¬ (most : Int) ≤ (out.length : Int) := by omega
      have hf1 : 1 ≤ f := by omega
      have hCo := Contains_any u12 pages at_ wr hpi.rd
      by_cases hin : at_ ∈ pages
      · have HX : Hid (chF most (most + 1) S first n [] [] = (90, [], [], Sk)) := by
          show _ = _
          rw [HC.out, chF_bad (z := 90) hge hf1 (step_in (left := lf) hin).1 (by decide) (step_in (left := lf) hin).2]
        rw [decide_eq_true hin] at hCo
        clear hin hlf hge
        go_wp2_with (first
          | (go_at_call 62; (with_reducible refine hCo.mono ?_); rintro e w1 ⟨rfl, rfl⟩)
          | fail)
        go_ret3
        rw [HX.out]
        exact ChAt.bad (hSk.sw1.tail.sw1.tail)
      · rw [decide_eq_false hin] at hCo
        have hpk := HP.out
        cases hh : Sk.held at_ with
        | none =>
          have HX : Hid (chF most (most + 1) S first n [] [] = (30, [], [], Sk)) := by
            show _ = _
            rw [HC.out, chF_bad (z := 30) hge hf1 (step_none (left := lf) hin hh).1 (by decide) (step_none (left := lf) hin hh).2]
          have hRd := BRead_none hE at_ hai hh
          clear hin hlf hge hh hpk
          go_wp2_with (first
            | (go_at_call 62; (with_reducible refine hCo.mono ?_); rintro e w1 ⟨rfl, rfl⟩)
            | (go_at_call 31; (with_reducible refine hRd.mono ?_); rintro e w1 ⟨rfl, rfl⟩)
            | fail)
          go_ret3
          rw [HX.out]
          exact ChAt.bad (hSk.sw1.tail.sw1.tail)
        | some b =>
          obtain ⟨k1, k2, k3, k4⟩ := step_some (left := lf) hin hh
          rw [hpk] at k1
          have hRd := BRead_some hSk at_ hai b hh
          have hbl := hE.2.2.1.len at_ b hh
          have HIN := Lib.hid hin
          clear hin hh
          cases hd : decS b with
          | none =>
            obtain ⟨d1, d2, d3⟩ := dec_none hd
            have HX : Hid (chF most (most + 1) S first n [] [] = (60, [], [], Sk.read)) := by
              show _ = _
              rw [HC.out, chF_bad (z := 60) hge hf1 (by rw [k1, hd]; rfl) (by decide) k2]
            have hDc := fun (u : Value) (W : World) (hu : RdB W u b) => SDecode_any u b W hu
            unfold SDecAt at hDc
            rw [d1, d2, d3] at hDc
            clear hlf hge hpk k1 k2 k3 k4 d1 d2 d3 hd
            go_wp2_with (first
              | (go_at_call 62; (with_reducible refine hCo.mono ?_); rintro e w1 ⟨rfl, rfl⟩)
              | (go_at_call 31; (with_reducible refine hRd.mono ?_); rintro e w2 ⟨bu, rfl, hS2⟩; have hrb := OwB.rd (hS2.head : OwB w2 0 bu b))
              | (go_at_call 20; (with_reducible refine (hDc bu _ hrb).mono ?_); rintro e w3 ⟨du, rfl, ho3, hB3⟩)
              | fail)
            go_ret3
            rw [HX.out]
            exact ChAt.bad ((hS2.below hB3).tail.sw1.tail.sw1.tail)
          | some nd =>
            obtain ⟨nx, d⟩ := nd
            obtain ⟨d1, d2, d3⟩ := dec_some hd
            obtain ⟨r1, r2, r3, -, -⟩ := dec_rng hd
            have hDc := fun (u : Value) (W : World) (hu : RdB W u b) => SDecode_any u b W hu
            unfold SDecAt at hDc
            rw [d1, d2, d3] at hDc
            rw [hd] at k1
            rw [d1] at k3
            rw [d2] at k4
            clear d1 d2 d3 hd
            have hSz := fun W (hE : (benchE gb gm pvk Sk.read).p W) => BSize_any hE
            rw [show Sk.read.page = S.page from hpk] at hSz
            by_cases hbp : b.length = S.page
            · have q1 : ((b.length : Int) != (S.page : Int)) = false := by rw [hbp]; simp
              by_cases hlh : lf ≤ (S.page : Int) - 16
              · have i5 : ¬ (S.page : Int) - 16 < lf := by omega
                have q5 : decide (lf ≤ (S.page : Int) - 16) = true := decide_eq_true hlh
                by_cases hdl : (d.length : Int) = lf
                · have q2 : ((d.length : Int) != lf) = false := by rw [hdl]; simp
                  by_cases hnx : nx = 0
                  · obtain rfl := hnx
                    have HX := Lib.hid (HC.out.trans (chF_next hge hf1 (by rw [k1, stepQ_ok hbp (by omega) (by rw [decide_eq_true hlh]; rfl)]) k3 k4))
                    clear hbp
                    have ew2 : IntKind.i64.wrap (lf - (d.length : Int)) = lf - (d.length : Int) := by rw [IntKind.wrap_i64]; omega
                    have hl2 : lf - (d.length : Int) + (out ++ d).length = n := by rw [List.length_append]; omega
                    have hl3 : 0 ≤ lf - (d.length : Int) := by omega
                    have hl4 : (pages ++ [at_]).length ≤ (out ++ d).length := by rw [List.length_append, List.length_append, List.length_singleton]; omega
                    have hl5 : most + 1 ≤ (f - 1) + (out ++ d).length := by rw [List.length_append]; omega
                    have hl6 : (pages.length + 1) * 8 ≤ 140737488355328 := by omega
                    have hl7 : out.length + d.length ≤ 140737488355328 := by omega
                    have HL := Lib.hid (And.intro hl2 (And.intro hl3 (And.intro hl4 (And.intro hl5 (show i64w 0 by unfold i64w; omega)))))
                    clear hl2 hl3 hl4 hl5 hdl
                    clear hlf hge hpk k1 k2 k3 k4 r1 r3 hlf0 hpl hf
                    go_wp2_with (first
                      | (go_at_call 62; (with_reducible refine hCo.mono ?_); rintro e w1 ⟨rfl, rfl⟩)
                      | (go_at_call 31; (with_reducible refine hRd.mono ?_); rintro e w2 ⟨bu, rfl, hS2⟩; have hrb := OwB.rd (hS2.head : OwB w2 0 bu b); obtain ⟨bA, bc, rfl, -⟩ := hrb.form)
                      | (go_at_call 20; (with_reducible refine (hDc _ _ hrb).mono ?_); rintro e w3 ⟨du, rfl, ho3, hB3⟩; have hS4 : Sep w0 w3 (bytesE du d :: benchE gb gm pvk Sk.read :: intsE u12 pages :: bytesE (.slice A out.length c) out :: L) := (hS2.bytes hB3 ho3 (Nat.le_refl _)).sw1.tail; have hrd := OwB.rd (hS4.head : OwB w3 0 du d); obtain ⟨dA, dc, rfl, -⟩ := hrd.form; clear hS2 hrb)
                      | (go_at_call 65; (with_reducible refine (hSz _ hS4.tail.head).mono ?_); rintro e w4 ⟨rfl, rfl⟩)
                      | (at_builtin; refine wp_append_I1 rfl (.tmp 74) (.tmp 76) rfl 0 _ _ rfl (show OwI _ 0 u12 pages from hS4.tail.tail.head) at_ _ rfl hl6 (Nat.zero_le _) ?_; intro u w5 hO5 hg5 hb5; have hS5 : Sep w0 w5 (bytesE (.slice A out.length c) out :: intsE u (pages ++ [at_]) :: bytesE (.slice dA d.length dc) d :: benchE gb gm pvk Sk.read :: L) := (hS4.sw2.appI hO5 hg5 (by rcases hb5 with e | e; exact .inl e; exact .inr ⟨_, e, by omega⟩)).sw3; clear hO5 hg5 hb5 hS4 hrd)
                      | (at_builtin; refine wp_append_B rfl (.tmp 78) (.tmp 79) rfl 0 _ _ rfl (show OwB _ 0 _ out from hS5.head) _ _ rfl (OwB.rd (hS5.tail.tail.head : OwB w5 0 _ d)) hl7 (Nat.zero_le _) ?_; intro ou w6 hO6 hg6 hb6; have hS6 : Sep w0 w6 (bytesE ou (out ++ d) :: intsE u (pages ++ [at_]) :: bytesE (.slice dA d.length dc) d :: benchE gb gm pvk Sk.read :: L) := hS5.appended hO6 hg6 hb6; have hou : slen ou = (out ++ d).length := (by obtain ⟨oA, oc, rfl, -⟩ := (OwB.rd hO6).form; rfl); clear hO6 hg6 hb6 hS5)
                      | fail)
                    go_roundw
                    case rel => exact ⟨f - 1, Sk.read, pages ++ [at_], out ++ d, pvk, 0, lf - (d.length : Int), rfl, by first | rfl | trivial, by first | rfl | trivial, HL.out.2.2.2.2, HL.out.1, HL.out.2.1, HL.out.2.2.1, HL.out.2.2.2.1, HP, HX, (hS6.sw2.tail.sw2).sn [_]⟩
                    case measure => rw [hou, List.length_append]; simp [slen]; omega
                  · have q3 : (nx == 0) = false := beq_eq_false_iff_ne.2 hnx
                    have HX : Hid (chF most (most + 1) S first n [] [] = (90, [], [], Sk.read)) := by
                      show _ = _
                      rw [HC.out, chF_bad (z := 90) hge hf1 (by rw [k1, stepQ_bad hbp (.inr (by rw [decide_eq_false hnx, decide_eq_true hlh]; decide))]) (by decide) k2]
                    clear hbp hdl hnx
                    clear hlf hge hpk k1 k2 k3 k4 r1 r3 hlf0 hpl hf
                    go_wp2_with (first
                      | (go_at_call 62; (with_reducible refine hCo.mono ?_); rintro e w1 ⟨rfl, rfl⟩)
                      | (go_at_call 31; (with_reducible refine hRd.mono ?_); rintro e w2 ⟨bu, rfl, hS2⟩; have hrb := OwB.rd (hS2.head : OwB w2 0 bu b); obtain ⟨bA, bc, rfl, -⟩ := hrb.form)
                      | (go_at_call 20; (with_reducible refine (hDc _ _ hrb).mono ?_); rintro e w3 ⟨du, rfl, ho3, hB3⟩; have hS4 : Sep w0 w3 (bytesE du d :: benchE gb gm pvk Sk.read :: intsE u12 pages :: bytesE (.slice A out.length c) out :: L) := (hS2.bytes hB3 ho3 (Nat.le_refl _)).sw1.tail; have hrd := OwB.rd (hS4.head : OwB w3 0 du d); obtain ⟨dA, dc, rfl, -⟩ := hrd.form; clear hS2 hrb)
                      | (go_at_call 65; (with_reducible refine (hSz _ hS4.tail.head).mono ?_); rintro e w4 ⟨rfl, rfl⟩)
                      | fail)
                    go_ret3
                    rw [HX.out]
                    exact ChAt.bad (hS4.tail.sw1.tail.sw1.tail)
                · have q2 : ((d.length : Int) != lf) = true := by simp only [bne, beq_eq_false_iff_ne.2 hdl]; rfl
                  have HX : Hid (chF most (most + 1) S first n [] [] = (90, [], [], Sk.read)) := by
                    show _ = _
                    rw [HC.out, chF_bad (z := 90) hge hf1 (by rw [k1, stepQ_bad hbp (.inl (by omega))]) (by decide) k2]
                  clear hbp hdl
                  clear hlf hge hpk k1 k2 k3 k4 r1 r3 hlf0 hpl hf
                  go_wp2_with (first
                    | (go_at_call 62; (with_reducible refine hCo.mono ?_); rintro e w1 ⟨rfl, rfl⟩)
                    | (go_at_call 31; (with_reducible refine hRd.mono ?_); rintro e w2 ⟨bu, rfl, hS2⟩; have hrb := OwB.rd (hS2.head : OwB w2 0 bu b); obtain ⟨bA, bc, rfl, -⟩ := hrb.form)
                    | (go_at_call 20; (with_reducible refine (hDc _ _ hrb).mono ?_); rintro e w3 ⟨du, rfl, ho3, hB3⟩; have hS4 : Sep w0 w3 (bytesE du d :: benchE gb gm pvk Sk.read :: intsE u12 pages :: bytesE (.slice A out.length c) out :: L) := (hS2.bytes hB3 ho3 (Nat.le_refl _)).sw1.tail; have hrd := OwB.rd (hS4.head : OwB w3 0 du d); obtain ⟨dA, dc, rfl, -⟩ := hrd.form; clear hS2 hrb)
                    | (go_at_call 65; (with_reducible refine (hSz _ hS4.tail.head).mono ?_); rintro e w4 ⟨rfl, rfl⟩)
                    | fail)
                  go_ret3
                  rw [HX.out]
                  exact ChAt.bad (hS4.tail.sw1.tail.sw1.tail)
              · have i5 : (S.page : Int) - 16 < lf := by omega
                have q5 : decide (lf ≤ (S.page : Int) - 16) = false := decide_eq_false hlh
                by_cases hdl : (d.length : Int) = (S.page : Int) - 16
                · have q2 : ((d.length : Int) != (S.page : Int) - 16) = false := by rw [hdl]; simp
                  by_cases hnx : nx = 0
                  · obtain rfl := hnx
                    have HX : Hid (chF most (most + 1) S first n [] [] = (90, [], [], Sk.read)) := by
                      show _ = _
                      rw [HC.out, chF_bad (z := 90) hge hf1 (by rw [k1, stepQ_bad hbp (.inr (by rw [decide_eq_false hlh]; decide))]) (by decide) k2]
                    clear hbp hdl
                    clear hlf hge hpk k1 k2 k3 k4 r1 r3 hlf0 hpl hf
                    go_wp2_with (first
                      | (go_at_call 62; (with_reducible refine hCo.mono ?_); rintro e w1 ⟨rfl, rfl⟩)
                      | (go_at_call 31; (with_reducible refine hRd.mono ?_); rintro e w2 ⟨bu, rfl, hS2⟩; have hrb := OwB.rd (hS2.head : OwB w2 0 bu b); obtain ⟨bA, bc, rfl, -⟩ := hrb.form)
                      | (go_at_call 20; (with_reducible refine (hDc _ _ hrb).mono ?_); rintro e w3 ⟨du, rfl, ho3, hB3⟩; have hS4 : Sep w0 w3 (bytesE du d :: benchE gb gm pvk Sk.read :: intsE u12 pages :: bytesE (.slice A out.length c) out :: L) := (hS2.bytes hB3 ho3 (Nat.le_refl _)).sw1.tail; have hrd := OwB.rd (hS4.head : OwB w3 0 du d); obtain ⟨dA, dc, rfl, -⟩ := hrd.form; clear hS2 hrb)
                      | (go_at_call 65; (with_reducible refine (hSz _ hS4.tail.head).mono ?_); rintro e w4 ⟨rfl, rfl⟩)
                      | fail)
                    go_ret3
                    rw [HX.out]
                    exact ChAt.bad (hS4.tail.sw1.tail.sw1.tail)
                  · have q3 : (nx == 0) = false := beq_eq_false_iff_ne.2 hnx
                    have HX := Lib.hid (HC.out.trans (chF_next hge hf1 (by rw [k1, stepQ_ok hbp (by omega) (by rw [decide_eq_false hnx, decide_eq_false hlh])]) k3 k4))
                    clear hbp hnx
                    have ew2 : IntKind.i64.wrap (lf - (d.length : Int)) = lf - (d.length : Int) := by rw [IntKind.wrap_i64]; omega
                    have hl2 : lf - (d.length : Int) + (out ++ d).length = n := by rw [List.length_append]; omega
                    have hl3 : 0 ≤ lf - (d.length : Int) := by omega
                    have hl4 : (pages ++ [at_]).length ≤ (out ++ d).length := by rw [List.length_append, List.length_append, List.length_singleton]; omega
                    have hl5 : most + 1 ≤ (f - 1) + (out ++ d).length := by rw [List.length_append]; omega
                    have hl6 : (pages.length + 1) * 8 ≤ 140737488355328 := by omega
                    have hl7 : out.length + d.length ≤ 140737488355328 := by omega
                    have HL := Lib.hid (And.intro hl2 (And.intro hl3 (And.intro hl4 (And.intro hl5 (show i64w nx by unfold i64w; omega)))))
                    clear hl2 hl3 hl4 hl5 hdl
                    clear hlf hge hpk k1 k2 k3 k4 r1 r3 hlf0 hpl hf
                    go_wp2_with (first
                      | (go_at_call 62; (with_reducible refine hCo.mono ?_); rintro e w1 ⟨rfl, rfl⟩)
                      | (go_at_call 31; (with_reducible refine hRd.mono ?_); rintro e w2 ⟨bu, rfl, hS2⟩; have hrb := OwB.rd (hS2.head : OwB w2 0 bu b); obtain ⟨bA, bc, rfl, -⟩ := hrb.form)
                      | (go_at_call 20; (with_reducible refine (hDc _ _ hrb).mono ?_); rintro e w3 ⟨du, rfl, ho3, hB3⟩; have hS4 : Sep w0 w3 (bytesE du d :: benchE gb gm pvk Sk.read :: intsE u12 pages :: bytesE (.slice A out.length c) out :: L) := (hS2.bytes hB3 ho3 (Nat.le_refl _)).sw1.tail; have hrd := OwB.rd (hS4.head : OwB w3 0 du d); obtain ⟨dA, dc, rfl, -⟩ := hrd.form; clear hS2 hrb)
                      | (go_at_call 65; (with_reducible refine (hSz _ hS4.tail.head).mono ?_); rintro e w4 ⟨rfl, rfl⟩)
                      | (at_builtin; refine wp_append_I1 rfl (.tmp 74) (.tmp 76) rfl 0 _ _ rfl (show OwI _ 0 u12 pages from hS4.tail.tail.head) at_ _ rfl hl6 (Nat.zero_le _) ?_; intro u w5 hO5 hg5 hb5; have hS5 : Sep w0 w5 (bytesE (.slice A out.length c) out :: intsE u (pages ++ [at_]) :: bytesE (.slice dA d.length dc) d :: benchE gb gm pvk Sk.read :: L) := (hS4.sw2.appI hO5 hg5 (by rcases hb5 with e | e; exact .inl e; exact .inr ⟨_, e, by omega⟩)).sw3; clear hO5 hg5 hb5 hS4 hrd)
                      | (at_builtin; refine wp_append_B rfl (.tmp 78) (.tmp 79) rfl 0 _ _ rfl (show OwB _ 0 _ out from hS5.head) _ _ rfl (OwB.rd (hS5.tail.tail.head : OwB w5 0 _ d)) hl7 (Nat.zero_le _) ?_; intro ou w6 hO6 hg6 hb6; have hS6 : Sep w0 w6 (bytesE ou (out ++ d) :: intsE u (pages ++ [at_]) :: bytesE (.slice dA d.length dc) d :: benchE gb gm pvk Sk.read :: L) := hS5.appended hO6 hg6 hb6; have hou : slen ou = (out ++ d).length := (by obtain ⟨oA, oc, rfl, -⟩ := (OwB.rd hO6).form; rfl); clear hO6 hg6 hb6 hS5)
                      | fail)
                    go_roundw
                    case rel => exact ⟨f - 1, Sk.read, pages ++ [at_], out ++ d, pvk, nx, lf - (d.length : Int), rfl, by first | rfl | trivial, by first | rfl | trivial, HL.out.2.2.2.2, HL.out.1, HL.out.2.1, HL.out.2.2.1, HL.out.2.2.2.1, HP, HX, (hS6.sw2.tail.sw2).sn [_]⟩
                    case measure => rw [hou, List.length_append]; simp [slen]; omega
                · have q2 : ((d.length : Int) != (S.page : Int) - 16) = true := by simp only [bne, beq_eq_false_iff_ne.2 hdl]; rfl
                  have HX : Hid (chF most (most + 1) S first n [] [] = (90, [], [], Sk.read)) := by
                    show _ = _
                    rw [HC.out, chF_bad (z := 90) hge hf1 (by rw [k1, stepQ_bad hbp (.inl (by omega))]) (by decide) k2]
                  clear hbp hdl
                  clear hlf hge hpk k1 k2 k3 k4 r1 r3 hlf0 hpl hf
                  go_wp2_with (first
                    | (go_at_call 62; (with_reducible refine hCo.mono ?_); rintro e w1 ⟨rfl, rfl⟩)
                    | (go_at_call 31; (with_reducible refine hRd.mono ?_); rintro e w2 ⟨bu, rfl, hS2⟩; have hrb := OwB.rd (hS2.head : OwB w2 0 bu b); obtain ⟨bA, bc, rfl, -⟩ := hrb.form)
                    | (go_at_call 20; (with_reducible refine (hDc _ _ hrb).mono ?_); rintro e w3 ⟨du, rfl, ho3, hB3⟩; have hS4 : Sep w0 w3 (bytesE du d :: benchE gb gm pvk Sk.read :: intsE u12 pages :: bytesE (.slice A out.length c) out :: L) := (hS2.bytes hB3 ho3 (Nat.le_refl _)).sw1.tail; have hrd := OwB.rd (hS4.head : OwB w3 0 du d); obtain ⟨dA, dc, rfl, -⟩ := hrd.form; clear hS2 hrb)
                    | (go_at_call 65; (with_reducible refine (hSz _ hS4.tail.head).mono ?_); rintro e w4 ⟨rfl, rfl⟩)
                    | fail)
                  go_ret3
                  rw [HX.out]
                  exact ChAt.bad (hS4.tail.sw1.tail.sw1.tail)
            · have q1 : ((b.length : Int) != (S.page : Int)) = true := by simp only [bne, beq_eq_false_iff_ne.2 (show (b.length : Int) ≠ (S.page : Int) by omega)]; rfl
              have HX : Hid (chF most (most + 1) S first n [] [] = (60, [], [], Sk.read)) := by
                show _ = _
                rw [HC.out, chF_bad (z := 60) hge hf1 (by rw [k1, stepQ_len hbp]) (by decide) k2]
              clear hbp
              clear hlf hge hpk k1 k2 k3 k4 r1 r3 hlf0 hpl hf
              go_wp2_with (first
                | (go_at_call 62; (with_reducible refine hCo.mono ?_); rintro e w1 ⟨rfl, rfl⟩)
                | (go_at_call 31; (with_reducible refine hRd.mono ?_); rintro e w2 ⟨bu, rfl, hS2⟩; have hrb := OwB.rd (hS2.head : OwB w2 0 bu b); obtain ⟨bA, bc, rfl, -⟩ := hrb.form)
                | (go_at_call 20; (with_reducible refine (hDc _ _ hrb).mono ?_); rintro e w3 ⟨du, rfl, ho3, hB3⟩; have hS4 : Sep w0 w3 (bytesE du d :: benchE gb gm pvk Sk.read :: intsE u12 pages :: bytesE (.slice A out.length c) out :: L) := (hS2.bytes hB3 ho3 (Nat.le_refl _)).sw1.tail; have hrd := OwB.rd (hS4.head : OwB w3 0 du d); obtain ⟨dA, dc, rfl, -⟩ := hrd.form; clear hS2 hrb)
                | (go_at_call 65; (with_reducible refine (hSz _ hS4.tail.head).mono ?_); rintro e w4 ⟨rfl, rfl⟩)
                | fail)
              go_ret3
              rw [HX.out]
              exact ChAt.bad (hS4.tail.sw1.tail.sw1.tail)
    · have HX : Hid (chF most (most + 1) S first n [] [] = (0, pages, out, Sk)) := by
        show _ = _
        rw [HC.out, chF_done (by omega)]
      clear hlf
      go_wp2_with fail
      go_ret3
      rw [HX.out]
      exact ⟨_, _, _, rfl, hSk.sw1.sn [_]⟩
end
end Go.Proofs.Ytgnhakgfgdelpaa
