/- Texts joined: spill.chain; spill.Read, Slice, List, Free; What is written into a chain is read, and freed; What Write and Free of a long value do to a bench; espalierlaw09 -/
import Derived.Test.YtgnhakgfgdelpaaP2
import Derived.Test.YtgnhakgfgdelpaaP5
import Derived.WalkMore
-- spill.chain: the walk.
namespace Go.Proofs.Ytgnhakgfgdelpaa
open Go.RowKit Go.Maps
section
variable {w0 w : World} {gb gm : Nat} {pv : Int → Option Value} {S : BS} {L : List Ent}
def ChAt (gb gm : Nat) (w0 : World) (L : List Ent) (r : ChR) (e : Ending) (w' : World) : Prop :=
  ∃ pu ou pv', e = .returned (.tuple #[pu, ou, .int .i64 r.1]) ∧ Sep w0 w' (intsE pu r.2.1 :: bytesE ou r.2.2.1 :: benchE gb gm pv' r.2.2.2 :: L)
theorem ChAt.bad {w' : World} {z : Int} {pv' : Int → Option Value} {S' : BS} (h : Sep w0 w' (benchE gb gm pv' S' :: L)) : ChAt gb gm w0 L (z, [], [], S') (.returned (.tuple #[.slice none 0 0, .slice none 0 0, .int .i64 z])) w' :=
  ⟨_, _, _, rfl, h.nil.nilI⟩
set_option maxRecDepth 100000 in
set_option maxHeartbeats 8000000 in
theorem SChain_any (hS : Sep w0 w (benchE gb gm pv S :: L)) (first : Int) (hfi : i64w first) (n most : Nat) (hn : n ≤ 65536) (hmn : most ≤ n) :
    Calls Try.prog 47 #[roomV gb, .int .i64 first, .int .i64 (n : Int), .int .i64 (most : Int)] w (ChAt gb gm w0 L (chF most (most + 1) S first n [] [])) := by
  have hE : (benchE gb gm pv S).p w := hS.head
  have hok := hE.2.2.1
  obtain ⟨hp1, hp2⟩ := isPowB_range hok.page
  have hSz := BSize_any hE
  have hrz := rm_size (.pointer (some ⟨gb, 0, none⟩))
  have hrr := rm_read (.pointer (some ⟨gb, 0, none⟩))
  have ew : IntKind.i64.wrap ((S.page : Int) - 12 - 4) = (S.page : Int) - 16 := by rw [IntKind.wrap_i64]; omega
  go_enter Try.func47, Try.ntmps47
  go_upto_region 6 with (fail)
  go_step3
  go_upto_region 6 with (first
    | (go_at_call 65; (with_reducible refine hSz.mono ?_); rintro e w1 ⟨rfl, rfl⟩)
    | fail)
  go_step3
  go_upto_region 6 with (fail)
  go_loopw [12, 13, 14, 15, 16] (fun pu ou z a left wr => ∃ (f : Nat) (Sk : BS) (pages : List Int) (out : List UInt8) (pvk : Int → Option Value) (at_ lf : Int), z = .int .i64 0 ∧ a = .int .i64 at_ ∧ left = .int .i64 lf ∧ i64w at_ ∧
    lf + out.length = n ∧ 0 ≤ lf ∧ pages.length ≤ out.length ∧ most + 1 ≤ f + out.length ∧ Hid (Sk.page = S.page) ∧ Hid (chF most (most + 1) S first n [] [] = chF most f Sk at_ lf pages out) ∧
    Sep w0 wr (benchE gb gm pvk Sk :: intsE pu pages :: bytesE ou out :: L)) (fun _ ou _ _ _ _ => most - slen ou)
  case atStart => exact ⟨most + 1, S, [], [], pv, first, n, rfl, rfl, rfl, hfi, by simp, by omega, by simp, by simp, Lib.hid rfl, Lib.hid rfl, hS.nil.nilI.sw2⟩
  case round =>
    clear hS hE hSz hfi
    obtain ⟨f, Sk, pages, out, pvk, at_, lf, rfl, rfl, rfl, hai, hlf, hlf0, hpl, hf, HP, HC, hSk⟩ := hrel
    have hE : (benchE gb gm pvk Sk).p wr := hSk.head
    have hob : OwB wr 0 u13 out := hSk.tail.tail.head
    have hpi : OwI wr 0 u12 pages := hSk.tail.head
    obtain ⟨A, c, rfl, hm⟩ := hob.rd.form
    by_cases hlt : (out.length : Int) < (most : Int)
    · have hge : ¬ (most : Int) ≤ (out.length : Int) := by omega
      have hf1 : 1 ≤ f := by omega
      have hCo := Contains_any u12 pages at_ wr hpi.rd
      by_cases hin : at_ ∈ pages
      · have HX : Hid (chF most (most + 1) S first n [] [] = (90, [], [], Sk)) := by
          show _ = _
          rw [HC.out, chF_bad (z := 90) hge hf1 (step_in (left := lf) hin).1 (by decide) (step_in (left := lf) hin).2]
        rw [decide_eq_true hin] at hCo
        clear hin hlf hge
        go_wp2_with (first
          | (go_at_call 62; (with_reducible refine hCo.mono ?_); rintro e w1 ⟨rfl, rfl⟩)
          | fail)
        go_ret3
        rw [HX.out]
        exact ChAt.bad (hSk.sw1.tail.sw1.tail)
      · rw [decide_eq_false hin] at hCo
        have hpk := HP.out
        cases hh : Sk.held at_ with
        | none =>
          have HX : Hid (chF most (most + 1) S first n [] [] = (30, [], [], Sk)) := by
            show _ = _
            rw [HC.out, chF_bad (z := 30) hge hf1 (step_none (left := lf) hin hh).1 (by decide) (step_none (left := lf) hin hh).2]
          have hRd := BRead_none hE at_ hai hh
          clear hin hlf hge hh hpk
          go_wp2_with (first
            | (go_at_call 62; (with_reducible refine hCo.mono ?_); rintro e w1 ⟨rfl, rfl⟩)
            | (go_at_call 31; (with_reducible refine hRd.mono ?_); rintro e w1 ⟨rfl, rfl⟩)
            | fail)
          go_ret3
          rw [HX.out]
          exact ChAt.bad (hSk.sw1.tail.sw1.tail)
        | some b =>
          obtain ⟨k1, k2, k3, k4⟩ := step_some (left := lf) hin hh
          rw [hpk] at k1
          have hRd := BRead_some hSk at_ hai b hh
          have hbl := hE.2.2.1.len at_ b hh
          have HIN := Lib.hid hin
          clear hin hh
          cases hd : decS b with
          | none =>
            obtain ⟨d1, d2, d3⟩ := dec_none hd
            have HX : Hid (chF most (most + 1) S first n [] [] = (60, [], [], Sk.read)) := by
              show _ = _
              rw [HC.out, chF_bad (z := 60) hge hf1 (by rw [k1, hd]; rfl) (by decide) k2]
            have hDc := fun (u : Value) (W : World) (hu : RdB W u b) => SDecode_any u b W hu
            unfold SDecAt at hDc
            rw [d1, d2, d3] at hDc
            clear hlf hge hpk k1 k2 k3 k4 d1 d2 d3 hd
            go_wp2_with (first
              | (go_at_call 62; (with_reducible refine hCo.mono ?_); rintro e w1 ⟨rfl, rfl⟩)
              | (go_at_call 31; (with_reducible refine hRd.mono ?_); rintro e w2 ⟨bu, rfl, hS2⟩; have hrb := OwB.rd (hS2.head : OwB w2 0 bu b))
              | (go_at_call 20; (with_reducible refine (hDc bu _ hrb).mono ?_); rintro e w3 ⟨du, rfl, ho3, hB3⟩)
              | fail)
            go_ret3
            rw [HX.out]
            exact ChAt.bad ((hS2.below hB3).tail.sw1.tail.sw1.tail)
          | some nd =>
            obtain ⟨nx, d⟩ := nd
            obtain ⟨d1, d2, d3⟩ := dec_some hd
            obtain ⟨r1, r2, r3, -, -⟩ := dec_rng hd
            have hDc := fun (u : Value) (W : World) (hu : RdB W u b) => SDecode_any u b W hu
            unfold SDecAt at hDc
            rw [d1, d2, d3] at hDc
            rw [hd] at k1
            rw [d1] at k3
            rw [d2] at k4
            clear d1 d2 d3 hd
            have hSz := fun W (hE : (benchE gb gm pvk Sk.read).p W) => BSize_any hE
            rw [show Sk.read.page = S.page from hpk] at hSz
            by_cases hbp : b.length = S.page
            · have q1 : ((b.length : Int) != (S.page : Int)) = false := by rw [hbp]; simp
              by_cases hlh : lf ≤ (S.page : Int) - 16
              · have i5 : ¬ (S.page : Int) - 16 < lf := by omega
                have q5 : decide (lf ≤ (S.page : Int) - 16) = true := decide_eq_true hlh
                by_cases hdl : (d.length : Int) = lf
                · have q2 : ((d.length : Int) != lf) = false := by rw [hdl]; simp
                  by_cases hnx : nx = 0
                  · obtain rfl := hnx
                    have HX := Lib.hid (HC.out.trans (chF_next hge hf1 (by rw [k1, stepQ_ok hbp (by omega) (by rw [decide_eq_true hlh]; rfl)]) k3 k4))
                    clear hbp
                    have ew2 : IntKind.i64.wrap (lf - (d.length : Int)) = lf - (d.length : Int) := by rw [IntKind.wrap_i64]; omega
                    have hl2 : lf - (d.length : Int) + (out ++ d).length = n := by rw [List.length_append]; omega
                    have hl3 : 0 ≤ lf - (d.length : Int) := by omega
                    have hl4 : (pages ++ [at_]).length ≤ (out ++ d).length := by rw [List.length_append, List.length_append, List.length_singleton]; omega
                    have hl5 : most + 1 ≤ (f - 1) + (out ++ d).length := by rw [List.length_append]; omega
                    have hl6 : (pages.length + 1) * 8 ≤ 140737488355328 := by omega
                    have hl7 : out.length + d.length ≤ 140737488355328 := by omega
                    have HL := Lib.hid (And.intro hl2 (And.intro hl3 (And.intro hl4 (And.intro hl5 (show i64w 0 by unfold i64w; omega)))))
                    clear hl2 hl3 hl4 hl5 hdl
                    clear hlf hge hpk k1 k2 k3 k4 r1 r3 hlf0 hpl hf
                    go_wp2_with (first
                      | (go_at_call 62; (with_reducible refine hCo.mono ?_); rintro e w1 ⟨rfl, rfl⟩)
                      | (go_at_call 31; (with_reducible refine hRd.mono ?_); rintro e w2 ⟨bu, rfl, hS2⟩; have hrb := OwB.rd (hS2.head : OwB w2 0 bu b); obtain ⟨bA, bc, rfl, -⟩ := hrb.form)
                      | (go_at_call 20; (with_reducible refine (hDc _ _ hrb).mono ?_); rintro e w3 ⟨du, rfl, ho3, hB3⟩; have hS4 : Sep w0 w3 (bytesE du d :: benchE gb gm pvk Sk.read :: intsE u12 pages :: bytesE (.slice A out.length c) out :: L) := (hS2.bytes hB3 ho3 (Nat.le_refl _)).sw1.tail; have hrd := OwB.rd (hS4.head : OwB w3 0 du d); obtain ⟨dA, dc, rfl, -⟩ := hrd.form; clear hS2 hrb)
                      | (go_at_call 65; (with_reducible refine (hSz _ hS4.tail.head).mono ?_); rintro e w4 ⟨rfl, rfl⟩)
                      | (at_builtin; refine wp_append_I1 rfl (.tmp 74) (.tmp 76) rfl 0 _ _ rfl (show OwI _ 0 u12 pages from hS4.tail.tail.head) at_ _ rfl hl6 (Nat.zero_le _) ?_; intro u w5 hO5 hg5 hb5; have hS5 : Sep w0 w5 (bytesE (.slice A out.length c) out :: intsE u (pages ++ [at_]) :: bytesE (.slice dA d.length dc) d :: benchE gb gm pvk Sk.read :: L) := (hS4.sw2.appI hO5 hg5 (by rcases hb5 with e | e; exact .inl e; exact .inr ⟨_, e, by omega⟩)).sw3; clear hO5 hg5 hb5 hS4 hrd)
                      | (at_builtin; refine wp_append_B rfl (.tmp 78) (.tmp 79) rfl 0 _ _ rfl (show OwB _ 0 _ out from hS5.head) _ _ rfl (OwB.rd (hS5.tail.tail.head : OwB w5 0 _ d)) hl7 (Nat.zero_le _) ?_; intro ou w6 hO6 hg6 hb6; have hS6 : Sep w0 w6 (bytesE ou (out ++ d) :: intsE u (pages ++ [at_]) :: bytesE (.slice dA d.length dc) d :: benchE gb gm pvk Sk.read :: L) := hS5.appended hO6 hg6 hb6; have hou : slen ou = (out ++ d).length := (by obtain ⟨oA, oc, rfl, -⟩ := (OwB.rd hO6).form; rfl); clear hO6 hg6 hb6 hS5)
                      | fail)
                    go_roundw
                    case rel => exact ⟨f - 1, Sk.read, pages ++ [at_], out ++ d, pvk, 0, lf - (d.length : Int), rfl, by first | rfl | trivial, by first | rfl | trivial, HL.out.2.2.2.2, HL.out.1, HL.out.2.1, HL.out.2.2.1, HL.out.2.2.2.1, HP, HX, (hS6.sw2.tail.sw2).sn [_]⟩
                    case measure => rw [hou, List.length_append]; simp [slen]; omega
                  · have q3 : (nx == 0) = false := beq_eq_false_iff_ne.2 hnx
                    have HX : Hid (chF most (most + 1) S first n [] [] = (90, [], [], Sk.read)) := by
                      show _ = _
                      rw [HC.out, chF_bad (z := 90) hge hf1 (by rw [k1, stepQ_bad hbp (.inr (by rw [decide_eq_false hnx, decide_eq_true hlh]; decide))]) (by decide) k2]
                    clear hbp hdl hnx
                    clear hlf hge hpk k1 k2 k3 k4 r1 r3 hlf0 hpl hf
                    go_wp2_with (first
                      | (go_at_call 62; (with_reducible refine hCo.mono ?_); rintro e w1 ⟨rfl, rfl⟩)
                      | (go_at_call 31; (with_reducible refine hRd.mono ?_); rintro e w2 ⟨bu, rfl, hS2⟩; have hrb := OwB.rd (hS2.head : OwB w2 0 bu b); obtain ⟨bA, bc, rfl, -⟩ := hrb.form)
                      | (go_at_call 20; (with_reducible refine (hDc _ _ hrb).mono ?_); rintro e w3 ⟨du, rfl, ho3, hB3⟩; have hS4 : Sep w0 w3 (bytesE du d :: benchE gb gm pvk Sk.read :: intsE u12 pages :: bytesE (.slice A out.length c) out :: L) := (hS2.bytes hB3 ho3 (Nat.le_refl _)).sw1.tail; have hrd := OwB.rd (hS4.head : OwB w3 0 du d); obtain ⟨dA, dc, rfl, -⟩ := hrd.form; clear hS2 hrb)
                      | (go_at_call 65; (with_reducible refine (hSz _ hS4.tail.head).mono ?_); rintro e w4 ⟨rfl, rfl⟩)
                      | fail)
                    go_ret3
                    rw [HX.out]
                    exact ChAt.bad (hS4.tail.sw1.tail.sw1.tail)
                · have q2 : ((d.length : Int) != lf) = true := by simp only [bne, beq_eq_false_iff_ne.2 hdl]; rfl
                  have HX : Hid (chF most (most + 1) S first n [] [] = (90, [], [], Sk.read)) := by
                    show _ = _
                    rw [HC.out, chF_bad (z := 90) hge hf1 (by rw [k1, stepQ_bad hbp (.inl (by omega))]) (by decide) k2]
                  clear hbp hdl
                  clear hlf hge hpk k1 k2 k3 k4 r1 r3 hlf0 hpl hf
                  go_wp2_with (first
                    | (go_at_call 62; (with_reducible refine hCo.mono ?_); rintro e w1 ⟨rfl, rfl⟩)
                    | (go_at_call 31; (with_reducible refine hRd.mono ?_); rintro e w2 ⟨bu, rfl, hS2⟩; have hrb := OwB.rd (hS2.head : OwB w2 0 bu b); obtain ⟨bA, bc, rfl, -⟩ := hrb.form)
                    | (go_at_call 20; (with_reducible refine (hDc _ _ hrb).mono ?_); rintro e w3 ⟨du, rfl, ho3, hB3⟩; have hS4 : Sep w0 w3 (bytesE du d :: benchE gb gm pvk Sk.read :: intsE u12 pages :: bytesE (.slice A out.length c) out :: L) := (hS2.bytes hB3 ho3 (Nat.le_refl _)).sw1.tail; have hrd := OwB.rd (hS4.head : OwB w3 0 du d); obtain ⟨dA, dc, rfl, -⟩ := hrd.form; clear hS2 hrb)
                    | (go_at_call 65; (with_reducible refine (hSz _ hS4.tail.head).mono ?_); rintro e w4 ⟨rfl, rfl⟩)
                    | fail)
                  go_ret3
                  rw [HX.out]
                  exact ChAt.bad (hS4.tail.sw1.tail.sw1.tail)
              · have i5 : (S.page : Int) - 16 < lf := by omega
                have q5 : decide (lf ≤ (S.page : Int) - 16) = false := decide_eq_false hlh
                by_cases hdl : (d.length : Int) = (S.page : Int) - 16
                · have q2 : ((d.length : Int) != (S.page : Int) - 16) = false := by rw [hdl]; simp
                  by_cases hnx : nx = 0
                  · obtain rfl := hnx
                    have HX : Hid (chF most (most + 1) S first n [] [] = (90, [], [], Sk.read)) := by
                      show _ = _
                      rw [HC.out, chF_bad (z := 90) hge hf1 (by rw [k1, stepQ_bad hbp (.inr (by rw [decide_eq_false hlh]; decide))]) (by decide) k2]
                    clear hbp hdl
                    clear hlf hge hpk k1 k2 k3 k4 r1 r3 hlf0 hpl hf
                    go_wp2_with (first
                      | (go_at_call 62; (with_reducible refine hCo.mono ?_); rintro e w1 ⟨rfl, rfl⟩)
                      | (go_at_call 31; (with_reducible refine hRd.mono ?_); rintro e w2 ⟨bu, rfl, hS2⟩; have hrb := OwB.rd (hS2.head : OwB w2 0 bu b); obtain ⟨bA, bc, rfl, -⟩ := hrb.form)
                      | (go_at_call 20; (with_reducible refine (hDc _ _ hrb).mono ?_); rintro e w3 ⟨du, rfl, ho3, hB3⟩; have hS4 : Sep w0 w3 (bytesE du d :: benchE gb gm pvk Sk.read :: intsE u12 pages :: bytesE (.slice A out.length c) out :: L) := (hS2.bytes hB3 ho3 (Nat.le_refl _)).sw1.tail; have hrd := OwB.rd (hS4.head : OwB w3 0 du d); obtain ⟨dA, dc, rfl, -⟩ := hrd.form; clear hS2 hrb)
                      | (go_at_call 65; (with_reducible refine (hSz _ hS4.tail.head).mono ?_); rintro e w4 ⟨rfl, rfl⟩)
                      | fail)
                    go_ret3
                    rw [HX.out]
                    exact ChAt.bad (hS4.tail.sw1.tail.sw1.tail)
                  · have q3 : (nx == 0) = false := beq_eq_false_iff_ne.2 hnx
                    have HX := Lib.hid (HC.out.trans (chF_next hge hf1 (by rw [k1, stepQ_ok hbp (by omega) (by rw [decide_eq_false hnx, decide_eq_false hlh])]) k3 k4))
                    clear hbp hnx
                    have ew2 : IntKind.i64.wrap (lf - (d.length : Int)) = lf - (d.length : Int) := by rw [IntKind.wrap_i64]; omega
                    have hl2 : lf - (d.length : Int) + (out ++ d).length = n := by rw [List.length_append]; omega
                    have hl3 : 0 ≤ lf - (d.length : Int) := by omega
                    have hl4 : (pages ++ [at_]).length ≤ (out ++ d).length := by rw [List.length_append, List.length_append, List.length_singleton]; omega
                    have hl5 : most + 1 ≤ (f - 1) + (out ++ d).length := by rw [List.length_append]; omega
                    have hl6 : (pages.length + 1) * 8 ≤ 140737488355328 := by omega
                    have hl7 : out.length + d.length ≤ 140737488355328 := by omega
                    have HL := Lib.hid (And.intro hl2 (And.intro hl3 (And.intro hl4 (And.intro hl5 (show i64w nx by unfold i64w; omega)))))
                    clear hl2 hl3 hl4 hl5 hdl
                    clear hlf hge hpk k1 k2 k3 k4 r1 r3 hlf0 hpl hf
                    go_wp2_with (first
                      | (go_at_call 62; (with_reducible refine hCo.mono ?_); rintro e w1 ⟨rfl, rfl⟩)
                      | (go_at_call 31; (with_reducible refine hRd.mono ?_); rintro e w2 ⟨bu, rfl, hS2⟩; have hrb := OwB.rd (hS2.head : OwB w2 0 bu b); obtain ⟨bA, bc, rfl, -⟩ := hrb.form)
                      | (go_at_call 20; (with_reducible refine (hDc _ _ hrb).mono ?_); rintro e w3 ⟨du, rfl, ho3, hB3⟩; have hS4 : Sep w0 w3 (bytesE du d :: benchE gb gm pvk Sk.read :: intsE u12 pages :: bytesE (.slice A out.length c) out :: L) := (hS2.bytes hB3 ho3 (Nat.le_refl _)).sw1.tail; have hrd := OwB.rd (hS4.head : OwB w3 0 du d); obtain ⟨dA, dc, rfl, -⟩ := hrd.form; clear hS2 hrb)
                      | (go_at_call 65; (with_reducible refine (hSz _ hS4.tail.head).mono ?_); rintro e w4 ⟨rfl, rfl⟩)
                      | (at_builtin; refine wp_append_I1 rfl (.tmp 74) (.tmp 76) rfl 0 _ _ rfl (show OwI _ 0 u12 pages from hS4.tail.tail.head) at_ _ rfl hl6 (Nat.zero_le _) ?_; intro u w5 hO5 hg5 hb5; have hS5 : Sep w0 w5 (bytesE (.slice A out.length c) out :: intsE u (pages ++ [at_]) :: bytesE (.slice dA d.length dc) d :: benchE gb gm pvk Sk.read :: L) := (hS4.sw2.appI hO5 hg5 (by rcases hb5 with e | e; exact .inl e; exact .inr ⟨_, e, by omega⟩)).sw3; clear hO5 hg5 hb5 hS4 hrd)
                      | (at_builtin; refine wp_append_B rfl (.tmp 78) (.tmp 79) rfl 0 _ _ rfl (show OwB _ 0 _ out from hS5.head) _ _ rfl (OwB.rd (hS5.tail.tail.head : OwB w5 0 _ d)) hl7 (Nat.zero_le _) ?_; intro ou w6 hO6 hg6 hb6; have hS6 : Sep w0 w6 (bytesE ou (out ++ d) :: intsE u (pages ++ [at_]) :: bytesE (.slice dA d.length dc) d :: benchE gb gm pvk Sk.read :: L) := hS5.appended hO6 hg6 hb6; have hou : slen ou = (out ++ d).length := (by obtain ⟨oA, oc, rfl, -⟩ := (OwB.rd hO6).form; rfl); clear hO6 hg6 hb6 hS5)
                      | fail)
                    go_roundw
                    case rel => exact ⟨f - 1, Sk.read, pages ++ [at_], out ++ d, pvk, nx, lf - (d.length : Int), rfl, by first | rfl | trivial, by first | rfl | trivial, HL.out.2.2.2.2, HL.out.1, HL.out.2.1, HL.out.2.2.1, HL.out.2.2.2.1, HP, HX, (hS6.sw2.tail.sw2).sn [_]⟩
                    case measure => rw [hou, List.length_append]; simp [slen]; omega
                · have q2 : ((d.length : Int) != (S.page : Int) - 16) = true := by simp only [bne, beq_eq_false_iff_ne.2 hdl]; rfl
                  have HX : Hid (chF most (most + 1) S first n [] [] = (90, [], [], Sk.read)) := by
                    show _ = _
                    rw [HC.out, chF_bad (z := 90) hge hf1 (by rw [k1, stepQ_bad hbp (.inl (by omega))]) (by decide) k2]
                  clear hbp hdl
                  clear hlf hge hpk k1 k2 k3 k4 r1 r3 hlf0 hpl hf
                  go_wp2_with (first
                    | (go_at_call 62; (with_reducible refine hCo.mono ?_); rintro e w1 ⟨rfl, rfl⟩)
                    | (go_at_call 31; (with_reducible refine hRd.mono ?_); rintro e w2 ⟨bu, rfl, hS2⟩; have hrb := OwB.rd (hS2.head : OwB w2 0 bu b); obtain ⟨bA, bc, rfl, -⟩ := hrb.form)
                    | (go_at_call 20; (with_reducible refine (hDc _ _ hrb).mono ?_); rintro e w3 ⟨du, rfl, ho3, hB3⟩; have hS4 : Sep w0 w3 (bytesE du d :: benchE gb gm pvk Sk.read :: intsE u12 pages :: bytesE (.slice A out.length c) out :: L) := (hS2.bytes hB3 ho3 (Nat.le_refl _)).sw1.tail; have hrd := OwB.rd (hS4.head : OwB w3 0 du d); obtain ⟨dA, dc, rfl, -⟩ := hrd.form; clear hS2 hrb)
                    | (go_at_call 65; (with_reducible refine (hSz _ hS4.tail.head).mono ?_); rintro e w4 ⟨rfl, rfl⟩)
                    | fail)
                  go_ret3
                  rw [HX.out]
                  exact ChAt.bad (hS4.tail.sw1.tail.sw1.tail)
            · have q1 : ((b.length : Int) != (S.page : Int)) = true := by simp only [bne, beq_eq_false_iff_ne.2 (show (b.length : Int) ≠ (S.page : Int) by omega)]; rfl
              have HX : Hid (chF most (most + 1) S first n [] [] = (60, [], [], Sk.read)) := by
                show _ = _
                rw [HC.out, chF_bad (z := 60) hge hf1 (by rw [k1, stepQ_len hbp]) (by decide) k2]
              clear hbp
              clear hlf hge hpk k1 k2 k3 k4 r1 r3 hlf0 hpl hf
              go_wp2_with (first
                | (go_at_call 62; (with_reducible refine hCo.mono ?_); rintro e w1 ⟨rfl, rfl⟩)
                | (go_at_call 31; (with_reducible refine hRd.mono ?_); rintro e w2 ⟨bu, rfl, hS2⟩; have hrb := OwB.rd (hS2.head : OwB w2 0 bu b); obtain ⟨bA, bc, rfl, -⟩ := hrb.form)
                | (go_at_call 20; (with_reducible refine (hDc _ _ hrb).mono ?_); rintro e w3 ⟨du, rfl, ho3, hB3⟩; have hS4 : Sep w0 w3 (bytesE du d :: benchE gb gm pvk Sk.read :: intsE u12 pages :: bytesE (.slice A out.length c) out :: L) := (hS2.bytes hB3 ho3 (Nat.le_refl _)).sw1.tail; have hrd := OwB.rd (hS4.head : OwB w3 0 du d); obtain ⟨dA, dc, rfl, -⟩ := hrd.form; clear hS2 hrb)
                | (go_at_call 65; (with_reducible refine (hSz _ hS4.tail.head).mono ?_); rintro e w4 ⟨rfl, rfl⟩)
                | fail)
              go_ret3
              rw [HX.out]
              exact ChAt.bad (hS4.tail.sw1.tail.sw1.tail)
    · have HX : Hid (chF most (most + 1) S first n [] [] = (0, pages, out, Sk)) := by
        show _ = _
        rw [HC.out, chF_done (by omega)]
      clear hlf
      go_wp2_with fail
      go_ret3
      rw [HX.out]
      exact ⟨_, _, _, rfl, hSk.sw1.sn [_]⟩
end
end Go.Proofs.Ytgnhakgfgdelpaa

-- spill.Read, Slice, List, Free: walks.
namespace Go.Proofs.Ytgnhakgfgdelpaa
open Go.RowKit Go.Maps
def sizeB (n : Int) : Bool := decide (1 ≤ n) && decide (n ≤ 65536)
theorem sizeB_true {n : Int} (h : sizeB n = true) : 1 ≤ n ∧ n ≤ 65536 := by unfold sizeB at h; simpa using h
theorem sizeB_false {n : Int} (h : sizeB n = false) : n < 1 ∨ 65536 < n := by
  unfold sizeB at h
  by_cases h1 : 1 ≤ n
  · by_cases h2 : n ≤ 65536
    · rw [decide_eq_true h1, decide_eq_true h2] at h; cases h
    · exact .inr (by omega)
  · exact .inl (by omega)
theorem isSize_any (n : Int) (w : World) : Calls Try.prog 46 #[.int .i64 n] w fun e w' => e = .returned (.bool (sizeB n)) ∧ w' = w := by
  by_cases h1 : 1 ≤ n
  · by_cases h2 : n ≤ 65536
    · have HV : Hid (sizeB n = true) := by show _ = _; unfold sizeB; rw [decide_eq_true h1, decide_eq_true h2]; rfl
      go_enter Try.func46, Try.ntmps46
      go_wp2_with fail
      go_ret
      rw [HV.out]
      exact ⟨rfl, rfl⟩
    · have HV : Hid (sizeB n = false) := by show _ = _; unfold sizeB; rw [decide_eq_false h2, Bool.and_false]
      go_enter Try.func46, Try.ntmps46
      go_wp2_with fail
      go_ret
      rw [HV.out]
      exact ⟨rfl, rfl⟩
  · have HV : Hid (sizeB n = false) := by show _ = _; unfold sizeB; rw [decide_eq_false h1, Bool.false_and]
    go_enter Try.func46, Try.ntmps46
    go_wp2_with fail
    go_ret
    rw [HV.out]
    exact ⟨rfl, rfl⟩
/-- What Read, List, Slice, Free say. -/
def allCh (S : BS) (first n : Int) : ChR := if sizeB n then chF n (n.toNat + 1) S first n [] [] else (31, [], [], S)
def sliceCh (S : BS) (first n from_ to_ : Int) : ChR :=
  if sizeB n = false then (31, [], [], S) else if from_ < 0 ∨ to_ < from_ ∨ n < to_ then (1, [], [], S) else if from_ = to_ then (0, [], [], S) else
  if (chF to_ (to_.toNat + 1) S first n [] []).1 = 0 then (0, [], ((chF to_ (to_.toNat + 1) S first n [] []).2.2.1.take to_.toNat).drop from_.toNat, (chF to_ (to_.toNat + 1) S first n [] []).2.2.2) else chF to_ (to_.toNat + 1) S first n [] []
def freeAll : List Int → Int → BS → Int × BS
  | [], z, S => (z, S)
  | p :: ps, _, S => if freeZ S p = 0 then freeAll ps 0 (freeS S p) else (freeZ S p, freeS S p)
def freeCh (S : BS) (first n : Int) : Int × BS := freeAll (allCh S first n).2.1 (allCh S first n).1 (allCh S first n).2.2.2
section
variable {w0 w : World} {gb gm : Nat} {pv : Int → Option Value} {S : BS} {L : List Ent}
set_option maxRecDepth 100000 in
set_option maxHeartbeats 2000000 in
theorem SRead_any (hS : Sep w0 w (benchE gb gm pv S :: L)) (first : Int) (hfi : i64w first) (n : Int) :
    Calls Try.prog 24 #[roomV gb, .int .i64 first, .int .i64 n] w fun e w' => ∃ ou pv', e = .returned (.tuple #[ou, .int .i64 (allCh S first n).1]) ∧ Sep w0 w' (bytesE ou (allCh S first n).2.2.1 :: benchE gb gm pv' (allCh S first n).2.2.2 :: L) := by
  have hSi := isSize_any n w
  cases hs : sizeB n with
  | false =>
    have HV : Hid (allCh S first n = (31, [], [], S)) := by show _ = _; unfold allCh; rw [hs]; rfl
    rw [hs] at hSi
    clear hs
    go_enter Try.func24, Try.ntmps24
    go_wp2_with (first
      | (go_at_call 46; (with_reducible refine hSi.mono ?_); rintro e w1 ⟨rfl, rfl⟩) | fail)
    go_ret2
    rw [HV.out]
    exact ⟨_, _, rfl, hS.nil⟩
  | true =>
    obtain ⟨h1, h2⟩ := sizeB_true hs
    obtain ⟨m, rfl⟩ : ∃ m : Nat, n = (m : Int) := ⟨n.toNat, by omega⟩
    have HV : Hid (allCh S first m = chF m (m + 1) S first m [] []) := by show _ = _; unfold allCh; rw [hs]; rfl
    rw [hs] at hSi
    have hC := SChain_any hS first hfi m m (by omega) (Nat.le_refl _)
    clear hs
    generalize chF m (m + 1) S first m [] [] = r at *
    go_enter Try.func24, Try.ntmps24
    go_wp2_with (first
      | (go_at_call 46; (with_reducible refine hSi.mono ?_); rintro e w1 ⟨rfl, rfl⟩)
      | (go_at_call 47; (with_reducible refine hC.mono ?_); rintro e w2 ⟨pu, ou, pv2, rfl, hS2⟩) | fail)
    go_ret2
    rw [HV.out]
    exact ⟨_, _, rfl, hS2.tail⟩
set_option maxRecDepth 100000 in
set_option maxHeartbeats 2000000 in
theorem SList_any (hS : Sep w0 w (benchE gb gm pv S :: L)) (first : Int) (hfi : i64w first) (n : Int) :
    Calls Try.prog 27 #[roomV gb, .int .i64 first, .int .i64 n] w fun e w' => ∃ pu pv', e = .returned (.tuple #[pu, .int .i64 (allCh S first n).1]) ∧ Sep w0 w' (intsE pu (allCh S first n).2.1 :: benchE gb gm pv' (allCh S first n).2.2.2 :: L) := by
  have hSi := isSize_any n w
  cases hs : sizeB n with
  | false =>
    have HV : Hid (allCh S first n = (31, [], [], S)) := by show _ = _; unfold allCh; rw [hs]; rfl
    rw [hs] at hSi
    clear hs
    go_enter Try.func27, Try.ntmps27
    go_wp2_with (first
      | (go_at_call 46; (with_reducible refine hSi.mono ?_); rintro e w1 ⟨rfl, rfl⟩) | fail)
    go_ret2
    rw [HV.out]
    exact ⟨_, _, rfl, hS.nilI⟩
  | true =>
    obtain ⟨h1, h2⟩ := sizeB_true hs
    obtain ⟨m, rfl⟩ : ∃ m : Nat, n = (m : Int) := ⟨n.toNat, by omega⟩
    have HV : Hid (allCh S first m = chF m (m + 1) S first m [] []) := by show _ = _; unfold allCh; rw [hs]; rfl
    rw [hs] at hSi
    have hC := SChain_any hS first hfi m m (by omega) (Nat.le_refl _)
    clear hs
    generalize chF m (m + 1) S first m [] [] = r at *
    go_enter Try.func27, Try.ntmps27
    go_wp2_with (first
      | (go_at_call 46; (with_reducible refine hSi.mono ?_); rintro e w1 ⟨rfl, rfl⟩)
      | (go_at_call 47; (with_reducible refine hC.mono ?_); rintro e w2 ⟨pu, ou, pv2, rfl, hS2⟩) | fail)
    go_ret2
    rw [HV.out]
    exact ⟨_, _, rfl, hS2.sw1.tail⟩
set_option maxRecDepth 100000 in
set_option maxHeartbeats 4000000 in
theorem SSlice_any (hS : Sep w0 w (benchE gb gm pv S :: L)) (first : Int) (hfi : i64w first) (n from_ to_ : Int) (hfr : i64w from_) (hto : i64w to_) :
    Calls Try.prog 25 #[roomV gb, .int .i64 first, .int .i64 n, .int .i64 from_, .int .i64 to_] w fun e w' => ∃ ou pv', e = .returned (.tuple #[ou, .int .i64 (sliceCh S first n from_ to_).1]) ∧ Sep w0 w' (bytesE ou (sliceCh S first n from_ to_).2.2.1 :: benchE gb gm pv' (sliceCh S first n from_ to_).2.2.2 :: L) := by
  have hSi := isSize_any n w
  cases hs : sizeB n with
  | false =>
    have HV : Hid (sliceCh S first n from_ to_ = (31, [], [], S)) := by show _ = _; unfold sliceCh; rw [if_pos hs]
    rw [hs] at hSi
    clear hs
    go_enter Try.func25, Try.ntmps25
    go_wp2_with (first
      | (go_at_call 46; (with_reducible refine hSi.mono ?_); rintro e w1 ⟨rfl, rfl⟩) | fail)
    go_ret2
    rw [HV.out]
    exact ⟨_, _, rfl, hS.nil⟩
  | true =>
    obtain ⟨h1, h2⟩ := sizeB_true hs
    rw [hs] at hSi
    by_cases hb : from_ < 0 ∨ to_ < from_ ∨ n < to_
    · have HV : Hid (sliceCh S first n from_ to_ = (1, [], [], S)) := by show _ = _; unfold sliceCh; rw [if_neg (by rw [hs]; simp), if_pos hb]
      clear hs
      by_cases b1 : from_ < 0
      · clear hb
        go_enter Try.func25, Try.ntmps25
        go_wp2_with (first
          | (go_at_call 46; (with_reducible refine hSi.mono ?_); rintro e w1 ⟨rfl, rfl⟩) | fail)
        go_ret2
        rw [HV.out]
        exact ⟨_, _, rfl, hS.nil⟩
      · by_cases b2 : to_ < from_
        · clear hb
          go_enter Try.func25, Try.ntmps25
          go_wp2_with (first
            | (go_at_call 46; (with_reducible refine hSi.mono ?_); rintro e w1 ⟨rfl, rfl⟩) | fail)
          go_ret2
          rw [HV.out]
          exact ⟨_, _, rfl, hS.nil⟩
        · have b3 : n < to_ := by omega
          clear hb
          go_enter Try.func25, Try.ntmps25
          go_wp2_with (first
            | (go_at_call 46; (with_reducible refine hSi.mono ?_); rintro e w1 ⟨rfl, rfl⟩) | fail)
          go_ret2
          rw [HV.out]
          exact ⟨_, _, rfl, hS.nil⟩
    · have b1 : ¬ from_ < 0 := by omega
      have b2 : ¬ to_ < from_ := by omega
      have b3 : ¬ n < to_ := by omega
      by_cases he : from_ = to_
      · have HV : Hid (sliceCh S first n from_ to_ = (0, [], [], S)) := by show _ = _; unfold sliceCh; rw [if_neg (by rw [hs]; simp), if_neg hb, if_pos he]
        have e1 : (from_ == to_) = true := by rw [he]; simp
        clear hs hb he
        go_enter Try.func25, Try.ntmps25
        go_wp2_with (first
          | (go_at_call 46; (with_reducible refine hSi.mono ?_); rintro e w1 ⟨rfl, rfl⟩) | fail)
        go_ret2
        rw [HV.out]
        exact ⟨_, _, rfl, hS.nil⟩
      · have e1 : (from_ == to_) = false := beq_eq_false_iff_ne.2 he
        obtain ⟨m, rfl⟩ : ∃ m : Nat, n = (m : Int) := ⟨n.toNat, by omega⟩
        obtain ⟨lo, rfl⟩ : ∃ m : Nat, from_ = (m : Int) := ⟨from_.toNat, by omega⟩
        obtain ⟨hi, rfl⟩ : ∃ m : Nat, to_ = (m : Int) := ⟨to_.toNat, by omega⟩
        have HV : Hid (sliceCh S first m lo hi = if (chF hi (hi + 1) S first m [] []).1 = 0 then (0, [], ((chF hi (hi + 1) S first m [] []).2.2.1.take hi).drop lo, (chF hi (hi + 1) S first m [] []).2.2.2) else chF hi (hi + 1) S first m [] []) := by
          show _ = _; unfold sliceCh; rw [if_neg (by rw [hs]; simp), if_neg hb, if_neg he]; rfl
        have hC := SChain_any hS first hfi m hi (by omega) (by omega)
        obtain ⟨c1, c2, -⟩ := chF_facts (most := hi) (by omega) (hi + 1) S first m [] [] (by simp) hfi (fun p h => by cases h)
        clear hs hb he
        generalize chF hi (hi + 1) S first m [] [] = r at *
        obtain ⟨z, ps, out, S2⟩ := r
        by_cases hz : z = 0
        · subst hz
          have HV2 : Hid (sliceCh S first m lo hi = (0, [], (out.take hi).drop lo, S2)) := by show _ = _; rw [HV.out]; rfl
          have c3 : (hi : Int) ≤ (out.length : Int) := c1 rfl
          clear HV c1 c2
          have i1 : (0 : Int) ≤ (lo : Int) := by omega
          have i2 : (lo : Int) ≤ (hi : Int) := by omega
          have HN2 := Lib.hid (show lo ≤ hi ∧ hi ≤ out.length ∧ hi ≤ 65536 by omega)
          go_enter Try.func25, Try.ntmps25
          go_wp2_with (first
            | (go_at_call 46; (with_reducible refine hSi.mono ?_); rintro e w1 ⟨rfl, rfl⟩)
            | (go_at_call 47; (with_reducible refine hC.mono ?_); rintro e w2 ⟨pu, ou, pv2, rfl, hS2⟩; have hr2 := OwB.rd (hS2.tail.head : OwB w2 0 ou out); obtain ⟨A, c, rfl, -⟩ := hr2.form; obtain ⟨A2, c2, q2, hr3⟩ := hr2.run_lh lo hi HN2.out.1 HN2.out.2.1)
            | (go_at_call 42; (with_reducible refine (CloneB_any _ _ _ hr3 (by have := HN2.out; rw [List.length_drop, List.length_take]; omega)).mono ?_); rintro e w3 ⟨u3, rfl, ho3, hB3⟩)
            | fail)
          go_ret2
          rw [HV2.out]
          exact ⟨_, _, rfl, (hS2.bytes hB3 ho3 (Nat.le_refl _)).sw1.tail.sw1.tail⟩
        · have HV2 : Hid (sliceCh S first m lo hi = (z, ps, out, S2)) := by show _ = _; rw [HV.out, if_neg hz]
          have e2 : (z != 0) = true := by simp only [bne, beq_eq_false_iff_ne.2 hz]; rfl
          obtain ⟨c3, c4⟩ := c2 hz
          have c4 : out = [] := c4
          subst c4
          clear HV c1 c2 hz
          go_enter Try.func25, Try.ntmps25
          go_wp2_with (first
            | (go_at_call 46; (with_reducible refine hSi.mono ?_); rintro e w1 ⟨rfl, rfl⟩)
            | (go_at_call 47; (with_reducible refine hC.mono ?_); rintro e w2 ⟨pu, ou, pv2, rfl, hS2⟩)
            | fail)
          go_ret2
          rw [HV2.out]
          exact ⟨_, _, rfl, hS2.tail.tail.nil⟩
set_option maxRecDepth 100000 in
set_option maxHeartbeats 4000000 in
theorem SFree_any (hS : Sep w0 w (benchE gb gm pv S :: L)) (first : Int) (hfi : i64w first) (n : Int) :
    Calls Try.prog 26 #[roomV gb, .int .i64 first, .int .i64 n] w fun e w' => ∃ pv', e = .returned (.int .i64 (freeCh S first n).1) ∧ Sep w0 w' (benchE gb gm pv' (freeCh S first n).2 :: L) := by
  have hLi := SList_any hS first hfi n
  have HV : Hid (freeCh S first n = freeAll (allCh S first n).2.1 (allCh S first n).1 (allCh S first n).2.2.2) := Lib.hid rfl
  have hpi : ∀ p ∈ (allCh S first n).2.1, i64w p := by
    unfold allCh
    cases hs : sizeB n with
    | false => intro p hp; simp at hp
    | true => exact (chF_facts (by have := (sizeB_true hs).1; omega) (n.toNat + 1) S first n [] [] (by simp) hfi (fun p h => by cases h)).2.2
  generalize allCh S first n = r at *
  obtain ⟨z, ps, out, S2⟩ := r
  have hpi : ∀ p ∈ ps, i64w p := hpi
  have HV : Hid (freeCh S first n = freeAll ps z S2) := HV
  have hrf := rm_free (.pointer (some ⟨gb, 0, none⟩))
  have HPI := Lib.hid hpi
  clear hpi
  go_enter Try.func26, Try.ntmps26
  go_upto_region 3 with (first
    | (go_at_call 27; (with_reducible refine hLi.mono ?_); rintro e w2 ⟨pu, pv2, rfl, hS2⟩; have hr2 := OwI.rd (hS2.head : OwI w2 0 pu ps); obtain ⟨A, c, rfl, hm, hcm⟩ := hr2.form; clear hr2)
    | fail)
  go_loopw [8, 20] (fun ze i wr => ∃ (k : Nat) (Sk : BS) (pvk : Int → Option Value) (zk : Int), k ≤ ps.length ∧ ze = .int .i64 zk ∧ i = .int .i64 (k : Int) ∧ Hid (freeAll ps z S2 = freeAll (ps.drop k) zk Sk) ∧
    Sep w0 wr (intsE (.slice A ps.length c) ps :: benchE gb gm pvk Sk :: L)) (fun _ i _ => ps.length - (intOf i).toNat)
  case atStart => exact ⟨0, S2, pv2, z, Nat.zero_le _, rfl, rfl, Lib.hid rfl, hS2⟩
  case round =>
    clear hS hS2
    obtain ⟨k, Sk, pvk, zk, hk, rfl, rfl, HF, hSk⟩ := hrel
    by_cases hlt : k < ps.length
    · have i1 : (k : Int) < (ps.length : Int) := by omega
      have hrk : RdI wr (.slice A ps.length c) ps := OwI.rd (hSk.head : OwI wr 0 (.slice A ps.length c) ps)
      obtain ⟨ad, rfl, hcell⟩ := hrk.at_ hlt
      have hpk := HPI.out _ (List.getElem_mem hlt)
      have HK1 := Lib.hid (And.intro hlt (Nat.le_trans hm hcm))
      have ewk : IntKind.i64.wrap ((k : Int) + 1) = (k : Int) + 1 := by rw [IntKind.wrap_i64]; omega
      have hB := BFree_any hSk.sw1 ps[k] hpk
      have hdr := List.drop_eq_getElem_cons hlt
      generalize ps[k] = p at *
      by_cases hz : freeZ Sk p = 0
      · have HX : Hid (freeAll ps z S2 = freeAll (ps.drop (k + 1)) 0 (freeS Sk p)) := by
          show _ = _
          rw [HF.out, hdr, freeAll, if_pos hz]
        rw [hz] at hB
        clear hdr hz hrk hpk
        go_wp2_with (first
          | (go_at_call 66; (with_reducible refine hB.mono ?_); rintro e w3 ⟨rfl, pv3, hS3⟩)
          | fail)
        go_roundw
        case rel => exact ⟨k + 1, _, pv3, 0, HK1.out.1, by first | rfl | trivial, by have := HK1.out; go_num, HX, hS3.sw1⟩
        case measure => have := HK1.out; first | (simp [intOf]; omega) | (simp [intOf, ewk]; omega)
      · have HX : Hid (freeCh S first n = (freeZ Sk p, freeS Sk p)) := by
          show _ = _
          rw [HV.out, HF.out, hdr, freeAll, if_neg hz]
        have e2 : (freeZ Sk p != 0) = true := by simp only [bne, beq_eq_false_iff_ne.2 hz]; rfl
        generalize freeZ Sk p = zz at *
        clear hdr hz hrk hpk
        go_wp2_with (first
          | (go_at_call 66; (with_reducible refine hB.mono ?_); rintro e w3 ⟨rfl, pv3, hS3⟩)
          | fail)
        go_ret
        rw [HX.out]
        exact ⟨_, rfl, hS3.sw1.tail⟩
    · obtain rfl : k = ps.length := by omega
      have HX : Hid (freeCh S first n = (zk, Sk)) := by
        show _ = _
        rw [HV.out, HF.out, List.drop_length]; rfl
      go_wp2_with fail
      go_ret
      rw [HX.out]
      exact ⟨_, rfl, hSk.tail⟩
end
end Go.Proofs.Ytgnhakgfgdelpaa

-- What is written into a chain is read, and freed: plain laws.
namespace Go.Proofs.Ytgnhakgfgdelpaa
open Go.RowKit
/-- The same bench, but for the count of reads. -/
structure Like (S S' : BS) : Prop where
  eng : S'.eng = S.eng
  page : S'.page = S.page
  pages : S'.pages = S.pages
  held : S'.held = S.held
theorem Like.refl (S : BS) : Like S S := ⟨rfl, rfl, rfl, rfl⟩
theorem Like.trans {a b c : BS} (h : Like a b) (k : Like b c) : Like a c := ⟨k.eng.trans h.eng, k.page.trans h.page, k.pages.trans h.pages, k.held.trans h.held⟩
theorem Like.ok {S S' : BS} (h : Like S S') (k : okB S) : okB S' := ⟨by rw [h.page]; exact k.page, by rw [h.pages]; exact k.lo, by rw [h.pages]; exact k.hi, by rw [h.held, h.pages]; exact k.dom, by rw [h.held]; exact k.len⟩
theorem Like.taken {S S' : BS} (h : Like S S') : takenF S' = takenF S := by unfold takenF takenTo; rw [h.held, h.pages]
theorem Like.cnt {S S' : BS} (h : Like S S') : cntB S' = cntB S := by unfold cntB; rw [h.held, h.pages]
structure HoldsV (S : BS) (l : List Int) (v : List UInt8) : Prop where
  len : l.length = nCh v.length (S.page - 16)
  nodup : l.Nodup
  rng : ∀ n ∈ l, 2 ≤ n ∧ n < 65536
  held : ∀ i (h : i < l.length), S.held l[i] = some (laidS (nextP l i) (pieceF v (S.page - 16) i) S.page)
theorem HoldsV.like {S S' : BS} {l : List Int} {v : List UInt8} (h : HoldsV S l v) (k : Like S S') : HoldsV S' l v :=
  ⟨by rw [k.page]; exact h.len, h.nodup, h.rng, fun i hi => by rw [k.held, k.page]; exact h.held i hi⟩
theorem HoldsV.only {S S' : BS} {l : List Int} {v : List UInt8} (h : HoldsV S l v) (hp : S'.page = S.page) (k : ∀ n ∈ l, S'.held n = S.held n) : HoldsV S' l v :=
  ⟨by rw [hp]; exact h.len, h.nodup, h.rng, fun i hi => by rw [k _ (List.getElem_mem hi), hp]; exact h.held i hi⟩
theorem decS_laidS {next : Int} {d : List UInt8} {P : Nat} (h : spZ next d (P : Int) = 0) : decS (laidS next d P) = some (next, d) := by
  obtain ⟨h1, h2, h3⟩ := parse_laidS h
  obtain ⟨k1, k2, k3, k4, k5, k6⟩ := spZ_zero h
  have hl : (laidS next d P).length = P := laidS_length (by omega)
  unfold decS
  rw [h1, h2, h3, hl, if_pos ⟨k1, by omega, h, rfl⟩]
theorem nextP_zero {l : List Int} {k : Nat} (hr : ∀ n ∈ l, 2 ≤ n ∧ n < 65536) (hk : k < l.length) : nextP l k = 0 ↔ k + 1 = l.length := by
  unfold nextP
  rw [List.getD_eq_getElem?_getD]
  rcases Nat.lt_or_ge (k + 1) l.length with h1 | h1
  · rw [List.getElem?_eq_getElem h1]
    have := hr _ (List.getElem_mem h1)
    simp only [Option.getD_some]
    omega
  · rw [List.getElem?_eq_none h1]
    exact ⟨fun _ => by omega, fun _ => rfl⟩
theorem nextP_rng2 {l : List Int} (hr : ∀ n ∈ l, 2 ≤ n ∧ n < 65536) (k : Nat) : nextP l k = 0 ∨ (2 ≤ nextP l k ∧ nextP l k < 65536) := by
  unfold nextP
  rw [List.getD_eq_getElem?_getD]
  rcases Nat.lt_or_ge (k + 1) l.length with h1 | h1
  · rw [List.getElem?_eq_getElem h1]
    exact .inr (hr _ (List.getElem_mem h1))
  · rw [List.getElem?_eq_none h1]; exact .inl rfl
theorem nCh_last {len h k : Nat} (hh : 1 ≤ h) (hk : k < nCh len h) : k + 1 = nCh len h ↔ len - k * h ≤ h := by
  have h1 := nCh_lt (len := len) (k := k) hh
  have h2 := nCh_lt (len := len) (k := k + 1) hh
  rw [Nat.add_mul, Nat.one_mul] at h2
  omega
theorem getD_at {l : List Int} {i : Nat} (h : i < l.length) : l.getD i 0 = l[i] := by
  rw [List.getD_eq_getElem?_getD, List.getElem?_eq_getElem h]; rfl
theorem piece_take (v : List UInt8) (h i : Nat) : v.take (i * h) ++ pieceF v h i = v.take ((i + 1) * h) := by
  unfold pieceF mCh
  rw [Nat.add_mul, Nat.one_mul, List.take_add]
  congr 1
  rcases Nat.le_total h (v.length - i * h) with h1 | h1
  · rw [Nat.min_eq_left h1]
  · rw [Nat.min_eq_right h1, List.take_of_length_le (by rw [List.length_drop]; exact Nat.le_refl _), List.take_of_length_le (by rw [List.length_drop]; exact h1)]
/-- One step along a chain that holds v, seen as one of n bytes. -/
theorem step_law {S : BS} {l : List Int} {v : List UInt8} (hok : okB S) (h : HoldsV S l v) {i : Nat} (hi : i < l.length) (left : Int) :
    stepZ S l[i] left (l.take i) = (if ((pieceF v (S.page - 16) i).length : Int) ≠ min left ((S.page : Int) - 16) ∨ decide (nextP l i = 0) ≠ decide (left ≤ (S.page : Int) - 16) then 90 else 0) ∧
    stepS S l[i] (l.take i) = S.read ∧ stepN S l[i] = nextP l i ∧ stepD S l[i] = pieceF v (S.page - 16) i := by
  obtain ⟨hp1, hp2⟩ := isPowB_range hok.page
  have hni : l[i] ∉ l.take i := by
    intro hm
    obtain ⟨j, hj, he⟩ := List.getElem_of_mem hm
    rw [List.length_take] at hj
    rw [List.getElem_take] at he
    have := (List.pairwise_iff_getElem.1 h.nodup) j i (by omega) hi (by omega)
    exact this he
  have hpr := piece_rng (v := v) (h := S.page - 16) (k := i) (by omega) (by rw [← h.len]; exact hi)
  have hz := spZ_piece hok.page (nextP_rng2 h.rng i) hpr.1 hpr.2
  have hd := decS_laidS hz
  have hl : (laidS (nextP l i) (pieceF v (S.page - 16) i) S.page).length = S.page := laidS_length (by omega)
  obtain ⟨k1, k2, k3, k4⟩ := step_some (left := left) hni (h.held i hi)
  rw [hd, hl] at k1
  obtain ⟨d1, d2, -⟩ := dec_some hd
  rw [d1] at k3
  rw [d2] at k4
  refine ⟨?_, k2, k3, k4⟩
  rw [k1]
  by_cases hc : ((pieceF v (S.page - 16) i).length : Int) ≠ min left ((S.page : Int) - 16) ∨ decide (nextP l i = 0) ≠ decide (left ≤ (S.page : Int) - 16)
  · rw [if_pos hc, stepQ_bad rfl hc]
  · rw [if_neg hc, stepQ_ok rfl (Classical.byContradiction fun e => hc (.inl e)) (Classical.byContradiction fun e => hc (.inr e))]
theorem read_like (S : BS) : Like S S.read := ⟨rfl, rfl, rfl, rfl⟩
/-- A chain that holds v is read, as far as is asked. -/
theorem chF_from {S0 : BS} {l : List Int} {v : List UInt8} (hok : okB S0) (h : HoldsV S0 l v) {most : Nat} (hm : most ≤ v.length) : ∀ (k i f : Nat) (S : BS), i + k = nCh most (S0.page - 16) → Like S0 S → k + 1 ≤ f →
    ∃ S', chF (most : Int) f S (l.getD i 0) ((v.length : Int) - (i * (S0.page - 16) : Nat)) (l.take i) (v.take (i * (S0.page - 16))) = (0, l.take (i + k), v.take ((i + k) * (S0.page - 16)), S') ∧ Like S0 S' := by
  obtain ⟨hp1, hp2⟩ := isPowB_range hok.page
  intro k
  induction k with
  | zero =>
    intro i f S hk hS _
    refine ⟨S, ?_, hS⟩
    rw [Nat.add_zero, chF_done]
    have h1 := nCh_lt (len := most) (h := S0.page - 16) (k := i) (by omega)
    rw [List.length_take]
    omega
  | succ k ih =>
    intro i f S hk hS hf
    have hh1 : 1 ≤ S0.page - 16 := by omega
    have hlt : i < nCh most (S0.page - 16) := by omega
    have h1 := (nCh_lt hh1).1 hlt
    have hiv : i < nCh v.length (S0.page - 16) := (nCh_lt hh1).2 (by omega)
    have hil : i < l.length := by rw [h.len]; exact hiv
    have hlast := nCh_last hh1 hiv
    have hout : (v.take (i * (S0.page - 16))).length = i * (S0.page - 16) := by rw [List.length_take]; omega
    obtain ⟨s1, s2, s3, s4⟩ := step_law (hS.ok hok) (h.like hS) hil ((v.length : Int) - (i * (S0.page - 16) : Nat))
    rw [hS.page] at s1 s4
    have hpl := pieceF_length v (S0.page - 16) i
    have hmc : mCh v.length (S0.page - 16) i = min (S0.page - 16) (v.length - i * (S0.page - 16)) := rfl
    have hnz := nextP_zero h.rng hil
    rw [h.len] at hnz
    rw [if_neg] at s1
    · rw [getD_at hil, chF_next (by rw [hout]; omega) (by omega) s1 s3 s4]
      have e1 : l.take i ++ [l[i]] = l.take (i + 1) := by rw [List.take_succ_eq_append_getElem hil]
      rw [e1, piece_take]
      by_cases hk0 : k = 0
      · subst hk0
        refine ⟨S.read, ?_, hS.trans (read_like S)⟩
        have h3 := nCh_lt (len := most) (h := S0.page - 16) (k := i + 1) hh1
        rw [chF_done]
        rw [List.length_take]
        omega
      · have h3 := (nCh_lt (len := most) (h := S0.page - 16) (k := i + 1) hh1).1 (by omega)
        have h4 : i + 1 < l.length := by rw [h.len]; exact (nCh_lt hh1).2 (by omega)
        obtain ⟨S', e, hS'⟩ := ih (i + 1) (f - 1) S.read (by omega) (hS.trans (read_like S)) (by omega)
        refine ⟨S', ?_, hS'⟩
        rw [show i + (k + 1) = i + 1 + k by omega, ← e]
        have hnx : nextP l i = l.getD (i + 1) 0 := rfl
        rw [hnx]
        congr 1
        rw [hpl, hmc]
        have h5 : (i + 1) * (S0.page - 16) = i * (S0.page - 16) + (S0.page - 16) := by rw [Nat.add_mul, Nat.one_mul]
        omega
    · rintro (hc | hc)
      · apply hc
        rw [hpl, hmc]
        omega
      · apply hc
        rw [decide_eq_decide, hnz, hlast]
        omega
theorem chF_law {S : BS} {l : List Int} {v : List UInt8} (hok : okB S) (h : HoldsV S l v) {most : Nat} (hm : most ≤ v.length) (hv : v.length ≤ 65536) :
    ∃ S', chF (most : Int) (most + 1) S (l.getD 0 0) v.length [] [] = (0, l.take (nCh most (S.page - 16)), v.take (nCh most (S.page - 16) * (S.page - 16)), S') ∧ Like S S' := by
  obtain ⟨hp1, hp2⟩ := isPowB_range hok.page
  have hn : nCh most (S.page - 16) ≤ most := by
    rcases Nat.lt_or_ge most (nCh most (S.page - 16)) with h1 | h1
    · have := (nCh_lt (len := most) (h := S.page - 16) (k := most) (by omega)).1 h1
      have := Nat.le_mul_of_pos_right most (show 0 < S.page - 16 by omega)
      omega
    · exact h1
  obtain ⟨S', e, hS'⟩ := chF_from hok h hm (nCh most (S.page - 16)) 0 (most + 1) S (by omega) (Like.refl S) (by omega)
  refine ⟨S', ?_, hS'⟩
  rw [Nat.zero_mul, List.take_zero, List.take_zero, Nat.zero_add] at e
  rw [← e]
  simp
end Go.Proofs.Ytgnhakgfgdelpaa

-- What Write and Free of a long value do to a bench: plain laws.
namespace Go.Proofs.Ytgnhakgfgdelpaa
open Go.RowKit
theorem cnt_full {S : BS} (h : allocF S = none) : S.pages ≤ cntB S + 2 := by
  unfold allocF at h
  rw [List.find?_eq_none] at h
  have h2 : ∀ N, N ≤ S.pages → N ≤ ((List.range N).filter fun (n : Nat) => (S.held n).isSome).length + 2 := by
    intro N
    induction N with
    | zero => intro _; omega
    | succ N ih =>
      intro hN
      have h1 := ih (by omega)
      rw [List.range_succ, List.filter_append, List.length_append]
      rcases Nat.lt_or_ge N 2 with h3 | h3
      · omega
      · have h4 := h N (List.mem_range.2 (by omega))
        simp only [freeAt, decide_eq_true h3, Bool.true_and, Bool.not_eq_true] at h4
        have h5 : (S.held (N : Int)).isSome = true := by
          cases e : S.held (N : Int) with
          | none => rw [e] at h4; cases h4
          | some l => rfl
        have h6 : ([N].filter fun (n : Nat) => (S.held n).isSome) = [N] := by simp [h5]
        rw [h6, List.length_singleton]
        omega
  exact h2 S.pages (Nat.le_refl _)
structure Alloc (S S' : BS) (l : List Int) : Prop where
  eng : S'.eng = S.eng
  page : S'.page = S.page
  pages : S'.pages = S.pages
  nodup : l.Nodup
  rng : ∀ n ∈ l, 2 ≤ n ∧ n < S.pages
  old : ∀ n ∈ l, S.held n = none
  new : ∀ n ∈ l, S'.held n ≠ none
  rest : ∀ n, n ∉ l → S'.held n = S.held n
  cnt : cntB S' = cntB S + l.length
  ok : okB S'
theorem allocN_law : ∀ (k : Nat) (S : BS) (l : List Int), okB S → cntB S + k + 2 ≤ S.pages → ∃ l' S', allocN k S l = (some (l ++ l'), S') ∧ l'.length = k ∧ Alloc S S' l'
  | 0, S, l, hok, _ => ⟨[], S, by rw [List.append_nil]; rfl, rfl, rfl, rfl, rfl, List.nodup_nil, fun _ h => (by cases h), fun _ h => (by cases h), fun _ h => (by cases h), fun _ _ => rfl, rfl, hok⟩
  | k + 1, S, l, hok, hc => by
    cases e : allocF S with
    | none => have := cnt_full e; omega
    | some n =>
      obtain ⟨h1, h2, h3⟩ := allocF_spec e
      have hp := isPowB_range hok.page
      have hok2 : okB (S.put n (some (List.replicate S.page 0))) := hok.put (fun _ => by omega) (fun l' hl' => by obtain rfl := Option.some.inj hl'; rw [List.length_replicate]; omega)
      have hcp := cntB_put (S := S) (n := (n : Int)) (some (List.replicate S.page 0)) (by omega) (by omega)
      rw [h3] at hcp
      simp at hcp
      obtain ⟨l', S', h4, h5, h6⟩ := allocN_law k (S.put n (some (List.replicate S.page 0))) (l ++ [(n : Int)]) hok2 (by rw [hcp]; show _ ≤ S.pages; omega)
      have hn : (n : Int) ∉ l' := fun hm => by have := h6.old _ hm; simp [BS.put] at this
      have hput : ∀ m, m ≠ (n : Int) → (S.put n (some (List.replicate S.page 0))).held m = S.held m := fun m hm => by unfold BS.put; simp only [if_neg hm]
      refine ⟨(n : Int) :: l', S', ?_, by rw [List.length_cons, h5], h6.eng, h6.page, h6.pages, List.nodup_cons.2 ⟨hn, h6.nodup⟩, fun m hm => ?_, fun m hm => ?_, fun m hm => ?_, fun m hm => ?_, ?_, h6.ok⟩
      · rw [allocN, e]
        show allocN k _ _ = _
        rw [h4, List.append_assoc]; rfl
      · rcases List.mem_cons.1 hm with rfl | hm
        · omega
        · exact h6.rng m hm
      · rcases List.mem_cons.1 hm with rfl | hm
        · exact h3
        · rw [← hput m (fun e => hn (e ▸ hm))]; exact h6.old m hm
      · rcases List.mem_cons.1 hm with rfl | hm
        · rw [h6.rest _ hn]; simp [BS.put]
        · exact h6.new m hm
      · rw [List.mem_cons, not_or] at hm
        rw [h6.rest m hm.2, hput m hm.1]
      · rw [h6.cnt, hcp, List.length_cons]; omega
theorem putTo_law {S : BS} {l : List Int} {v : List UInt8} (hok : okB S) (hn : l.Nodup) (hr : ∀ n ∈ l, 2 ≤ n ∧ n < S.pages) (hh : ∀ n ∈ l, S.held n ≠ none) (hl : l.length = nCh v.length (S.page - 16)) : ∀ k, k ≤ l.length →
    okB (putTo S l v k) ∧ cntB (putTo S l v k) = cntB S ∧ (putTo S l v k).eng = S.eng ∧ (∀ i (hi : i < l.length), i < k → (putTo S l v k).held l[i] = some (laidS (nextP l i) (pieceF v (S.page - 16) i) S.page)) ∧ ∀ m, m ∉ l → (putTo S l v k).held m = S.held m
  | 0, _ => ⟨hok, rfl, rfl, fun _ _ h => absurd h (Nat.not_lt_zero _), fun _ _ => rfl⟩
  | k + 1, hk => by
    obtain ⟨h1, h2, h3, h4, h5⟩ := putTo_law hok hn hr hh hl k (by omega)
    obtain ⟨hp1, hp2⟩ := isPowB_range hok.page
    obtain ⟨q1, q2⟩ := putTo_page S l v k
    have hkl : k < l.length := by omega
    have hm := List.getElem_mem hkl
    have hpr := piece_rng (v := v) (h := S.page - 16) (k := k) (by omega) (by omega)
    have hll : (laidS (nextP l k) (pieceF v (S.page - 16) k) S.page).length = S.page := laidS_length (by omega)
    have hrk := hr _ hm
    have hsk := putTo_held (l := l) (v := v) (hh _ hm) k
    have e : putTo S l v (k + 1) = (putTo S l v k).put l[k] (some (laidS (nextP l k) (pieceF v (S.page - 16) k) S.page)) := by rw [putTo, getD_at hkl]
    rw [e]
    have hput : ∀ m, m ≠ l[k] → ((putTo S l v k).put l[k] (some (laidS (nextP l k) (pieceF v (S.page - 16) k) S.page))).held m = (putTo S l v k).held m := fun m hm => by unfold BS.put; simp only [if_neg hm]
    refine ⟨h1.put (fun _ => by rw [q2]; exact hrk) (fun l' hl' => by obtain rfl := Option.some.inj hl'; rw [hll]; omega), ?_, h3, fun i hi hik => ?_, fun m hm2 => ?_⟩
    · have := cntB_put (S := putTo S l v k) (n := l[k]) (some (laidS (nextP l k) (pieceF v (S.page - 16) k) S.page)) (by omega) (by rw [q2]; omega)
      rw [Option.isSome_iff_ne_none.2 hsk] at this
      simp at this
      rw [this, h2]
    · by_cases hik2 : i = k
      · subst hik2; unfold BS.put; simp
      · rw [hput _ (fun e => (List.pairwise_iff_getElem.1 hn) i k hi hkl (by omega) e)]
        exact h4 i hi (by omega)
    · rw [hput m (fun e => hm2 (e ▸ hm)), h5 m hm2]
/-- What Write of a value does, where there is room. -/
theorem wrF_law {S : BS} {v : List UInt8} (hok : okB S) (h1 : 1 ≤ v.length) (h2 : v.length ≤ 65536) (hc : cntB S + nCh v.length (S.page - 16) + 2 ≤ S.pages) :
    ∃ l S', wrF S v = (l.getD 0 0, 0, S') ∧ HoldsV S' l v ∧ Alloc S S' l := by
  have hb : ¬ (v.length < 1 ∨ 65536 < v.length) := by omega
  rw [wrF_ok hok.page hb, if_neg (by unfold spareF; rw [decide_eq_true (by omega)]; simp)]
  obtain ⟨l, S', e, hl, hA⟩ := allocN_law (nCh v.length (S.page - 16)) S [] hok hc
  rw [e, List.nil_append]
  have hl' : l.length = nCh v.length (S'.page - 16) := by rw [hA.page, hl]
  obtain ⟨k1, k2, k3, k4, k5⟩ := putTo_law (v := v) hA.ok hA.nodup (by rw [hA.pages]; exact hA.rng) hA.new hl' l.length (Nat.le_refl _)
  obtain ⟨q1, q2⟩ := putTo_page S' l v l.length
  have hhi := hok.hi
  refine ⟨l, putTo S' l v l.length, by rw [← hl]; rfl, ⟨by rw [q1]; exact hl', hA.nodup, fun n hn => by have := hA.rng n hn; omega, fun i hi => by rw [q1]; exact k4 i hi hi⟩, ⟨k3.trans hA.eng, q1.trans hA.page, q2.trans hA.pages, hA.nodup, hA.rng, hA.old, fun n hn => putTo_held (hA.new n hn) _, fun n hn => (k5 n hn).trans (hA.rest n hn), k2.trans hA.cnt, k1⟩⟩
/-- What Free of pages that are there does. -/
theorem freeAll_law : ∀ (l : List Int) (z : Int) (S : BS), okB S → l.Nodup → (∀ n ∈ l, S.held n ≠ none) → ∃ S', freeAll l z S = (if l = [] then z else 0, S') ∧ S'.eng = S.eng ∧ S'.page = S.page ∧ S'.pages = S.pages ∧ okB S' ∧ (∀ n ∈ l, S'.held n = none) ∧ ∀ n, n ∉ l → S'.held n = S.held n
  | [], z, S, hok, _, _ => ⟨S, rfl, rfl, rfl, rfl, hok, fun _ h => (by cases h), fun _ _ => rfl⟩
  | p :: ps, z, S, hok, hn, hh => by
    have h1 := hh p (List.mem_cons_self ..)
    obtain ⟨hn1, hn2⟩ := List.nodup_cons.1 hn
    have e1 : freeZ S p = 0 := by unfold freeZ; rw [if_neg h1]
    have e2 : freeS S p = S.put p none := by unfold freeS; rw [if_neg h1]
    have hput : ∀ m, m ≠ p → (S.put p none).held m = S.held m := fun m hm => by unfold BS.put; simp only [if_neg hm]
    have hok2 : okB (S.put p none) := hok.put (fun h => by cases h) (fun _ h => by cases h)
    obtain ⟨S', k1, k2, k3, k4, k5, k6, k7⟩ := freeAll_law ps 0 (S.put p none) hok2 hn2 (fun n hm => by rw [hput n (fun e => hn1 (e ▸ hm))]; exact hh n (List.mem_cons_of_mem _ hm))
    refine ⟨S', ?_, k2, k3, k4, k5, fun n hm => ?_, fun n hm => ?_⟩
    · rw [freeAll, if_pos e1, e2, k1]
      by_cases hp : ps = []
      · simp [hp]
      · simp [hp]
    · rcases List.mem_cons.1 hm with rfl | hm
      · rw [k7 _ hn1]; simp [BS.put]
      · exact k6 n hm
    · rw [List.mem_cons, not_or] at hm
      rw [k7 n hm.2, hput n hm.1]
theorem takenF_length {S : BS} (hok : okB S) : (takenF S).length = cntB S := by
  unfold takenF takenTo cntB
  rw [List.length_map]
  congr 1
  apply List.filter_congr
  intro n _
  cases e : (S.held (n : Int)).isSome with
  | false => rw [Bool.and_false]
  | true =>
    have := (hok.dom n e).1
    rw [decide_eq_true (by omega)]; rfl
theorem takenF_congr {S S' : BS} (h1 : S'.pages = S.pages) (h2 : ∀ n, S'.held n = S.held n) : takenF S' = takenF S := by
  unfold takenF takenTo
  rw [h1, funext h2]
theorem takenF_none {S : BS} (h : ∀ n, S.held n = none) : takenF S = [] := by
  unfold takenF takenTo
  rw [show S.held = fun _ => none from funext h]
  simp
theorem emptyB_ok {eng page pages : Int} (h : newB page pages = true) : okB (emptyB eng page pages) := by
  unfold newB at h
  simp at h
  obtain ⟨h1, h2, h3⟩ := h
  have hp := isPowB_range h1
  refine ⟨by show isPowB ((page.toNat : Nat) : Int) = true; rw [show ((page.toNat : Nat) : Int) = page by omega]; exact h1, by show 2 ≤ pages.toNat; omega, by show pages.toNat ≤ 65536; omega, fun _ h => (by cases h), fun _ _ h => (by cases h)⟩
theorem emptyB_cnt (eng page pages : Int) : cntB (emptyB eng page pages) = 0 := by
  unfold cntB emptyB
  simp
end Go.Proofs.Ytgnhakgfgdelpaa

-- espalierlaw09: reading, freeing what was written: plain laws for awake and SpillBack.
namespace Go.Proofs.Ytgnhakgfgdelpaa
open Go.RowKit
section
variable {S : BS} {l : List Int} {v : List UInt8}
theorem nCh_self_take (hok : okB S) (h : HoldsV S l v) : l.take (nCh v.length (S.page - 16)) = l ∧ v.take (nCh v.length (S.page - 16) * (S.page - 16)) = v := by
  obtain ⟨hp1, hp2⟩ := isPowB_range hok.page
  refine ⟨by rw [← h.len, List.take_length], List.take_of_length_le ?_⟩
  have := nCh_lt (len := v.length) (h := S.page - 16) (k := nCh v.length (S.page - 16)) (by omega)
  omega
theorem allCh_law (hok : okB S) (h : HoldsV S l v) (h1 : 1 ≤ v.length) (h2 : v.length ≤ 65536) : ∃ S', allCh S (l.getD 0 0) v.length = (0, l, v, S') ∧ Like S S' := by
  obtain ⟨S', e, hS'⟩ := chF_law hok h (Nat.le_refl _) h2
  refine ⟨S', ?_, hS'⟩
  unfold allCh
  rw [if_pos (by unfold sizeB; rw [decide_eq_true (by omega), decide_eq_true (by omega)]; rfl), Int.toNat_natCast, e, (nCh_self_take hok h).1, (nCh_self_take hok h).2]
theorem sliceCh_law (hok : okB S) (h : HoldsV S l v) (h1 : 1 ≤ v.length) (h2 : v.length ≤ 65536) {lo hi : Nat} (h3 : lo ≤ hi) (h4 : hi ≤ v.length) : ∃ S', sliceCh S (l.getD 0 0) v.length lo hi = (0, [], (v.take hi).drop lo, S') ∧ Like S S' := by
  have hs : sizeB (v.length : Int) = true := by unfold sizeB; rw [decide_eq_true (by omega), decide_eq_true (by omega)]; rfl
  by_cases he : lo = hi
  · subst he
    refine ⟨S, ?_, Like.refl S⟩
    unfold sliceCh
    rw [if_neg (by rw [hs]; simp), if_neg (by omega), if_pos rfl, List.drop_take]
    simp
  · obtain ⟨S', e, hS'⟩ := chF_law hok h h4 h2
    refine ⟨S', ?_, hS'⟩
    unfold sliceCh
    rw [if_neg (by rw [hs]; simp), if_neg (by omega), if_neg (by omega), Int.toNat_natCast, Int.toNat_natCast, e, if_pos rfl]
    obtain ⟨hp1, hp2⟩ := isPowB_range hok.page
    have h5 := nCh_lt (len := hi) (h := S.page - 16) (k := nCh hi (S.page - 16)) (by omega)
    show (0, [], List.drop lo (List.take hi (List.take _ v)), S') = _
    rw [List.take_take, Nat.min_eq_left (by omega)]
theorem sliceCh_bad {first n from_ to_ : Int} (h : sizeB n = true) (hb : from_ < 0 ∨ to_ < from_ ∨ n < to_) : sliceCh S first n from_ to_ = (1, [], [], S) := by
  unfold sliceCh
  rw [if_neg (by rw [h]; simp), if_pos hb]
theorem freeCh_law (hok : okB S) (h : HoldsV S l v) (h1 : 1 ≤ v.length) (h2 : v.length ≤ 65536) : ∃ S', freeCh S (l.getD 0 0) v.length = (0, S') ∧ S'.page = S.page ∧ S'.pages = S.pages ∧ okB S' ∧ (∀ n ∈ l, S'.held n = none) ∧ ∀ n, n ∉ l → S'.held n = S.held n := by
  obtain ⟨S1, e, hS1⟩ := allCh_law hok h h1 h2
  have hh : ∀ n ∈ l, S1.held n ≠ none := fun n hn => by
    obtain ⟨i, hi, rfl⟩ := List.getElem_of_mem hn
    rw [(h.like hS1).held i hi]; simp
  obtain ⟨S', k1, -, k3, k4, k5, k6, k7⟩ := freeAll_law l 0 S1 (hS1.ok hok) h.nodup hh
  refine ⟨S', ?_, k3.trans hS1.page, k4.trans hS1.pages, k5, k6, fun n hn => by rw [k7 n hn, hS1.held]⟩
  unfold freeCh
  rw [e]
  show freeAll l 0 S1 = _
  rw [k1]
  simp
end
/-! ### awake's own -/
def v500 : List UInt8 := (List.replicate 500 0).set 499 7
theorem v500_len : v500.length = 500 := by unfold v500; rw [List.length_set, List.length_replicate]
theorem v500_end : (v500.take 500).drop 499 = [7] := by decide +kernel
def S500 : BS := emptyB 1 512 9
theorem S500_ok : okB S500 := emptyB_ok (by decide)
theorem aw_write : ∃ l S1, wrF S500 v500 = (2, 0, S1) ∧ HoldsV S1 l v500 ∧ okB S1 ∧ l.getD 0 0 = 2 ∧ S1.page = 512 ∧ l.length = 2 ∧ ∀ n, n ∉ l → S1.held n = none := by
  obtain ⟨l, S1, e, hH, hA⟩ := wrF_law (S := S500) (v := v500) S500_ok (by rw [v500_len]; omega) (by rw [v500_len]; omega) (by rw [v500_len]; decide +kernel)
  have h2 : (wrF S500 v500).1 = 2 := by decide +kernel
  rw [e] at h2
  have h2 : l.getD 0 0 = 2 := h2
  have hl : l.length = 2 := by rw [hH.len, hA.page, v500_len]; decide
  exact ⟨l, S1, by rw [e, h2], hH, hA.ok, h2, hA.page, hl, fun n hn => by rw [hA.rest n hn]; rfl⟩
theorem aw_bad {S : BS} {l : List Int} (hok : okB S) (h : HoldsV S l v500) (hp : S.page = 512) (h2 : l.getD 0 0 = 2) (hl : l.length = 2) : ∃ S', allCh S 2 499 = (90, [], [], S') ∧ Like S S' := by
  refine ⟨S.read.read, ?_, (read_like S).trans (read_like _)⟩
  obtain ⟨s1, s2, s3, s4⟩ := step_law hok h (i := 0) (by omega) 499
  obtain ⟨t1, t2, t3, t4⟩ := step_law ((read_like S).ok hok) (h.like (read_like S)) (i := 1) (by omega) 3
  have hp' : S.read.page = 512 := hp
  rw [hp] at s1 s4
  rw [hp'] at t1 t4
  have n1 : ¬ nextP l 0 = 0 := by rw [nextP_zero h.rng (by omega)]; omega
  have q0 : (pieceF v500 (512 - 16) 0).length = 496 := by rw [pieceF_length, v500_len]; decide
  have q1 : (pieceF v500 (512 - 16) 1).length = 4 := by rw [pieceF_length, v500_len]; decide
  rw [if_neg (by rw [q0, decide_eq_false n1]; decide)] at s1
  rw [if_pos (.inl (by rw [q1]; decide))] at t1
  have l0 : l[0] = 2 := by rw [← getD_at (by omega)]; exact h2
  have l1 : l[1] = nextP l 0 := (getD_at (l := l) (i := 1) (by omega)).symm
  rw [l0] at s1 s2 s3 s4
  rw [List.take_zero] at s1 s2
  unfold allCh
  rw [if_pos (by decide)]
  show chF 499 (499 + 1) S 2 499 [] [] = _
  rw [chF_next (by simp) (by omega) s1 s3 s4]
  rw [← l1]
  have q2 : (499 : Int) - ((pieceF v500 (512 - 16) 0).length : Int) = 3 := by rw [q0]; decide
  rw [q2]
  have q3 : ([] : List Int) ++ [2] = l.take 1 := by
    have := List.take_succ_eq_append_getElem (l := l) (i := 0) (by omega)
    rw [l0] at this
    exact this.symm
  rw [q3]
  rw [chF_bad (by rw [List.nil_append, q0]; omega) (by omega) t1 (by decide) t2]
end Go.Proofs.Ytgnhakgfgdelpaa
