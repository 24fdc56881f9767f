/- Texts joined: espalierlaw09.sameInts of equal lists; espalierlaw09.pair; espalierlaw09.pair.told; espalierref09.page; espalierref09.chain; espalierref09.Read, List, Slice, Free -/
import Derived.Test.YtgnhakgfgdelpaaP2
import Derived.Test.YtgnhakgfgdelpaaP5
import Derived.Test.YtgnhakgfgdelpaaP6
import Derived.Test.YtgnhakgfgdelpaaP7
import Derived.Test.YtgnhakgfgdelpaaP8
import Derived.Test.YtgnhakgfgdelpaaP9
import Derived.BigQuiet
import Derived.Deep.CutRange
-- espalierlaw09.sameInts of equal lists: the walk.
namespace Go.Proofs.Ytgnhakgfgdelpaa
open Go.RowKit
theorem RdI.drewN {w : World} {v : Value} {l : List Int} (h : RdI w v l) (n : Nat) : RdI (w.drewN n) v l := h
set_option maxRecDepth 100000 in
set_option maxHeartbeats 4000000 in
theorem sameInts_any (va vb : Value) (l : List Int) (w : World) (ha : RdI w va l) (hb : RdI w vb l) :
    Calls Try.prog 28 #[va, vb] w fun e w' => e = .returned (.bool true) ∧ ∃ nq, w' = w.drewN nq := by
  obtain ⟨A, c, rfl, hm, hc⟩ := ha.form
  obtain ⟨B, d, rfl, -, -⟩ := hb.form
  go_enter Try.func28, Try.ntmps28
  go_upto_region 4 with (fail)
  go_loopw [5] (fun i wr => ∃ k nq : Nat, k ≤ l.length ∧ i = .int .i64 (k : Int) ∧ wr = w.drewN nq) (fun i _ => l.length - (intOf i).toNat)
  case atStart => exact ⟨0, 0, Nat.zero_le _, rfl, rfl⟩
  case round =>
    obtain ⟨k, nq, hk, rfl, rfl⟩ := hrel
    have ha := ha.drewN nq
    have hb := hb.drewN nq
    obtain ⟨wr, HW⟩ : ∃ wr, Hid (w.drewN nq = wr) := ⟨_, Lib.hid rfl⟩
    rw [HW.out] at ha hb ⊢
    by_cases hlt : k < l.length
    · have i1 : (k : Int) < (l.length : Int) := by omega
      obtain ⟨ad, rfl, hcell⟩ := ha.at_ hlt
      obtain ⟨bd, rfl, hcell2⟩ := hb.at_ hlt
      generalize l[k] = x at *
      go_upto_region 6 with (fail)
      go_quiet (fail)
      go_wp2_with fail
      rw [← HW.out, World.drewN_drewN]
      exact ⟨⟨k + 1, _, by omega, by go_num, rfl⟩, by simp [intOf]; omega⟩
    · obtain rfl : k = l.length := by omega
      have i1 : ¬ (l.length : Int) < (l.length : Int) := by omega
      go_wp2_with fail
      go_ret
      exact ⟨rfl, nq, HW.out.symm⟩
end Go.Proofs.Ytgnhakgfgdelpaa

-- espalierlaw09.pair: write, alike: walks.
namespace Go.Proofs.Ytgnhakgfgdelpaa
open Go.RowKit Go.Maps
section
variable {w0 w : World} {pb gb gm gb2 gm2 : Nat} {pv pv2 : Int → Option Value} {fv c3 c4 c5 c6 : Value} {S : BS} {firsts : List Int} {L : List Ent}
theorem i64w_zero : i64w 0 := ⟨by omega, by omega⟩
theorem wrF_rng {S : BS} (hok : okB S) (v : List UInt8) : i64w (wrF S v).1 := by
  by_cases h1 : v.length < 1 ∨ 65536 < v.length
  · rw [wrF_bad h1]; exact i64w_zero
  · rw [wrF_ok hok.page h1]
    split
    · exact i64w_zero
    · obtain ⟨-, -, h2⟩ := allocN_spec (nCh v.length (S.page - 16)) S S [] ⟨rfl, rfl, fun _ h => absurd h (by simp), fun _ h => absurd h (by simp)⟩
      generalize allocN (nCh v.length (S.page - 16)) S [] = r at *
      obtain ⟨o, S'⟩ := r
      cases o with
      | none => exact i64w_zero
      | some l =>
        obtain ⟨-, h3⟩ := h2 l rfl
        show i64w (l.getD 0 0)
        cases l with
        | nil => exact i64w_zero
        | cons x r =>
          have := h3.rng x (List.mem_cons_self ..)
          have := hok.hi
          show -9223372036854775808 ≤ x ∧ x ≤ 9223372036854775807
          omega
set_option maxRecDepth 100000 in
set_option maxHeartbeats 8000000 in
theorem write_sep (hS : Sep w0 w (prH pb gb gm gb2 gm2 pv pv2 S fv c3 c4 c5 c6 firsts L)) (x : Value) (v : List UInt8) (hx : RdIn L x v) (hvl : v.length ≤ 200000) (hfl : firsts.length ≤ 100000000) :
    Calls Try.prog 49 #[.pointer (some ⟨pb, 0, none⟩), x] w fun e w' => e = .returned (.bool true) ∧ ∃ pv' pv2' fv' firsts', Sep w0 w' (prH pb gb gm gb2 gm2 pv' pv2' (wrF S v).2.2 fv' c3 c4 c5 c6 firsts' L) ∧ (firsts' = firsts ∨ firsts' = firsts ++ [(wrF S v).1]) := by
  obtain ⟨FA, fc, rfl⟩ := Own.slice (show OwI w 0 fv firsts from hS.tail.tail.tail.head)
  obtain ⟨n, hn⟩ : ∃ n, v.length = n := ⟨_, rfl⟩
  have HN := Lib.hid hn
  have hL := LentB_sep hS (hS.tail.tail.tail.tail.rdIn hx) (by omega)
  rw [hn] at hL
  clear hn
  go_enter Try.func49, Try.ntmps49
  go_upto_region 2 with (first
    | (go_at_call 14; (with_reducible refine hL.mono ?_); rintro e w1 ⟨g1, rfl, hS1⟩)
    | fail)
  clear hL hS
  have hS2 : Sep w0 w1 (benchE gb gm pv S :: [bytesE (.slice (some ⟨g1, 0, none⟩) (n + 9) (n + 9)) (v ++ marks9), blkE pb 59 [.pointer (some ⟨gb, 0, none⟩), .pointer (some ⟨gb2, 0, none⟩), (.slice FA firsts.length fc), c3, c4, c5, c6]] ++ (benchE gb2 gm2 pv2 S :: intsE (.slice FA firsts.length fc) firsts :: L)) := hS1.sw2
  have hS2 : Sep w0 w1 (benchE gb gm pv S :: bytesE (.slice (some ⟨g1, 0, none⟩) (n + 9) (n + 9)) (v ++ marks9) :: blkE pb 59 [.pointer (some ⟨gb, 0, none⟩), .pointer (some ⟨gb2, 0, none⟩), (.slice FA firsts.length fc), c3, c4, c5, c6] :: benchE gb2 gm2 pv2 S :: intsE (.slice FA firsts.length fc) firsts :: L) := hS2
  have k0 := OBlk.cell' (show OBlk w1 pb 59 [.pointer (some ⟨gb, 0, none⟩), .pointer (some ⟨gb2, 0, none⟩), (.slice FA firsts.length fc), c3, c4, c5, c6] from hS2.tail.tail.head) (j := 0) rfl
  have hC := SWrite_any hS2 (.slice (some ⟨g1, 0, none⟩) n (n + 9)) v ⟨_, List.mem_cons_self .., fun W h => lentC_rd0 h HN.out⟩
  have hwr := wrF_rng (show (benchE gb gm pv S).p w1 from hS2.head).2.2.1 v
  obtain ⟨a, ha⟩ : ∃ a, (wrF S v).1 = a := ⟨_, rfl⟩
  obtain ⟨z, hz⟩ : ∃ z, (wrF S v).2.1 = z := ⟨_, rfl⟩
  obtain ⟨S', hs'⟩ : ∃ s, (wrF S v).2.2 = s := ⟨_, rfl⟩
  have HAZ := Lib.hid (And.intro ha (And.intro hz hs'))
  rw [ha, hz, hs'] at hC
  rw [ha] at hwr
  clear ha hz hs'
  go_upto_region 3 with (first
    | (go_at_call 22; (with_reducible refine hC.mono ?_); rintro e w2 ⟨rfl, pv3, hS3⟩)
    | fail)
  clear hC hS2 hS1 k0
  have hSA : Sep w0 w2 (bytesE (.slice (some ⟨g1, 0, none⟩) (n + 9) (n + 9)) (v ++ marks9) :: benchE gb gm pv3 S' :: blkE pb 59 [.pointer (some ⟨gb, 0, none⟩), .pointer (some ⟨gb2, 0, none⟩), (.slice FA firsts.length fc), c3, c4, c5, c6] :: benchE gb2 gm2 pv2 S :: intsE (.slice FA firsts.length fc) firsts :: L) := hS3.sw1
  have hA := AsLentB_sep hSA HN.out (hSA.tail.tail.tail.tail.tail.rdIn hx) (by have := HN.out; omega)
  go_upto_region 4 with (first | (go_at_call 16; (with_reducible refine hA.mono ?_); rintro e w3 ⟨rfl, hS4⟩) | fail)
  clear hA hSA hS3
  have hS5 : Sep w0 w3 (benchE gb2 gm2 pv2 S :: benchE gb gm pv3 S' :: blkE pb 59 [.pointer (some ⟨gb, 0, none⟩), .pointer (some ⟨gb2, 0, none⟩), (.slice FA firsts.length fc), c3, c4, c5, c6] :: intsE (.slice FA firsts.length fc) firsts :: L) := hS4.sw2
  have hbk : OBlk w3 pb 59 [.pointer (some ⟨gb, 0, none⟩), .pointer (some ⟨gb2, 0, none⟩), (.slice FA firsts.length fc), c3, c4, c5, c6] := hS5.tail.tail.head
  have k1 := hbk.cell' (j := 1) rfl
  have hC := RWrite_any hS5 x v hx.cons.cons.cons
  rw [HAZ.out.1, HAZ.out.2.1, HAZ.out.2.2] at hC
  clear hS4
  go_upto_region 5 with (first
    | (go_at_call 63; (with_reducible refine hC.mono ?_); rintro e w4 ⟨rfl, pv4, hS6⟩)
    | fail)
  clear hC hS5 k1 hbk
  have hS7 : Sep w0 w4 (intsE (.slice FA firsts.length fc) firsts :: benchE gb2 gm2 pv4 S' :: benchE gb gm pv3 S' :: blkE pb 59 [.pointer (some ⟨gb, 0, none⟩), .pointer (some ⟨gb2, 0, none⟩), (.slice FA firsts.length fc), c3, c4, c5, c6] :: L) := hS6.sw3
  by_cases hz0 : z = 0
  · subst hz0
    have hbk : OBlk w4 pb 59 [.pointer (some ⟨gb, 0, none⟩), .pointer (some ⟨gb2, 0, none⟩), (.slice FA firsts.length fc), c3, c4, c5, c6] := hS7.tail.tail.tail.head
    have k2 := hbk.cell' (j := 2) rfl
    go_upto_region 7 with (first
      | (at_builtin; refine wp_append_I1 rfl (.tmp 41) (.tmp 43) rfl 0 (.slice FA firsts.length fc) firsts rfl (show OwI w4 0 (.slice FA firsts.length fc) firsts from hS7.head) a _ rfl (by omega) (Nat.zero_le _) ?_; intro u w5 hO5 hg5 hb5; obtain ⟨UA, uc, rfl⟩ := Own.slice hO5; have hS8 : Sep w0 w5 (blkE pb 59 [.pointer (some ⟨gb, 0, none⟩), .pointer (some ⟨gb2, 0, none⟩), (.slice FA firsts.length fc), c3, c4, c5, c6] :: intsE (.slice UA (firsts ++ [a]).length uc) (firsts ++ [a]) :: benchE gb2 gm2 pv4 S' :: benchE gb gm pv3 S' :: L) := (hS7.appI hO5 hg5 (by rcases hb5 with e | e; exact .inl e; exact .inr ⟨_, e, by omega⟩)).sw3; have f2 := OBlk.frozen hS8.head (j := 2) (by simp); have k2' := OBlk.cell' hS8.head (j := 2) rfl; clear hO5 hg5 hb5)
      | fail)
    have hS9 : Sep w0 _ (blkE pb 59 [.pointer (some ⟨gb, 0, none⟩), .pointer (some ⟨gb2, 0, none⟩), (.slice UA (firsts ++ [a]).length uc), c3, c4, c5, c6] :: intsE (.slice UA (firsts ++ [a]).length uc) (firsts ++ [a]) :: benchE gb2 gm2 pv4 S' :: benchE gb gm pv3 S' :: L) := hS8.setCell 2 (.slice UA (firsts ++ [a]).length uc)
    rw [show (firsts ++ [a]).length = firsts.length + 1 by simp] at hS9
    clear hS8 hS7 k2 k2' f2 hbk hS6
    generalize w5.setCell ⟨pb, 2, none⟩ (.slice UA (firsts.length + 1) uc) = w6 at *
    go_wp2_with fail
    go_ret
    rw [HAZ.out.1, HAZ.out.2.2]
    refine ⟨rfl, pv3, pv4, (.slice UA (firsts.length + 1) uc), firsts ++ [a], ?_, .inr rfl⟩
    have h1 : Sep w0 w6 (benchE gb2 gm2 pv4 S' :: blkE pb 59 [.pointer (some ⟨gb, 0, none⟩), .pointer (some ⟨gb2, 0, none⟩), (.slice UA (firsts.length + 1) uc), c3, c4, c5, c6] :: intsE (.slice UA (firsts.length + 1) uc) (firsts ++ [a]) :: benchE gb gm pv3 S' :: L) := hS9.sw2
    have h2 : Sep w0 w6 (benchE gb gm pv3 S' :: benchE gb2 gm2 pv4 S' :: blkE pb 59 [.pointer (some ⟨gb, 0, none⟩), .pointer (some ⟨gb2, 0, none⟩), (.slice UA (firsts.length + 1) uc), c3, c4, c5, c6] :: intsE (.slice UA (firsts.length + 1) uc) (firsts ++ [a]) :: L) := h1.sw3
    exact h2.sw2
  · have e1 : (z == 0) = false := beq_eq_false_iff_ne.2 hz0
    clear hz0
    go_wp2_with fail
    go_ret
    rw [HAZ.out.1, HAZ.out.2.2]
    refine ⟨rfl, pv3, pv4, (.slice FA firsts.length fc), firsts, ?_, .inl rfl⟩
    have h1 : Sep w0 w4 (benchE gb2 gm2 pv4 S' :: intsE (.slice FA firsts.length fc) firsts :: benchE gb gm pv3 S' :: blkE pb 59 [.pointer (some ⟨gb, 0, none⟩), .pointer (some ⟨gb2, 0, none⟩), (.slice FA firsts.length fc), c3, c4, c5, c6] :: L) := hS7.sw1
    have h2 : Sep w0 w4 (benchE gb gm pv3 S' :: benchE gb2 gm2 pv4 S' :: intsE (.slice FA firsts.length fc) firsts :: blkE pb 59 [.pointer (some ⟨gb, 0, none⟩), .pointer (some ⟨gb2, 0, none⟩), (.slice FA firsts.length fc), c3, c4, c5, c6] :: L) := h1.sw2
    exact h2.sw3
end
section
variable {w0 w : World} {pb gb gm gb2 gm2 : Nat} {pv pv2 : Int → Option Value} {fv c3 c4 c5 c6 : Value} {S : BS} {firsts : List Int} {L : List Ent}
set_option maxRecDepth 100000 in
set_option maxHeartbeats 8000000 in
theorem alike_sep (hS : Sep w0 w (prH pb gb gm gb2 gm2 pv pv2 S fv c3 c4 c5 c6 firsts L)) :
    Calls Try.prog 30 #[.pointer (some ⟨pb, 0, none⟩)] w fun e w' => e = .returned (.bool true) ∧ Sep w0 w' (prH pb gb gm gb2 gm2 pv pv2 S fv c3 c4 c5 c6 firsts L) := by
  have hbk : OBlk w pb 59 [.pointer (some ⟨gb, 0, none⟩), .pointer (some ⟨gb2, 0, none⟩), fv, c3, c4, c5, c6] := hS.head
  have k0 := hbk.cell' (j := 0) rfl
  have hT1 := BTaken_any hS.sw1
  go_enter Try.func30, Try.ntmps30
  go_upto_region 2 with (first
    | (go_at_call 23; (with_reducible refine hT1.mono ?_); rintro e w1 ⟨u1, rfl, hS1⟩)
    | fail)
  clear hbk k0 hT1 hS
  have hS2 : Sep w0 w1 (benchE gb2 gm2 pv2 S :: intsE u1 (takenF S) :: benchE gb gm pv S :: blkE pb 59 [.pointer (some ⟨gb, 0, none⟩), .pointer (some ⟨gb2, 0, none⟩), fv, c3, c4, c5, c6] :: intsE fv firsts :: L) := hS1.sw3
  have hbk : OBlk w1 pb 59 [.pointer (some ⟨gb, 0, none⟩), .pointer (some ⟨gb2, 0, none⟩), fv, c3, c4, c5, c6] := hS2.tail.tail.tail.head
  have k1 := hbk.cell' (j := 1) rfl
  have hT2 := BTaken_any hS2
  go_upto_region 3 with (first
    | (go_at_call 23; (with_reducible refine hT2.mono ?_); rintro e w2 ⟨u2, rfl, hS3⟩)
    | fail)
  clear hbk k1 hT2 hS2 hS1
  have hS3 : Sep w0 w2 (intsE u2 (takenF S) :: benchE gb2 gm2 pv2 S :: intsE u1 (takenF S) :: benchE gb gm pv S :: blkE pb 59 [.pointer (some ⟨gb, 0, none⟩), .pointer (some ⟨gb2, 0, none⟩), fv, c3, c4, c5, c6] :: intsE fv firsts :: L) := hS3
  have hSd := hS3.drew
  have hbk : OBlk w2.drew pb 59 [.pointer (some ⟨gb, 0, none⟩), .pointer (some ⟨gb2, 0, none⟩), fv, c3, c4, c5, c6] := hSd.tail.tail.tail.tail.head
  have k0 := hbk.cell' (j := 0) rfl
  have k1 := hbk.cell' (j := 1) rfl
  have hRa := BReads_any (show (benchE gb gm pv S).p w2.drew from hSd.tail.tail.tail.head)
  have hRb := BReads_any (show (benchE gb2 gm2 pv2 S).p w2.drew from hSd.tail.head)
  have hsi := sameInts_any u1 u2 (takenF S) w2.drew (OwI.rd (hSd.tail.tail.head)) (OwI.rd hSd.head)
  go_region_held3 (fun w' => w'.cell? ⟨pb, 0, none⟩ = some (.pointer (some ⟨gb, 0, none⟩)) ∧ w'.cell? ⟨pb, 1, none⟩ = some (.pointer (some ⟨gb2, 0, none⟩)))
    (first | exact ⟨k0, k1⟩)
    (first
      | (go_at_call 57; (with_reducible refine hRa.mono ?_); rintro e wa ⟨rfl, rfl⟩)
      | (go_at_call 57; (with_reducible refine hRb.mono ?_); rintro e wb ⟨rfl, rfl⟩)
      | (go_at_call 28; (with_reducible refine hsi.mono ?_); rintro e wc ⟨rfl, nq, rfl⟩)
      | fail)
  all_goals
    go_wp2_with fail
    go_ret
    refine ⟨by first | rfl | (simp; done), ?_⟩
    have h := Sep.pick (L := [_, _, _, _, _, _]) [4, 3, 1, 5] (by decide) rfl (hSd.drewN nq)
    rw [World.drewN_drew] at h
    exact h
end
end Go.Proofs.Ytgnhakgfgdelpaa

-- espalierlaw09.pair.told: the walk.
namespace Go.Proofs.Ytgnhakgfgdelpaa
open Go.RowKit Go.Maps
section
variable {w0 w : World} {pb n : Nat} {c0 c1 c2 cv wv c5 c6 : Value} {vs ss : List Value} {L : List Ent}
set_option maxRecDepth 100000 in
set_option maxHeartbeats 8000000 in
theorem told_sep (hS : Sep w0 w (blkE pb 59 [c0, c1, c2, cv, wv, c5, c6] :: ownE 25 1 cv n vs :: ownE 9 1 wv n ss :: L)) (hn : n ≤ 10000000) (a b : Value) (l : List UInt8) (ha : RdIn L a l) (hb : RdIn L b l) :
    Calls Try.prog 51 #[.pointer (some ⟨pb, 0, none⟩), a, b] w fun e w' => e = .returned (.bool true) ∧ ∃ cv' wv', Sep w0 w' (blkE pb 59 [c0, c1, c2, cv', wv', c5, c6] :: ownE 25 1 cv' (n + 1) (vs ++ [a]) :: ownE 9 1 wv' (n + 1) (ss ++ [strV l]) :: L) := by
  have hbk : OBlk w pb 59 [c0, c1, c2, cv, wv, c5, c6] := hS.head
  have k3 := hbk.cell' (j := 3) rfl
  have hcw : Own w 0 25 1 cv n vs := hS.tail.head
  have hone := (hS.tail.tail.tail.rdIn ha).one
  obtain ⟨A1, d1, rfl, -⟩ := (hS.tail.tail.tail.rdIn ha).form
  obtain ⟨B1, e1, rfl, -⟩ := (hS.tail.tail.tail.rdIn hb).form
  obtain ⟨CA, cc, rfl⟩ := Own.slice hcw
  obtain ⟨WA, wc, rfl⟩ := Own.slice (show Own w 0 9 1 wv n ss from hS.tail.tail.head)
  clear hbk
  go_enter Try.func51, Try.ntmps51
  go_upto_region 2 with (first
    | (at_builtin; refine wp_append_LB rfl (.tmp 11) (.tmp 13) rfl 0 n (.slice CA n cc) vs rfl hcw (.slice A1 l.length d1) hone _ rfl (by omega) (Nat.zero_le _) ?_; intro v1 w1 ho1 hg1 hk1; obtain ⟨VA, vc, rfl⟩ := Own.slice ho1; have hS1 : Sep w0 w1 (blkE pb 59 [c0, c1, c2, .slice CA n cc, .slice WA n wc, c5, c6] :: ownE 25 1 (.slice VA (n + 1) vc) (n + 1) (vs ++ [.slice A1 l.length d1]) :: ownE 9 1 (.slice WA n wc) n ss :: L) := (hS.sw1.appV ho1 hg1 (by rcases hk1 with e | e; exact .inl e; exact .inr ⟨_, e, by omega⟩)).sw1; have f3 := OBlk.frozen hS1.head (j := 3) (by simp); have k3' := OBlk.cell' hS1.head (j := 3) rfl; clear ho1 hg1 hk1)
    | fail)
  have hS2 : Sep w0 _ (blkE pb 59 [c0, c1, c2, .slice VA (n + 1) vc, .slice WA n wc, c5, c6] :: ownE 25 1 (.slice VA (n + 1) vc) (n + 1) (vs ++ [.slice A1 l.length d1]) :: ownE 9 1 (.slice WA n wc) n ss :: L) := hS1.setCell 3 (.slice VA (n + 1) vc)
  clear hS hS1 f3 k3' k3 hcw
  generalize w1.setCell ⟨pb, 3, none⟩ (.slice VA (n + 1) vc) = w2 at *
  have hSd := hS2.drew
  have q2 := run_B_string (hSd.tail.tail.tail.rdIn hb)
  obtain ⟨i0, hi, hz0, hz1, hz2⟩ := info_parts str_info
  have hbd : OBlk w2.drew pb 59 [c0, c1, c2, .slice VA (n + 1) vc, .slice WA n wc, c5, c6] := hSd.head
  have k4 : w2.cell? ⟨pb, 4, none⟩ = some (.slice WA n wc) := hbd.cell' (j := 4) rfl
  have hSa : Sep w0 (w2.drew.alloc (.cells #[strV l] 9)) (blkE w2.drew.heap.size 9 [strV l] :: blkE pb 59 [c0, c1, c2, .slice VA (n + 1) vc, .slice WA n wc, c5, c6] :: ownE 25 1 (.slice VA (n + 1) vc) (n + 1) (vs ++ [.slice A1 l.length d1]) :: ownE 9 1 (.slice WA n wc) n ss :: L) := hSd.alloc 9 [strV l]
  have hba : OBlk (w2.drew.alloc (.cells #[strV l] 9)) pb 59 [c0, c1, c2, .slice VA (n + 1) vc, .slice WA n wc, c5, c6] := hSa.tail.head
  have k4a : (w2.alloc (.cells #[.string ⟨l.toArray⟩] 9)).cell? ⟨pb, 4, none⟩ = some (.slice WA n wc) := hba.cell' (j := 4) rfl
  have hwa : Own (w2.drew.alloc (.cells #[strV l] 9)) 0 9 1 (.slice WA n wc) n ss := hSa.tail.tail.tail.head
  have hr3 := Rd.one w2.drew (strV l) 9
  have hSw : Sep w0 (w2.drew.alloc (.cells #[strV l] 9)) (ownE 9 1 (.slice WA n wc) n ss :: blkE pb 59 [c0, c1, c2, .slice VA (n + 1) vc, .slice WA n wc, c5, c6] :: ownE 25 1 (.slice VA (n + 1) vc) (n + 1) (vs ++ [.slice A1 l.length d1]) :: L) := hSa.tail.sw2
  unfold strV at hSa hba hwa hr3 hSw
  clear hbd hba hSa hS2
  go_region_law
    (first
      | (refine step_append (by rfl) (.tmp 21) (.tmp 24) _ _ (by rfl) 0 9 i0 _ 1 16 Try.underlying56 hi hz0 hz1 hz2 rfl (.slice WA n wc) n ss (by rfl) hwa (.slice (some ⟨w2.heap.size, 0, none⟩) 1 1) 1 [.string ⟨l.toArray⟩] (by rfl) (Rd.src _ Try.underlying56 (by omega) hr3 (by simp [Value.oneCell'])) (by omega) (by omega) (Nat.zero_le _) ?_; intro v3 w3 ho3 hg3 hk3; obtain ⟨W3, x3, rfl⟩ := Own.slice ho3; have hS3 := (hSw.appV ho3 hg3 (by rcases hk3 with e | e; exact .inl e; exact .inr ⟨_, e, Nat.le_refl _⟩)).sw1; have c3' := OBlk.cell' (show OBlk w3 pb 59 [c0, c1, c2, .slice VA (n + 1) vc, .slice WA n wc, c5, c6] from hS3.head) (j := 4) rfl; have f3' := OBlk.frozen (show OBlk w3 pb 59 [c0, c1, c2, .slice VA (n + 1) vc, .slice WA n wc, c5, c6] from hS3.head) (j := 4) (by simp))
      | fail)
  all_goals
    have hS4 : Sep w0 _ (blkE pb 59 [c0, c1, c2, .slice VA (n + 1) vc, .slice W3 (n + 1) x3, c5, c6] :: ownE 9 1 (.slice W3 (n + 1) x3) (n + 1) (ss ++ [.string ⟨l.toArray⟩]) :: ownE 25 1 (.slice VA (n + 1) vc) (n + 1) (vs ++ [.slice A1 l.length d1]) :: L) := hS3.setCell 4 (.slice W3 (n + 1) x3)
    clear hS3 hSw c3' f3' q2 hSd k4a k4 hwa hr3
    generalize w3.setCell ⟨pb, 4, none⟩ (.slice W3 (n + 1) x3) = w4 at *
    have q3 := run_B_string (hS4.tail.tail.tail.rdIn ha)
    have q4 := run_B_string (hS4.tail.tail.tail.rdIn hb)
    go_wp2_with fail
    go_ret
    exact ⟨rfl, _, _, hS4.sn [_]⟩
end
end Go.Proofs.Ytgnhakgfgdelpaa

-- espalierref09.page: the walk.
namespace Go.Proofs.Ytgnhakgfgdelpaa
open Go.RowKit Go.Maps
def pgQ (page : Nat) (must : Int) (last : Bool) (len : Nat) : Option (Int × List UInt8) → Int
  | none => 60
  | some (next, d) => if len ≠ page then 60 else if (d.length : Int) ≠ must ∨ decide (next = 0) ≠ last then 90 else 0
def pgZ (S : BS) (a must : Int) (last : Bool) : Int := match S.held a with | none => 30 | some b => pgQ S.page must last b.length (decS b)
def pgS (S : BS) (a : Int) : BS := match S.held a with | none => S | some _ => S.read
def pgN (S : BS) (a must : Int) (last : Bool) : Int := if pgZ S a must last = 0 then stepN S a else 0
def pgD (S : BS) (a must : Int) (last : Bool) : List UInt8 := if pgZ S a must last = 0 then stepD S a else []
theorem stepQ_pg (page : Nat) (left : Int) (len : Nat) (o : Option (Int × List UInt8)) : stepQ page left len o = pgQ page (min left ((page : Int) - 16)) (decide (left ≤ (page : Int) - 16)) len o := by
  cases o with
  | none => rfl
  | some nd => rfl
theorem stepZ_pg {S : BS} {a left : Int} {pages : List Int} (h : a ∉ pages) : stepZ S a left pages = pgZ S a (min left ((S.page : Int) - 16)) (decide (left ≤ (S.page : Int) - 16)) ∧ stepS S a pages = pgS S a := by
  unfold stepZ pgZ stepS pgS
  rw [if_neg h, if_neg h]
  cases S.held a with
  | none => exact ⟨rfl, rfl⟩
  | some b => exact ⟨stepQ_pg _ _ _ _, rfl⟩
theorem pg_bad {S : BS} {a must : Int} {last : Bool} {z : Int} (h : pgZ S a must last = z) (h0 : z ≠ 0) : pgN S a must last = 0 ∧ pgD S a must last = [] := by
  unfold pgN pgD
  rw [h, if_neg h0, if_neg h0]
  exact ⟨rfl, rfl⟩
section
variable {w0 w : World} {gb gm : Nat} {pv : Int → Option Value} {S : BS} {L : List Ent}
def PgAt (gb gm : Nat) (w0 : World) (L : List Ent) (n z : Int) (d : List UInt8) (S' : BS) (e : Ending) (w' : World) : Prop :=
  ∃ du pv', e = .returned (.tuple #[.int .i64 n, du, .int .i64 z]) ∧ Sep w0 w' (bytesE du d :: benchE gb gm pv' S' :: L)
set_option maxRecDepth 100000 in
set_option maxHeartbeats 8000000 in
theorem RPage_any (hS : Sep w0 w (benchE gb gm pv S :: L)) (a : Int) (ha : i64w a) (must : Int) (last : Bool) :
    Calls Try.prog 72 #[.pointer (some ⟨gb, 0, none⟩), .int .i64 a, .int .i64 must, .bool last] w (PgAt gb gm w0 L (pgN S a must last) (pgZ S a must last) (pgD S a must last) (pgS S a)) := by
  have hE : (benchE gb gm pv S).p w := hS.head
  cases hh : S.held a with
  | none =>
    have hz : pgZ S a must last = 30 := by unfold pgZ; rw [hh]
    have HS : Hid (pgS S a = S) := by show _ = _; unfold pgS; rw [hh]
    obtain ⟨hn, hd⟩ := pg_bad hz (by decide)
    rw [hz, hn, hd, HS.out]
    have hRd := BRead_none hE a ha hh
    clear hz hn hd hh
    go_enter Try.func72, Try.ntmps72
    go_wp2_with (first | (go_at_call 31; (with_reducible refine hRd.mono ?_); rintro e w1 ⟨rfl, rfl⟩) | fail)
    go_ret3
    exact ⟨_, _, rfl, hS.nil⟩
  | some b =>
    have hRd := BRead_some hS a ha b hh
    have HS : Hid (pgS S a = S.read) := by show _ = _; unfold pgS; rw [hh]
    have hbl := hE.2.2.1.len a b hh
    have hz : pgZ S a must last = pgQ S.page must last b.length (decS b) := by unfold pgZ; rw [hh]
    have hsz := fun W (hE : (benchE gb gm pv S.read).p W) => BSize_any hE
    have hsz : ∀ W, (benchE gb gm pv S.read).p W → Calls Try.prog 65 #[.pointer (some ⟨gb, 0, none⟩)] W fun e w' => e = .returned (.int .i64 S.page) ∧ w' = W := hsz
    have hDc := fun (u : Value) (W : World) (hu : RdB W u b) => RSDecode_any u b W hu
    unfold SDecAt at hDc
    rw [HS.out]
    cases hd : decS b with
    | none =>
      obtain ⟨d1, d2, d3⟩ := dec_none hd
      rw [d1, d2, d3] at hDc
      rw [hd] at hz
      have hz : pgZ S a must last = 60 := hz
      obtain ⟨hn, hdd⟩ := pg_bad hz (by decide)
      rw [hz, hn, hdd]
      clear hz hn hdd hd d1 d2 d3 hh
      go_enter Try.func72, Try.ntmps72
      go_wp2_with (first
        | (go_at_call 31; (with_reducible refine hRd.mono ?_); rintro e w2 ⟨bu, rfl, hS2⟩; have hrb := OwB.rd (hS2.head : OwB w2 0 bu b); obtain ⟨bA, bc, rfl, -⟩ := hrb.form)
        | (go_at_call 19; (with_reducible refine (hDc _ _ hrb).mono ?_); rintro e w3 ⟨du, rfl, ho3, hB3⟩)
        | fail)
      go_ret3
      exact ⟨_, _, rfl, (hS2.below hB3).tail.nil⟩
    | some nd =>
      obtain ⟨nx, d⟩ := nd
      obtain ⟨d1, d2, d3⟩ := dec_some hd
      rw [d1, d2, d3] at hDc
      rw [hd] at hz
      have hz : pgZ S a must last = if b.length ≠ S.page then 60 else if (d.length : Int) ≠ must ∨ decide (nx = 0) ≠ last then 90 else 0 := hz
      have hN : stepN S a = nx := by unfold stepN; rw [hh]; exact d1
      have hD : stepD S a = d := by unfold stepD; rw [hh]; exact d2
      clear hd d1 d2 d3 hh
      by_cases hbp : b.length = S.page
      · have q1 : ((b.length : Int) != (S.page : Int)) = false := by rw [hbp]; simp
        rw [if_neg (by simp [hbp])] at hz
        by_cases hc : (d.length : Int) ≠ must ∨ decide (nx = 0) ≠ last
        · rw [if_pos hc] at hz
          obtain ⟨hn, hdd⟩ := pg_bad hz (by decide)
          rw [hz, hn, hdd]
          clear hz hn hdd hbp hN hD
          by_cases hm : (d.length : Int) = must
          · have q2 : ((d.length : Int) != must) = false := by rw [hm]; simp
            have hc2 : decide (nx = 0) ≠ last := hc.resolve_left (fun h => h hm)
            clear hc hm
            by_cases h0 : nx = 0
            · have q3 : (nx == 0) = true := by rw [h0]; rfl
              have hl : last = false := by rw [decide_eq_true h0] at hc2; cases last <;> simp at hc2 ⊢
              subst hl
              clear hc2 h0
              go_enter Try.func72, Try.ntmps72
              go_wp2_with (first
                | (go_at_call 31; (with_reducible refine hRd.mono ?_); rintro e w2 ⟨bu, rfl, hS2⟩; have hrb := OwB.rd (hS2.head : OwB w2 0 bu b); obtain ⟨bA, bc, rfl, -⟩ := hrb.form)
                | (go_at_call 19; (with_reducible refine (hDc _ _ hrb).mono ?_); rintro e w3 ⟨du, rfl, ho3, hB3⟩; have hS4 : Sep w0 w3 (bytesE du d :: benchE gb gm pv S.read :: L) := (hS2.bytes hB3 ho3 (Nat.le_refl _)).sw1.tail; have hrd := OwB.rd (hS4.head : OwB w3 0 du d); obtain ⟨dA, dc, rfl, -⟩ := hrd.form; clear hS2 hrb)
                | (go_at_call 65; (with_reducible refine (hsz _ hS4.tail.head).mono ?_); rintro e w4 ⟨rfl, rfl⟩)
                | fail)
              go_ret3
              exact ⟨_, _, rfl, hS4.tail.nil⟩
            · have q3 : (nx == 0) = false := beq_eq_false_iff_ne.2 h0
              have hl : last = true := by rw [decide_eq_false h0] at hc2; cases last <;> simp at hc2 ⊢
              subst hl
              clear hc2 h0
              go_enter Try.func72, Try.ntmps72
              go_wp2_with (first
                | (go_at_call 31; (with_reducible refine hRd.mono ?_); rintro e w2 ⟨bu, rfl, hS2⟩; have hrb := OwB.rd (hS2.head : OwB w2 0 bu b); obtain ⟨bA, bc, rfl, -⟩ := hrb.form)
                | (go_at_call 19; (with_reducible refine (hDc _ _ hrb).mono ?_); rintro e w3 ⟨du, rfl, ho3, hB3⟩; have hS4 : Sep w0 w3 (bytesE du d :: benchE gb gm pv S.read :: L) := (hS2.bytes hB3 ho3 (Nat.le_refl _)).sw1.tail; have hrd := OwB.rd (hS4.head : OwB w3 0 du d); obtain ⟨dA, dc, rfl, -⟩ := hrd.form; clear hS2 hrb)
                | (go_at_call 65; (with_reducible refine (hsz _ hS4.tail.head).mono ?_); rintro e w4 ⟨rfl, rfl⟩)
                | fail)
              go_ret3
              exact ⟨_, _, rfl, hS4.tail.nil⟩
          · have q2 : ((d.length : Int) != must) = true := by simp only [bne, beq_eq_false_iff_ne.2 hm]; rfl
            clear hc hm
            go_enter Try.func72, Try.ntmps72
            go_wp2_with (first
              | (go_at_call 31; (with_reducible refine hRd.mono ?_); rintro e w2 ⟨bu, rfl, hS2⟩; have hrb := OwB.rd (hS2.head : OwB w2 0 bu b); obtain ⟨bA, bc, rfl, -⟩ := hrb.form)
              | (go_at_call 19; (with_reducible refine (hDc _ _ hrb).mono ?_); rintro e w3 ⟨du, rfl, ho3, hB3⟩; have hS4 : Sep w0 w3 (bytesE du d :: benchE gb gm pv S.read :: L) := (hS2.bytes hB3 ho3 (Nat.le_refl _)).sw1.tail; have hrd := OwB.rd (hS4.head : OwB w3 0 du d); obtain ⟨dA, dc, rfl, -⟩ := hrd.form; clear hS2 hrb)
              | (go_at_call 65; (with_reducible refine (hsz _ hS4.tail.head).mono ?_); rintro e w4 ⟨rfl, rfl⟩)
              | fail)
            go_ret3
            exact ⟨_, _, rfl, hS4.tail.nil⟩
        · rw [if_neg hc] at hz
          have hm : (d.length : Int) = must := Classical.byContradiction fun h => hc (.inl h)
          have hl : decide (nx = 0) = last := Classical.byContradiction fun h => hc (.inr h)
          have q2 : ((d.length : Int) != must) = false := by rw [hm]; simp
          have HN : Hid (pgN S a must last = nx ∧ pgD S a must last = d) := Lib.hid (by unfold pgN pgD; rw [hz, if_pos rfl, if_pos rfl]; exact ⟨hN, hD⟩)
          rw [hz, HN.out.1, HN.out.2]
          have hl2 := hl
          clear hz hc hm hl hbp hN hD
          by_cases h0 : nx = 0
          · have q3 : (nx == 0) = true := by rw [h0]; rfl
            have hl : last = true := by rw [← hl2, decide_eq_true h0]
            subst hl
            clear hl2 h0
            go_enter Try.func72, Try.ntmps72
            go_wp2_with (first
              | (go_at_call 31; (with_reducible refine hRd.mono ?_); rintro e w2 ⟨bu, rfl, hS2⟩; have hrb := OwB.rd (hS2.head : OwB w2 0 bu b); obtain ⟨bA, bc, rfl, -⟩ := hrb.form)
              | (go_at_call 19; (with_reducible refine (hDc _ _ hrb).mono ?_); rintro e w3 ⟨du, rfl, ho3, hB3⟩; have hS4 : Sep w0 w3 (bytesE du d :: benchE gb gm pv S.read :: L) := (hS2.bytes hB3 ho3 (Nat.le_refl _)).sw1.tail; have hrd := OwB.rd (hS4.head : OwB w3 0 du d); obtain ⟨dA, dc, rfl, -⟩ := hrd.form; clear hS2 hrb)
              | (go_at_call 65; (with_reducible refine (hsz _ hS4.tail.head).mono ?_); rintro e w4 ⟨rfl, rfl⟩)
              | fail)
            go_ret3
            exact ⟨.slice dA d.length dc, pv, by first | rfl | (simp; done), hS4⟩
          · have q3 : (nx == 0) = false := beq_eq_false_iff_ne.2 h0
            have hl : last = false := by rw [← hl2, decide_eq_false h0]
            subst hl
            clear hl2 h0
            go_enter Try.func72, Try.ntmps72
            go_wp2_with (first
              | (go_at_call 31; (with_reducible refine hRd.mono ?_); rintro e w2 ⟨bu, rfl, hS2⟩; have hrb := OwB.rd (hS2.head : OwB w2 0 bu b); obtain ⟨bA, bc, rfl, -⟩ := hrb.form)
              | (go_at_call 19; (with_reducible refine (hDc _ _ hrb).mono ?_); rintro e w3 ⟨du, rfl, ho3, hB3⟩; have hS4 : Sep w0 w3 (bytesE du d :: benchE gb gm pv S.read :: L) := (hS2.bytes hB3 ho3 (Nat.le_refl _)).sw1.tail; have hrd := OwB.rd (hS4.head : OwB w3 0 du d); obtain ⟨dA, dc, rfl, -⟩ := hrd.form; clear hS2 hrb)
              | (go_at_call 65; (with_reducible refine (hsz _ hS4.tail.head).mono ?_); rintro e w4 ⟨rfl, rfl⟩)
              | fail)
            go_ret3
            exact ⟨.slice dA d.length dc, pv, by first | rfl | (simp; done), hS4⟩
      · have q1 : ((b.length : Int) != (S.page : Int)) = true := by simp only [bne, beq_eq_false_iff_ne.2 (show (b.length : Int) ≠ (S.page : Int) by omega)]; rfl
        rw [if_pos hbp] at hz
        obtain ⟨hn, hdd⟩ := pg_bad hz (by decide)
        rw [hz, hn, hdd]
        clear hz hn hdd hbp hN hD
        go_enter Try.func72, Try.ntmps72
        go_wp2_with (first
          | (go_at_call 31; (with_reducible refine hRd.mono ?_); rintro e w2 ⟨bu, rfl, hS2⟩; have hrb := OwB.rd (hS2.head : OwB w2 0 bu b); obtain ⟨bA, bc, rfl, -⟩ := hrb.form)
          | (go_at_call 19; (with_reducible refine (hDc _ _ hrb).mono ?_); rintro e w3 ⟨du, rfl, ho3, hB3⟩; have hS4 : Sep w0 w3 (bytesE du d :: benchE gb gm pv S.read :: L) := (hS2.bytes hB3 ho3 (Nat.le_refl _)).sw1.tail; have hrd := OwB.rd (hS4.head : OwB w3 0 du d); obtain ⟨dA, dc, rfl, -⟩ := hrd.form; clear hS2 hrb)
          | (go_at_call 65; (with_reducible refine (hsz _ hS4.tail.head).mono ?_); rintro e w4 ⟨rfl, rfl⟩)
          | fail)
        go_ret3
        exact ⟨_, _, rfl, hS4.tail.nil⟩
end
end Go.Proofs.Ytgnhakgfgdelpaa

-- espalierref09.chain: the walk.
namespace Go.Proofs.Ytgnhakgfgdelpaa
open Go.RowKit Go.Maps
section
variable {w0 w : World} {gb gm : Nat} {pv : Int → Option Value} {S : BS} {L : List Ent}
def RChAt (gb gm : Nat) (w0 : World) (L : List Ent) (r : ChR) (e : Ending) (w' : World) : Prop :=
  ∃ pu ou pv', e = .returned (.tuple #[pu, ou, .int .i64 r.1]) ∧ Sep w0 w' (intsE pu r.2.1 :: bytesE ou r.2.2.1 :: benchE gb gm pv' r.2.2.2 :: L)
theorem RChAt.bad {w' : World} {z : Int} {pv' : Int → Option Value} {S' : BS} (h : Sep w0 w' (benchE gb gm pv' S' :: L)) : RChAt gb gm w0 L (z, [], [], S') (.returned (.tuple #[.slice none 0 0, .slice none 0 0, .int .i64 z])) w' :=
  ⟨_, _, _, rfl, h.nil.nilI⟩
theorem min_mul (k h n : Nat) (hk : k * h < n) : min (k * h) n = k * h := by omega
set_option maxRecDepth 100000 in
set_option maxHeartbeats 8000000 in
theorem RChain_any (hS : Sep w0 w (benchE gb gm pv S :: L)) (first : Int) (hfi : i64w first) (n most : Nat) (hn : n ≤ 65536) (hmn : most ≤ n) :
    Calls Try.prog 64 #[.pointer (some ⟨gb, 0, none⟩), .int .i64 first, .int .i64 (n : Int), .int .i64 ((nCh most (S.page - 16) : Nat) : Int)] w (RChAt gb gm w0 L (chF most (most + 1) S first n [] [])) := by
  have hE : (benchE gb gm pv S).p w := hS.head
  have hok := hE.2.2.1
  obtain ⟨hp1, hp2⟩ := isPowB_range hok.page
  have hSz := BSize_any hE
  obtain ⟨h, Hh⟩ : ∃ h : Nat, Hid (S.page - 16 = h) := ⟨_, Lib.hid rfl⟩
  have hh1 : 1 ≤ h := by have := Hh.out; omega
  have hh2 : h ≤ 65536 := by have := Hh.out; omega
  have hhp : (S.page : Int) - 16 = (h : Int) := by have := Hh.out; omega
  have HHP := Lib.hid hhp
  have ewh : IntKind.i64.wrap ((S.page : Int) - 16) = (h : Int) := by rw [hhp, IntKind.wrap_i64]; omega
  have hPg := RPages_any (S.page : Int) (n : Int) (by unfold i64w; omega) (by unfold i64w; omega) w
  have hmm : nCh most h ≤ most := by
    rcases Nat.lt_or_ge most (nCh most h) with h1 | h1
    · have := (nCh_lt (len := most) (h := h) (k := most) hh1).1 h1
      have := Nat.le_mul_of_pos_right most (show 0 < h by omega)
      omega
    · exact h1
  rw [Hh.out]
  obtain ⟨all, Hall⟩ : ∃ all : Int, Hid (pagesF S.page n = all) := ⟨_, Lib.hid rfl⟩
  rw [Hall.out] at hPg
  have Hal2 : Hid (1 ≤ n → all = (nCh n h : Nat)) := Lib.hid fun h1 => by rw [← Hall.out, ← (nCh_pages hok.page h1).1, Hh.out]
  have hal0 : 0 ≤ all ∧ all ≤ 65536 := by
    have h1 := @pagesF_nonneg (S.page : Int) (n : Int)
    have h2 := pagesF_bound (p := S.page) (n := n) (by omega)
    have := Hall.out
    omega
  obtain ⟨many, Hm⟩ : ∃ m, Hid (nCh most h = m) := ⟨_, Lib.hid rfl⟩
  rw [Hm.out] at hmm ⊢
  clear hhp
  go_enter Try.func64, Try.ntmps64
  go_upto_region 7 with (first
    | (go_at_call 65; (with_reducible refine hSz.mono ?_); rintro e w1 ⟨rfl, rfl⟩)
    | (go_at_call 11; (with_reducible refine hPg.mono ?_); rintro e w1 ⟨rfl, rfl⟩)
    | fail)
  go_loopw [11, 12, 15, 16] (fun pu ou a i wr => ∃ (k : Nat) (Sk : BS) (pages : List Int) (out : List UInt8) (pvk : Int → Option Value) (at_ : Int), k ≤ many ∧ i = .int .i64 (k : Int) ∧ a = .int .i64 at_ ∧ i64w at_ ∧
    out.length = min (k * h) n ∧ pages.length = k ∧ Hid (Sk.page = S.page) ∧ Hid (chF most (most + 1) S first n [] [] = chF most (most + 1 - k) Sk at_ ((n : Int) - out.length) pages out) ∧
    Sep w0 wr (benchE gb gm pvk Sk :: intsE pu pages :: bytesE ou out :: L)) (fun _ _ _ i _ => many - (intOf i).toNat)
  case atStart => exact ⟨0, S, [], [], pv, first, Nat.zero_le _, rfl, rfl, hfi, by simp, rfl, Lib.hid rfl, Lib.hid (by simp), hS.nil.nilI.sw2⟩
  case round =>
    clear hS hE hSz hfi hPg ewh
    obtain ⟨k, Sk, pages, out, pvk, at_, hk, rfl, rfl, hai, hol, hpl, HP, HC, hSk⟩ := hrel
    by_cases hlt : k < many
    · have i1 : (k : Int) < (many : Int) := by omega
      have hkm : k * h < most := (nCh_lt hh1).1 (by rw [Hm.out]; exact hlt)
      have hol2 : out.length = k * h := by omega
      have HGE := Lib.hid (show ¬ (most : Int) ≤ (out.length : Int) by omega)
      have hf1 : 1 ≤ most + 1 - k := by omega
      have HOL := Lib.hid hol
      clear hol
      have HLA := Lib.hid <| nCh_last (len := n) (h := h) (k := k) hh1 ((nCh_lt hh1).2 (by omega))
      have hpi : OwI wr 0 u11 pages := hSk.tail.head
      have hri := OwI.rd hpi
      obtain ⟨A, c, rfl, -⟩ := hri.form
      go_upto_region 10 with (fail)
      clear hpi
      obtain ⟨wq, rfl⟩ : ∃ wq, wq = wr := ⟨_, rfl⟩
      go_loopw [17] (fun i wr => ∃ q : Nat, q ≤ k ∧ i = .int .i64 (q : Int) ∧ wq = wr ∧ Hid (∀ j (hj : j < pages.length), j < q → pages[j] ≠ at_)) (fun i _ => k - (intOf i).toNat)
      case atStart => exact ⟨0, Nat.zero_le _, rfl, rfl, Lib.hid (fun j _ h => absurd h (Nat.not_lt_zero _))⟩
      case round =>
        obtain ⟨q, hq, rfl, rfl, HB⟩ := hrel
        by_cases hql : q < k
        · have i2 : (q : Int) < (pages.length : Int) := by omega
          have hqp : q < pages.length := by omega
          obtain ⟨ad, rfl, hcell⟩ := hri.at_ hqp
          by_cases he : pages[q] = at_
          · have HX : Hid (chF most (most + 1) S first n [] [] = (90, [], [], Sk)) := by
              show _ = _
              have hin : at_ ∈ pages := by rw [← he]; exact List.getElem_mem hqp
              rw [HC.out, chF_bad (z := 90) (by have := HGE.out; omega) hf1 (step_in hin).1 (by decide) (step_in (left := 0) hin).2]
            have e1 : (pages[q] == at_) = true := by rw [he]; simp
            clear he
            generalize pages[q] = y at *
            go_wp2_with fail
            go_ret3
            rw [HX.out]
            exact RChAt.bad (hSk.sw1.tail.sw1.tail)
          · have e1 : (pages[q] == at_) = false := beq_eq_false_iff_ne.2 he
            have HN : Hid (∀ j (hj : j < pages.length), j < q + 1 → pages[j] ≠ at_) := Lib.hid (fun j hj h => by
              rcases (by omega : j < q ∨ j = q) with h1 | rfl
              · exact HB.out j hj h1
              · exact he)
            clear he
            generalize pages[q] = y at *
            go_wp2_with fail
            go_roundw
            case rel => exact ⟨q + 1, by omega, by go_num, by trivial, HN⟩
            case measure => simp [intOf]; omega
        · obtain rfl : q = k := by omega
          have hnin : at_ ∉ pages := fun hm => by
            obtain ⟨j, hj, he⟩ := List.getElem_of_mem hm
            exact HB.out j hj (by omega) he
          have i2 : ¬ (q : Int) < (pages.length : Int) := by omega
          clear HB
          have HNIN := Lib.hid hnin
          obtain ⟨lo, Hlo⟩ : ∃ lo : Nat, Hid (q * h = lo) := ⟨_, Lib.hid rfl⟩
          have hlo : out.length = lo := by rw [← Hlo.out]; exact hol2
          have hlon : lo < n := by rw [← Hlo.out]; omega
          have hkm' : lo < most := by rw [← Hlo.out]; exact hkm
          obtain ⟨mu, Hmu⟩ : ∃ mu : Int, Hid (min ((n : Int) - (lo : Int)) (h : Int) = mu) := ⟨_, Lib.hid rfl⟩
          obtain ⟨last, Hla⟩ : ∃ b : Bool, Hid (decide ((n : Int) - (lo : Int) ≤ (h : Int)) = b) := ⟨_, Lib.hid rfl⟩
          have em1 : (h : Int) * (q : Int) = (lo : Int) := by rw [← Hlo.out]; push_cast; exact Int.mul_comm _ _
          have ewa : IntKind.i64.wrap ((h : Int) * (q : Int)) = (lo : Int) := by rw [em1, IntKind.wrap_i64]; omega
          have ewb : IntKind.i64.wrap ((n : Int) - (lo : Int)) = (n : Int) - (lo : Int) := by rw [IntKind.wrap_i64]; omega
          have ewc : IntKind.i64.wrap (all - 1) = all - 1 := by rw [IntKind.wrap_i64]; omega
          have emin : (if (n : Int) - (lo : Int) < (h : Int) then (n : Int) - (lo : Int) else (h : Int)) = mu := by
            rw [← Hmu.out]
            split <;> omega
          have HMIN := Lib.hid emin
          have elast : ((q : Int) == all - 1) = last := by
            have h1 := Hal2.out (by omega)
            have h2 := HLA.out
            rw [Hlo.out] at h2
            rw [← Hla.out]
            by_cases h3 : (n : Int) - (lo : Int) ≤ (h : Int)
            · rw [decide_eq_true h3, h1]
              have := h2.2 (by omega)
              rw [← this]; simp
            · rw [decide_eq_false h3]
              exact beq_eq_false_iff_ne.2 (fun e => by
                have := h2.1 (by omega)
                omega)
          rw [hpl] at hSk
          have hC := RPage_any hSk at_ hai mu last
          have hpp : (Sk.page : Int) - 16 = (h : Int) := by rw [HP.out]; exact HHP.out
          obtain ⟨hst, hss⟩ := stepZ_pg (S := Sk) (a := at_) (left := (n : Int) - out.length) HNIN.out
          rw [hpp, hlo, Hmu.out, Hla.out] at hst
          clear em1 emin hnin
          by_cases hz : pgZ Sk at_ mu last = 0
          · rw [hz] at hst
            obtain ⟨b, nx, d, -, hhd, hdd, -, hdl, -, k3, k4⟩ := step_zero hst
            obtain ⟨r1, r2, r3, -, -⟩ := dec_rng hdd
            rw [hpp, Hmu.out] at hdl
            have hN : pgN Sk at_ mu last = nx := by unfold pgN; rw [if_pos hz, k3]
            have hD : pgD Sk at_ mu last = d := by unfold pgD; rw [if_pos hz, k4]
            have hSr : pgS Sk at_ = Sk.read := by unfold pgS; rw [hhd]
            rw [hz, hN, hD, hSr] at hC
            have HX : Hid (chF most (most + 1) S first n [] [] = chF most (most + 1 - (q + 1)) Sk.read nx ((n : Int) - ((out ++ d).length : Nat)) (pages ++ [at_]) (out ++ d)) := by
              show _ = _
              rw [HC.out, chF_next (by have := HGE.out; omega) hf1 (by rw [hlo]; exact hst) k3 k4, show most + 1 - q - 1 = most + 1 - (q + 1) by omega]
              congr 1
              rw [List.length_append]; omega
            have HL : Hid ((out ++ d).length = min ((q + 1) * h) n) := Lib.hid (by
              have h5 : (q + 1) * h = q * h + h := by rw [Nat.add_mul, Nat.one_mul]
              have h6 := Hmu.out
              have h7 := Hlo.out
              rw [List.length_append, h5]
              omega)
            have HI : Hid (i64w nx) := Lib.hid (by unfold i64w; omega)
            have hsz1 : (pages.length + 1) * 8 ≤ 140737488355328 := by omega
            have hsz2 : out.length + d.length ≤ 140737488355328 := by have := Hmu.out; omega
            clear hz hst hss hhd hdd hdl k3 k4 r1 r2 r3 hN hD hSr hpp hlo hlon hkm' hol2
            go_upto_region 15 with (fail)
            rw [HMIN.out]
            go_wp2_with (first
              | (go_at_call 72; (with_reducible refine hC.mono ?_); rintro e w3 ⟨du, pv3, rfl, hS3⟩)
              | (at_builtin; refine wp_append_I1 rfl (.tmp 69) (.tmp 71) rfl 0 _ _ rfl (show OwI w3 0 (.slice A q c) pages from hS3.tail.tail.head) at_ _ rfl hsz1 (Nat.zero_le _) ?_; intro u w5 hO5 hg5 hb5; have hS5 : Sep w0 w5 (bytesE u12 out :: intsE u (pages ++ [at_]) :: bytesE du d :: benchE gb gm pv3 Sk.read :: L) := (Sep.appI (v := .slice A q c) hS3.sw2 hO5 hg5 (by rcases hb5 with e | e; exact .inl e; exact .inr ⟨_, e, by omega⟩)).sw3; clear hO5 hg5 hb5 hS3)
              | (at_builtin; refine wp_append_B rfl (.tmp 73) (.tmp 74) rfl 0 _ _ rfl (show OwB w5 0 u12 out from hS5.head) _ _ rfl (OwB.rd (hS5.tail.tail.head : OwB w5 0 du d)) hsz2 (Nat.zero_le _) ?_; intro ou w6 hO6 hg6 hb6; have hS6 : Sep w0 w6 (bytesE ou (out ++ d) :: intsE u (pages ++ [at_]) :: bytesE du d :: benchE gb gm pv3 Sk.read :: L) := hS5.appended hO6 hg6 hb6; clear hO6 hg6 hb6 hS5)
              | fail)
            go_roundw
            case rel => exact ⟨q + 1, Sk.read, pages ++ [at_], out ++ d, pv3, nx, by omega, by go_num, by first | rfl | trivial, HI.out, HL.out, by rw [List.length_append, List.length_singleton]; omega, HP, HX, (hS6.sw2.tail.sw2).sn [_]⟩
            case measure => simp [intOf]; omega
          · obtain ⟨hN, hD⟩ := pg_bad rfl hz
            rw [hN, hD] at hC
            have e3 : (pgZ Sk at_ mu last != 0) = true := by simp only [bne, beq_eq_false_iff_ne.2 hz]; rfl
            have HX : Hid (chF most (most + 1) S first n [] [] = (pgZ Sk at_ mu last, [], [], pgS Sk at_)) := by
              show _ = _
              rw [HC.out, chF_bad (z := pgZ Sk at_ mu last) (by have := HGE.out; omega) hf1 (by rw [hlo]; exact hst) hz hss]
            clear hz hst hss hN hD hpp hlo hlon hkm' hol2
            generalize pgZ Sk at_ mu last = z at *
            generalize pgS Sk at_ = S2 at *
            go_upto_region 15 with (fail)
            rw [HMIN.out]
            go_wp2_with (first
              | (go_at_call 72; (with_reducible refine hC.mono ?_); rintro e w3 ⟨du, pv3, rfl, hS3⟩)
              | fail)
            go_ret3
            rw [HX.out]
            exact RChAt.bad (hS3.tail.sw1.tail.sw1.tail)
    · obtain rfl : k = many := by omega
      have hdone : (most : Int) ≤ (out.length : Int) := by
        have := nCh_lt (len := most) (h := h) (k := k) hh1
        have := Hm.out
        omega
      have HX : Hid (chF most (most + 1) S first n [] [] = (0, pages, out, Sk)) := by
        show _ = _
        rw [HC.out, chF_done hdone]
      clear hol hdone
      have i1 : ¬ (k : Int) < (k : Int) := by omega
      go_wp2_with fail
      go_ret3
      rw [HX.out]
      exact ⟨_, _, _, rfl, hSk.sw1.sn [_]⟩
end
end Go.Proofs.Ytgnhakgfgdelpaa

-- espalierref09.Read, List, Slice, Free: walks.
namespace Go.Proofs.Ytgnhakgfgdelpaa
open Go.RowKit Go.Maps
def RdAt (gb gm : Nat) (w0 : World) (L : List Ent) (r : ChR) (e : Ending) (w' : World) : Prop :=
  ∃ ou pv', e = .returned (.tuple #[ou, .int .i64 r.1]) ∧ Sep w0 w' (bytesE ou r.2.2.1 :: benchE gb gm pv' r.2.2.2 :: L)
def LiAt (gb gm : Nat) (w0 : World) (L : List Ent) (r : ChR) (e : Ending) (w' : World) : Prop :=
  ∃ pu pv', e = .returned (.tuple #[pu, .int .i64 r.1]) ∧ Sep w0 w' (intsE pu r.2.1 :: benchE gb gm pv' r.2.2.2 :: L)
def SlAt (gb gm : Nat) (w0 : World) (L : List Ent) (r : ChR) (e : Ending) (w' : World) : Prop :=
  ∃ u ou out pv', e = .returned (.tuple #[u, .int .i64 r.1]) ∧ (∀ W, OwB W 0 ou out → RdB W u r.2.2.1) ∧ Sep w0 w' (bytesE ou out :: benchE gb gm pv' r.2.2.2 :: L)
theorem SlAt.bad {gb gm : Nat} {w0 w' : World} {L : List Ent} {z : Int} {ps : List Int} {pv : Int → Option Value} {S : BS} (h : Sep w0 w' (benchE gb gm pv S :: L)) : SlAt gb gm w0 L (z, ps, [], S) (.returned (.tuple #[.slice none 0 0, .int .i64 z])) w' :=
  ⟨.slice none 0 0, .slice none 0 0, [], pv, rfl, fun W _ => RdB.nil, h.nil⟩
section
variable {w0 w : World} {gb gm : Nat} {pv : Int → Option Value} {S : BS} {L : List Ent}
set_option maxRecDepth 100000 in
set_option maxHeartbeats 2000000 in
theorem RRead_any (hS : Sep w0 w (benchE gb gm pv S :: L)) (first : Int) (hfi : i64w first) (n : Int) (hn : i64w n) :
    Calls Try.prog 50 #[.pointer (some ⟨gb, 0, none⟩), .int .i64 first, .int .i64 n] w (RdAt gb gm w0 L (allCh S first n)) := by
  cases hs : sizeB n with
  | false =>
    have HV : Hid (allCh S first n = (31, [], [], S)) := by show _ = _; unfold allCh; rw [hs]; rfl
    rcases (by have := sizeB_false hs; omega : n < 1 ∨ (¬ n < 1 ∧ 65536 < n)) with h1 | ⟨h1, h2⟩
    · clear hs
      go_enter Try.func50, Try.ntmps50
      go_wp2_with fail
      go_ret2
      rw [HV.out]
      first | exact ⟨.slice none 0 0, pv, rfl, hS.nil⟩ | exact ⟨.slice none 0 0, rfl, pv, hS.nil⟩
    · clear hs
      go_enter Try.func50, Try.ntmps50
      go_wp2_with fail
      go_ret2
      rw [HV.out]
      first | exact ⟨.slice none 0 0, pv, rfl, hS.nil⟩ | exact ⟨.slice none 0 0, rfl, pv, hS.nil⟩
  | true =>
    obtain ⟨h1, h2⟩ := sizeB_true hs
    obtain ⟨m, rfl⟩ : ∃ m : Nat, n = (m : Int) := ⟨n.toNat, by omega⟩
    have HV : Hid (allCh S first m = chF m (m + 1) S first m [] []) := by show _ = _; unfold allCh; rw [hs]; rfl
    have hE : (benchE gb gm pv S).p w := hS.head
    have hSz := BSize_any hE
    have hPg := RPages_any (S.page : Int) (m : Int) (by have := isPowB_range hE.2.2.1.page; unfold i64w; omega) hn w
    rw [← (nCh_pages hE.2.2.1.page (show 1 ≤ m by omega)).1] at hPg
    have hC := RChain_any hS first hfi m m (by omega) (Nat.le_refl _)
    clear hs
    generalize chF m (m + 1) S first m [] [] = r at *
    generalize nCh m (S.page - 16) = many at *
    have i1 : ¬ (m : Int) < 1 := by omega
    have i2 : ¬ 65536 < (m : Int) := by omega
    clear h1 h2 hE
    go_enter Try.func50, Try.ntmps50
    go_wp2_with (first
      | (go_at_call 65; (with_reducible refine hSz.mono ?_); rintro e w1 ⟨rfl, rfl⟩)
      | (go_at_call 11; (with_reducible refine hPg.mono ?_); rintro e w1 ⟨rfl, rfl⟩)
      | (go_at_call 64; (with_reducible refine hC.mono ?_); rintro e w2 ⟨pu, ou, pv2, rfl, hS2⟩)
      | fail)
    go_ret2
    rw [HV.out]
    first | exact ⟨ou, pv2, rfl, hS2.tail⟩ | exact ⟨ou, rfl, pv2, hS2.tail⟩
set_option maxRecDepth 100000 in
set_option maxHeartbeats 2000000 in
theorem RList_any (hS : Sep w0 w (benchE gb gm pv S :: L)) (first : Int) (hfi : i64w first) (n : Int) (hn : i64w n) :
    Calls Try.prog 53 #[.pointer (some ⟨gb, 0, none⟩), .int .i64 first, .int .i64 n] w (LiAt gb gm w0 L (allCh S first n)) := by
  cases hs : sizeB n with
  | false =>
    have HV : Hid (allCh S first n = (31, [], [], S)) := by show _ = _; unfold allCh; rw [hs]; rfl
    rcases (by have := sizeB_false hs; omega : n < 1 ∨ (¬ n < 1 ∧ 65536 < n)) with h1 | ⟨h1, h2⟩
    · clear hs
      go_enter Try.func53, Try.ntmps53
      go_wp2_with fail
      go_ret2
      rw [HV.out]
      first | exact ⟨.slice none 0 0, pv, rfl, hS.nilI⟩ | exact ⟨.slice none 0 0, rfl, pv, hS.nilI⟩
    · clear hs
      go_enter Try.func53, Try.ntmps53
      go_wp2_with fail
      go_ret2
      rw [HV.out]
      first | exact ⟨.slice none 0 0, pv, rfl, hS.nilI⟩ | exact ⟨.slice none 0 0, rfl, pv, hS.nilI⟩
  | true =>
    obtain ⟨h1, h2⟩ := sizeB_true hs
    obtain ⟨m, rfl⟩ : ∃ m : Nat, n = (m : Int) := ⟨n.toNat, by omega⟩
    have HV : Hid (allCh S first m = chF m (m + 1) S first m [] []) := by show _ = _; unfold allCh; rw [hs]; rfl
    have hE : (benchE gb gm pv S).p w := hS.head
    have hSz := BSize_any hE
    have hPg := RPages_any (S.page : Int) (m : Int) (by have := isPowB_range hE.2.2.1.page; unfold i64w; omega) hn w
    rw [← (nCh_pages hE.2.2.1.page (show 1 ≤ m by omega)).1] at hPg
    have hC := RChain_any hS first hfi m m (by omega) (Nat.le_refl _)
    clear hs
    generalize chF m (m + 1) S first m [] [] = r at *
    generalize nCh m (S.page - 16) = many at *
    have i1 : ¬ (m : Int) < 1 := by omega
    have i2 : ¬ 65536 < (m : Int) := by omega
    clear h1 h2 hE
    go_enter Try.func53, Try.ntmps53
    go_wp2_with (first
      | (go_at_call 65; (with_reducible refine hSz.mono ?_); rintro e w1 ⟨rfl, rfl⟩)
      | (go_at_call 11; (with_reducible refine hPg.mono ?_); rintro e w1 ⟨rfl, rfl⟩)
      | (go_at_call 64; (with_reducible refine hC.mono ?_); rintro e w2 ⟨pu, ou, pv2, rfl, hS2⟩)
      | fail)
    go_ret2
    rw [HV.out]
    first | exact ⟨pu, pv2, rfl, hS2.sw1.tail⟩ | exact ⟨pu, rfl, pv2, hS2.sw1.tail⟩
set_option maxRecDepth 100000 in
set_option maxHeartbeats 4000000 in
theorem RSlice_any (hS : Sep w0 w (benchE gb gm pv S :: L)) (first : Int) (hfi : i64w first) (n from_ to_ : Int) (hn : i64w n) (hfr : i64w from_) (hto : i64w to_) :
    Calls Try.prog 52 #[.pointer (some ⟨gb, 0, none⟩), .int .i64 first, .int .i64 n, .int .i64 from_, .int .i64 to_] w (SlAt gb gm w0 L (sliceCh S first n from_ to_)) := by
  cases hs : sizeB n with
  | false =>
    have HV : Hid (sliceCh S first n from_ to_ = (31, [], [], S)) := by show _ = _; unfold sliceCh; rw [if_pos hs]
    rcases (by have := sizeB_false hs; omega : n < 1 ∨ (¬ n < 1 ∧ 65536 < n)) with h1 | ⟨h1, h2⟩
    · clear hs
      go_enter Try.func52, Try.ntmps52
      go_wp2_with fail
      refine bodyPost_ret (v := .tuple #[.slice none 0 0, .int .i64 31]) ?_ rfl ?_
      · simp [results, Try.results52, go_sem]
      · rw [HV.out]; exact SlAt.bad hS
    · clear hs
      go_enter Try.func52, Try.ntmps52
      go_wp2_with fail
      refine bodyPost_ret (v := .tuple #[.slice none 0 0, .int .i64 31]) ?_ rfl ?_
      · simp [results, Try.results52, go_sem]
      · rw [HV.out]; exact SlAt.bad hS
  | true =>
    obtain ⟨h1, h2⟩ := sizeB_true hs
    have i1 : ¬ n < 1 := by omega
    have i2 : ¬ 65536 < n := by omega
    by_cases hb : from_ < 0 ∨ to_ < from_ ∨ n < to_
    · have HV : Hid (sliceCh S first n from_ to_ = (1, [], [], S)) := by show _ = _; unfold sliceCh; rw [if_neg (by rw [hs]; simp), if_pos hb]
      clear hs h1 h2
      rcases (by omega : from_ < 0 ∨ (¬ from_ < 0 ∧ to_ < from_) ∨ (¬ from_ < 0 ∧ ¬ to_ < from_ ∧ n < to_)) with b1 | ⟨b1, b2⟩ | ⟨b1, b2, b3⟩
      · clear hb
        go_enter Try.func52, Try.ntmps52
        go_wp2_with fail
        refine bodyPost_ret (v := .tuple #[.slice none 0 0, .int .i64 1]) ?_ rfl ?_
        · simp [results, Try.results52, go_sem]
        · rw [HV.out]; exact SlAt.bad hS
      · clear hb
        go_enter Try.func52, Try.ntmps52
        go_wp2_with fail
        refine bodyPost_ret (v := .tuple #[.slice none 0 0, .int .i64 1]) ?_ rfl ?_
        · simp [results, Try.results52, go_sem]
        · rw [HV.out]; exact SlAt.bad hS
      · clear hb
        go_enter Try.func52, Try.ntmps52
        go_wp2_with fail
        refine bodyPost_ret (v := .tuple #[.slice none 0 0, .int .i64 1]) ?_ rfl ?_
        · simp [results, Try.results52, go_sem]
        · rw [HV.out]; exact SlAt.bad hS
    · have b1 : ¬ from_ < 0 := by omega
      have b2 : ¬ to_ < from_ := by omega
      have b3 : ¬ n < to_ := by omega
      by_cases he : from_ = to_
      · have HV : Hid (sliceCh S first n from_ to_ = (0, [], [], S)) := by show _ = _; unfold sliceCh; rw [if_neg (by rw [hs]; simp), if_neg hb, if_pos he]
        have e1 : (from_ == to_) = true := by rw [he]; simp
        clear hs hb he h1 h2
        go_enter Try.func52, Try.ntmps52
        go_wp2_with fail
        refine bodyPost_ret (v := .tuple #[.slice none 0 0, .int .i64 0]) ?_ rfl ?_
        · simp [results, Try.results52, go_sem]
        · rw [HV.out]; exact SlAt.bad hS
      · have e1 : (from_ == to_) = false := beq_eq_false_iff_ne.2 he
        obtain ⟨m, rfl⟩ : ∃ m : Nat, n = (m : Int) := ⟨n.toNat, by omega⟩
        obtain ⟨lo, rfl⟩ : ∃ m : Nat, from_ = (m : Int) := ⟨from_.toNat, by omega⟩
        obtain ⟨hi, rfl⟩ : ∃ m : Nat, to_ = (m : Int) := ⟨to_.toNat, by omega⟩
        have HV : Hid (sliceCh S first m lo hi = if (chF hi (hi + 1) S first m [] []).1 = 0 then (0, [], ((chF hi (hi + 1) S first m [] []).2.2.1.take hi).drop lo, (chF hi (hi + 1) S first m [] []).2.2.2) else chF hi (hi + 1) S first m [] []) := by
          show _ = _; unfold sliceCh; rw [if_neg (by rw [hs]; simp), if_neg hb, if_neg he]; rfl
        have hE : (benchE gb gm pv S).p w := hS.head
        have hSz := BSize_any hE
        have hPg := RPages_any (S.page : Int) (hi : Int) (by have := isPowB_range hE.2.2.1.page; unfold i64w; omega) hto w
        rw [← (nCh_pages hE.2.2.1.page (show 1 ≤ hi by omega)).1] at hPg
        have hC := RChain_any hS first hfi m hi (by omega) (by omega)
        obtain ⟨c1, c2, -⟩ := chF_facts (most := hi) (by omega) (hi + 1) S first m [] [] (by simp) hfi (fun p h => by cases h)
        clear hs hb he h1 h2 hE
        generalize chF hi (hi + 1) S first m [] [] = r at *
        generalize nCh hi (S.page - 16) = many at *
        obtain ⟨z, ps, out, S2⟩ := r
        by_cases hz : z = 0
        · subst hz
          have HV2 : Hid (sliceCh S first m lo hi = (0, [], (out.take hi).drop lo, S2)) := by show _ = _; rw [HV.out]; rfl
          have c3 : (hi : Int) ≤ (out.length : Int) := c1 rfl
          clear HV c1 c2
          have j1 : (0 : Int) ≤ (lo : Int) := by omega
          have j2 : (lo : Int) ≤ (hi : Int) := by omega
          have HN2 := Lib.hid (show lo ≤ hi ∧ hi ≤ out.length by omega)
          go_enter Try.func52, Try.ntmps52
          go_wp2_with (first
            | (go_at_call 65; (with_reducible refine hSz.mono ?_); rintro e w1 ⟨rfl, rfl⟩)
            | (go_at_call 11; (with_reducible refine hPg.mono ?_); rintro e w1 ⟨rfl, rfl⟩)
            | (go_at_call 64; (with_reducible refine hC.mono ?_); rintro e w2 ⟨pu, ou, pv2, rfl, hS2⟩; have hr2 := OwB.rd (hS2.tail.head : OwB w2 0 ou out); obtain ⟨A, c, rfl, -⟩ := hr2.form; obtain ⟨A2, c2, q2, hr3⟩ := hr2.run_lh lo hi HN2.out.1 HN2.out.2)
            | fail)
          refine bodyPost_ret (v := .tuple #[.slice A2 (hi - lo) c2, .int .i64 0]) ?_ rfl ?_
          · simp [results, Try.results52, go_sem]
          · rw [HV2.out]
            refine ⟨.slice A2 (hi - lo) c2, .slice A out.length c, out, pv2, rfl, fun W hW => ?_, hS2.tail⟩
            · skip
              obtain ⟨A3, c3', q3, hr4⟩ := (OwB.rd hW).run_lh lo hi HN2.out.1 HN2.out.2
              have e := (q2 W).symm.trans (q3 W)
              injection e with e
              rw [e]
              exact hr4
        · have HV2 : Hid (sliceCh S first m lo hi = (z, ps, out, S2)) := by show _ = _; rw [HV.out, if_neg hz]
          have e2 : (z != 0) = true := by simp only [bne, beq_eq_false_iff_ne.2 hz]; rfl
          obtain ⟨c3, c4⟩ := c2 hz
          have c4 : out = [] := c4
          subst c4
          clear HV c1 c2 hz
          go_enter Try.func52, Try.ntmps52
          go_wp2_with (first
            | (go_at_call 65; (with_reducible refine hSz.mono ?_); rintro e w1 ⟨rfl, rfl⟩)
            | (go_at_call 11; (with_reducible refine hPg.mono ?_); rintro e w1 ⟨rfl, rfl⟩)
            | (go_at_call 64; (with_reducible refine hC.mono ?_); rintro e w2 ⟨pu, ou, pv2, rfl, hS2⟩)
            | fail)
          refine bodyPost_ret (v := .tuple #[.slice none 0 0, .int .i64 z]) ?_ rfl ?_
          · simp [results, Try.results52, go_sem]
          · rw [HV2.out]; exact SlAt.bad hS2.tail.tail
set_option maxRecDepth 100000 in
set_option maxHeartbeats 4000000 in
theorem RFree_any (hS : Sep w0 w (benchE gb gm pv S :: L)) (first : Int) (hfi : i64w first) (n : Int) (hn : i64w n) :
    Calls Try.prog 54 #[.pointer (some ⟨gb, 0, none⟩), .int .i64 first, .int .i64 n] w fun e w' => ∃ pv', e = .returned (.int .i64 (freeCh S first n).1) ∧ Sep w0 w' (benchE gb gm pv' (freeCh S first n).2 :: L) := by
  have hLi := RList_any hS first hfi n hn
  have HV : Hid (freeCh S first n = freeAll (allCh S first n).2.1 (allCh S first n).1 (allCh S first n).2.2.2) := Lib.hid rfl
  have hpi : (∀ p ∈ (allCh S first n).2.1, i64w p) ∧ ((allCh S first n).1 ≠ 0 → (allCh S first n).2.1 = []) := by
    unfold allCh
    cases hs : sizeB n with
    | false => exact ⟨fun p hp => by simp at hp, fun _ => rfl⟩
    | true =>
      have h := chF_facts (most := n) (by have := (sizeB_true hs).1; omega) (n.toNat + 1) S first n [] [] (by simp) hfi (fun p h => by cases h)
      exact ⟨h.2.2, fun h0 => (h.2.1 h0).1⟩
  generalize allCh S first n = r at *
  obtain ⟨z, ps, out, S2⟩ := r
  obtain ⟨hpi, hpe⟩ := hpi
  have hpi : ∀ p ∈ ps, i64w p := hpi
  have hpe : z ≠ 0 → ps = [] := hpe
  have HV : Hid (freeCh S first n = freeAll ps z S2) := HV
  by_cases hz0 : z = 0
  · subst hz0
    have HPI := Lib.hid hpi
    clear hpi hpe
    go_enter Try.func54, Try.ntmps54
    go_upto_region 5 with (first
      | (go_at_call 53; (with_reducible refine hLi.mono ?_); rintro e w2 ⟨pu, pv2, rfl, hS2⟩; have hr2 := OwI.rd (hS2.head : OwI w2 0 pu ps); obtain ⟨A, c, rfl, hm, hcm⟩ := hr2.form; clear hr2)
      | fail)
    go_loopw [9] (fun i wr => ∃ (k : Nat) (Sk : BS) (pvk : Int → Option Value), k ≤ ps.length ∧ i = .int .i64 (k : Int) ∧ Hid (freeAll ps 0 S2 = freeAll (ps.drop k) 0 Sk) ∧
      Sep w0 wr (intsE (.slice A ps.length c) ps :: benchE gb gm pvk Sk :: L)) (fun i _ => ps.length - (intOf i).toNat)
    case atStart => exact ⟨0, S2, pv2, Nat.zero_le _, rfl, Lib.hid rfl, hS2⟩
    case round =>
      clear hS hS2
      obtain ⟨k, Sk, pvk, hk, rfl, HF, hSk⟩ := hrel
      by_cases hlt : k < ps.length
      · have i1 : (k : Int) < (ps.length : Int) := by omega
        have hrk : RdI wr (.slice A ps.length c) ps := OwI.rd (hSk.head : OwI wr 0 (.slice A ps.length c) ps)
        obtain ⟨ad, rfl, hcell⟩ := hrk.at_ hlt
        have hpk := HPI.out _ (List.getElem_mem hlt)
        have HK1 := Lib.hid (And.intro hlt (Nat.le_trans hm hcm))
        have ewk : IntKind.i64.wrap ((k : Int) + 1) = (k : Int) + 1 := by rw [IntKind.wrap_i64]; omega
        have hB := BFree_any hSk.sw1 ps[k] hpk
        have hdr := List.drop_eq_getElem_cons hlt
        generalize ps[k] = p at *
        by_cases hz : freeZ Sk p = 0
        · have HX : Hid (freeAll ps 0 S2 = freeAll (ps.drop (k + 1)) 0 (freeS Sk p)) := by
            show _ = _
            rw [HF.out, hdr, freeAll, if_pos hz]
          rw [hz] at hB
          clear hdr hz hrk hpk
          go_wp2_with (first
            | (go_at_call 66; (with_reducible refine hB.mono ?_); rintro e w3 ⟨rfl, pv3, hS3⟩)
            | fail)
          go_roundw
          case rel => exact ⟨k + 1, _, pv3, HK1.out.1, by have := HK1.out; go_num, HX, hS3.sw1⟩
          case measure => have := HK1.out; first | (simp [intOf]; omega) | (simp [intOf, ewk]; omega)
        · have HX : Hid (freeCh S first n = (freeZ Sk p, freeS Sk p)) := by
            show _ = _
            rw [HV.out, HF.out, hdr, freeAll, if_neg hz]
          have e2 : (freeZ Sk p != 0) = true := by simp only [bne, beq_eq_false_iff_ne.2 hz]; rfl
          generalize freeZ Sk p = zz at *
          clear hdr hz hrk hpk
          go_wp2_with (first
            | (go_at_call 66; (with_reducible refine hB.mono ?_); rintro e w3 ⟨rfl, pv3, hS3⟩)
            | fail)
          go_ret
          rw [HX.out]
          exact ⟨_, rfl, hS3.sw1.tail⟩
      · obtain rfl : k = ps.length := by omega
        have HX : Hid (freeCh S first n = (0, Sk)) := by
          show _ = _
          rw [HV.out, HF.out, List.drop_length]; rfl
        go_wp2_with fail
        go_ret
        rw [HX.out]
        exact ⟨_, rfl, hSk.tail⟩
  · have hp0 := hpe hz0
    subst hp0
    have HX : Hid (freeCh S first n = (z, S2)) := by show _ = _; rw [HV.out]; rfl
    have e2 : (z != 0) = true := by simp only [bne, beq_eq_false_iff_ne.2 hz0]; rfl
    clear hpi hpe hz0 HV
    go_enter Try.func54, Try.ntmps54
    go_wp2_with (first
      | (go_at_call 53; (with_reducible refine hLi.mono ?_); rintro e w2 ⟨pu, pv2, rfl, hS2⟩)
      | fail)
    go_ret
    rw [HX.out]
    exact ⟨_, rfl, hS2.tail⟩
end
end Go.Proofs.Ytgnhakgfgdelpaa
