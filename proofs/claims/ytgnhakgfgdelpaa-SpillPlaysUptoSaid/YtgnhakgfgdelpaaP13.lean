/- espalierlaw09.SpillPlays: the statement 'SpillPlaysUptoSaid' is proved: whatever the input of bulk at most 1048576, the law returns true and the input reads as it did. -/
import Derived.Test.YtgnhakgfgdelpaaP7
import Derived.Test.YtgnhakgfgdelpaaP12
import Derived.BigQuiet
import Derived.Test.YtgnhakgfgdelpaaRows
import Derived.JoinedCond
import Derived.Carry
-- espalierlaw09.SpillPlays: the walk.
namespace Go.Proofs.Ytgnhakgfgdelpaa
open Go.RowKit Go.Maps
set_option maxRecDepth 100000 in
set_option maxHeartbeats 32000000 in
theorem plays_any (page pages : Int) (v : Value) (l : List OpV) (w : World) (hl : RdOps w v l) (hn : l.length ≤ 1048576) :
    Calls Try.prog 8 #[.int .i64 page, .int .i64 pages, v] w fun e w' => e = .returned (.bool true) ∧ Below w.heap.size w w' := by
  obtain ⟨A, c, rfl, hlc, hcm, hcells⟩ := hl.form
  have hcm' : c ≤ 9223372036854775807 := hcm
  have HOK := Lib.hid hl.ok
  have HCE := Lib.hid hcells
  clear hcm hl hcells
  go_enter Try.func8, Try.ntmps8
  go_upto_region 4 with (first | (go_at_call 9; (with_reducible refine (awake_any _).mono ?_); rintro e w1 ⟨rfl, hB⟩) | fail)
  cases hnb : newB page pages with
  | false =>
    have hNB := NewB_bad 2 page pages (.inr rfl) hnb w1
    go_wp2_with (first | (go_at_call 21; (with_reducible refine hNB.mono ?_); rintro e w2 ⟨rfl, rfl⟩) | fail)
    go_ret
    exact ⟨rfl, hB.trans (((Below.refl _ _).alloc (Nat.le_refl _) _).mono hB.size)⟩
  | true =>
    have hNB := NewB_ok 2 page pages (.inr rfl) hnb w1 w1 [oldE w1] (Sep.start w1)
    have hNC := fun (W : World) (g m : Nat) (hS : Sep w1 W [benchE g m (fun _ => none) (emptyB 2 page pages), oldE w1]) => NewB_ok 2 page pages (.inr rfl) hnb w1 W _ hS
    clear hnb
    generalize emptyB 2 page pages = S0 at *
    go_upto_region 5 with (first
      | (go_at_call 21; (with_reducible refine hNB.mono ?_); rintro e w2 ⟨gb, gm, rfl, hS2⟩)
      | (go_at_call 21; (with_reducible refine (hNC _ _ _ hS2).mono ?_); rintro e w3 ⟨gb2, gm2, rfl, hS3⟩)
      | fail)
    have hS4 : Sep w1 (w3.alloc (.cells #[.pointer (some ⟨gb, 0, none⟩), .pointer (some ⟨gb2, 0, none⟩), .slice none 0 0, .slice none 0 0, .slice none 0 0, .slice none 0 0, .slice none 0 0] 59)) (blkE w3.heap.size 59 [.pointer (some ⟨gb, 0, none⟩), .pointer (some ⟨gb2, 0, none⟩), .slice none 0 0, .slice none 0 0, .slice none 0 0, .slice none 0 0, .slice none 0 0] :: benchE gb2 gm2 (fun _ => none) S0 :: benchE gb gm (fun _ => none) S0 :: [oldE w1]) := hS3.alloc 59 [.pointer (some ⟨gb, 0, none⟩), .pointer (some ⟨gb2, 0, none⟩), .slice none 0 0, .slice none 0 0, .slice none 0 0, .slice none 0 0, .slice none 0 0]
    clear hNB hNC hS2 hS3
    generalize w3.alloc (.cells #[.pointer (some ⟨gb, 0, none⟩), .pointer (some ⟨gb2, 0, none⟩), .slice none 0 0, .slice none 0 0, .slice none 0 0, .slice none 0 0, .slice none 0 0] 59) = w4 at *
    generalize w3.heap.size = pb at *
    have hbk : OBlk w4 pb 59 [.pointer (some ⟨gb, 0, none⟩), .pointer (some ⟨gb2, 0, none⟩), .slice none 0 0, .slice none 0 0, .slice none 0 0, .slice none 0 0, .slice none 0 0] := hS4.head
    have k0 := hbk.cell' (j := 0) rfl
    have k1 := hbk.cell' (j := 1) rfl
    have hP4 := PrAt.init hS4
    clear hbk hS4
    go_upto_region 8 with (fail)
    clear k0 k1
    go_loopw [9] (fun i wr => ∃ k : Nat, k ≤ l.length ∧ i = .int .i64 (k : Int) ∧ PrAt pb gb gm gb2 gm2 w1 wr [oldE w1] k) (fun i _ => l.length - (intOf i).toNat)
    case atStart => exact ⟨0, Nat.zero_le _, rfl, hP4⟩
    case round =>
      clear hP4
      obtain ⟨k, hk, rfl, hP⟩ := hrel
      have hBr := hB.trans (hP.belowO.mono hB.size)
      by_cases hlt : k < l.length
      · have ik : (k : Int) < (l.length : Int) := by omega
        have HK := Lib.hid hlt
        obtain ⟨ad, rfl, hcl⟩ := HCE.out k hlt
        have hoo := HOK.out _ (List.getElem_mem hlt)
        have hcw : ∀ r u, l[k].cells[r]? = some u → wr.cell? (ad.add (k * 6 + r)) = some u := fun r u hu => by
          have h1 := hcl r u hu
          exact (hBr.cell (World.block_lt_of_cell? w _ h1)).trans h1
        clear hcl
        generalize l[k] = o at *
        obtain ⟨ok, of_, on, ofr, oto, odv, od⟩ := o
        obtain ⟨hd, r0, r1, r2, r3, r4⟩ := hoo
        dsimp only at hd r0 r1 r2 r3 r4
        have e0 := hcw 0 _ rfl
        have e1 := hcw 1 _ rfl
        have e2 := hcw 2 _ rfl
        have e3 := hcw 3 _ rfl
        have e4 := hcw 4 _ rfl
        have e5 := hcw 5 _ rfl
        obtain ⟨DA, dc, rfl, -⟩ := hd.form
        rw [← add_of_add] at e0 e1 e2 e3 e4 e5
        have f0 : wr.cell? (ad.add (k * 6)) = some (.int .i64 ok) := e0
        have f1 : wr.cell? ⟨(ad.add (k * 6)).block, (ad.add (k * 6)).off + 1, none⟩ = some (.int .i64 of_) := e1
        have f2 : wr.cell? ⟨(ad.add (k * 6)).block, (ad.add (k * 6)).off + 2, none⟩ = some (.int .i64 on) := e2
        have f3 : wr.cell? ⟨(ad.add (k * 6)).block, (ad.add (k * 6)).off + 3, none⟩ = some (.int .i64 ofr) := e3
        have f4 : wr.cell? ⟨(ad.add (k * 6)).block, (ad.add (k * 6)).off + 4, none⟩ = some (.int .i64 oto) := e4
        have f5 : wr.cell? ⟨(ad.add (k * 6)).block, (ad.add (k * 6)).off + 5, none⟩ = some (.slice DA od.length dc) := e5
        clear e0 e1 e2 e3 e4 e5 hcw hlt
        by_cases hdl : 200000 < od.length
        · have i5 : 200000 < (od.length : Int) := by omega
          clear hdl
          go_wp2_with fail
          go_ret
          exact ⟨rfl, hBr⟩
        · have i5 : ¬ 200000 < (od.length : Int) := by omega
          have hpl := play_sep hP (by omega) ok of_ on ofr oto (.slice DA od.length dc) od (RdIn.oldP (hd.below hB (Nat.le_refl _)) (by simp)) (by omega) r1 r2 r3 r4
          unfold opV at hpl
          clear hdl hP hd r0 r1 r2 r3 r4
          go_upto_region 13 with (first | (go_at_call 29; (with_reducible refine hpl.mono ?_); rintro e w3 ⟨rfl, hP3⟩) | fail)
          obtain ⟨pv, pv2, S, fv, firsts, cv, came, wv, lv, lists, ov, other, hS, hb⟩ := hP3
          have HB := Lib.hid hb
          have hal := alike_sep hS
          clear hb f0 f1 f2 f3 f4 f5 hpl
          go_upto_region 14 with (first | (go_at_call 30; (with_reducible refine hal.mono ?_); rintro e w5 ⟨rfl, hS5⟩) | fail)
          have HP5 : Hid (PrAt pb gb gm gb2 gm2 w1 w5 [oldE w1] (k + 1)) := ⟨pv, pv2, S, fv, firsts, cv, came, wv, lv, lists, ov, other, hS5, HB.out⟩
          clear hal hS hS5
          go_wp2_with fail
          go_roundw
          case rel => exact ⟨k + 1, HK.out, by go_num, HP5.out⟩
          case measure => have := HK.out; simp [intOf]; omega
      · obtain rfl : k = l.length := by omega
        have ik : ¬ (l.length : Int) < (l.length : Int) := by omega
        obtain ⟨pv, pv2, S, fv, firsts, cv, came, wv, lv, lists, ov, other, hS, hb⟩ := hP
        have HB := Lib.hid hb
        have hbk : OBlk wr pb 59 [.pointer (some ⟨gb, 0, none⟩), .pointer (some ⟨gb2, 0, none⟩), fv, cv, wv, lv, ov] := hS.head
        have k1 := hbk.cell' (j := 1) rfl
        have hTL : (takenF S).length ≤ 65536 := Nat.le_trans (takenTo_len _ _) (show (benchE gb gm pv S).p wr from hS.tail.head).2.2.1.hi
        have hTr := takenF_i64 S (show (benchE gb gm pv S).p wr from hS.tail.head).2.2.1.hi
        have hT := BTaken_any (Sep.pick (L := [_, _, _]) [2, 0, 1] (by decide) rfl hS)
        clear hb hbk hlt
        generalize takenF S = T at *
        go_upto_region 17 with (first | (go_at_call 23; (with_reducible refine hT.mono ?_); rintro e w5 ⟨ut, rfl, hS5⟩) | fail)
        have hS6 : Sep w1 w5 (blkE pb 59 [.pointer (some ⟨gb, 0, none⟩), .pointer (some ⟨gb2, 0, none⟩), fv, cv, wv, lv, ov] :: benchE gb gm pv S :: benchE gb2 gm2 pv2 S :: intsE ut T :: intsE fv firsts :: prT cv came wv lv lists ov other [oldE w1]) := Sep.pick (L := [_, _, _, _, _]) [2, 3, 1, 0, 4] (by decide) rfl hS5
        obtain ⟨TA, tc, rfl, -⟩ := (OwI.rd (show OwI w5 0 ut T from hS6.tail.tail.tail.head)).form
        clear hT hS5 hS k1 hBr
        have HTR := Lib.hid hTr
        clear hTr
        go_upto_region 18 with (fail)
        go_loopw [13] (fun i wr => ∃ (q : Nat) (pv pv2 : Int → Option Value) (S : BS), q ≤ T.length ∧ i = .int .i64 (q : Int) ∧
          Sep w1 wr (blkE pb 59 [.pointer (some ⟨gb, 0, none⟩), .pointer (some ⟨gb2, 0, none⟩), fv, cv, wv, lv, ov] :: benchE gb gm pv S :: benchE gb2 gm2 pv2 S :: intsE (.slice TA T.length tc) T :: intsE fv firsts :: prT cv came wv lv lists ov other [oldE w1])) (fun i _ => T.length - (intOf i).toNat)
        case atStart => exact ⟨0, pv, pv2, S, Nat.zero_le _, rfl, hS6⟩
        case round =>
          clear hS6
          obtain ⟨q, pv, pv2, S, hq, rfl, hSq⟩ := hrel
          by_cases hlt : q < T.length
          · have iq : (q : Int) < (T.length : Int) := by omega
            have HQ := Lib.hid hlt
            have hSd := hSq.drew
            have hri : ∀ W, OwI W 0 (.slice TA T.length tc) T → ∃ ad, TA = some ad ∧ W.cell? (ad.add q) = some (.int .i64 T[q]) := fun W h => RdI.at_ (OwI.rd h) hlt
            obtain ⟨ad, rfl, e0⟩ := hri _ (hSd.tail.tail.tail.head)
            have HRI := Lib.hid hri
            have hnn := HTR.out _ (List.getElem_mem hlt)
            generalize T[q] = n at *
            have hbk : OBlk wr.drew pb 59 [.pointer (some ⟨gb, 0, none⟩), .pointer (some ⟨gb2, 0, none⟩), fv, cv, wv, lv, ov] := hSd.head
            have k0 := hbk.cell' (j := 0) rfl
            have hC := BRead_pg hSd.sw1 n hnn
            clear hbk hlt hri hSq
            go_upto_region 20 with (fail)
            go_region_held3 (fun w' => w'.cell? ⟨pb, 0, none⟩ = some (.pointer (some ⟨gb, 0, none⟩)) ∧ w'.cell? (ad.add q) = some (.int .i64 n))
              (first | exact ⟨k0, e0⟩ | (obtain ⟨ad2, h1, h2⟩ := HRI.out _ (hS6.tail.tail.tail.tail.head); cases h1; exact ⟨OBlk.cell' (show OBlk w6 pb 59 [.pointer (some ⟨gb, 0, none⟩), .pointer (some ⟨gb2, 0, none⟩), fv, cv, wv, lv, ov] from hS6.tail.tail.head) (j := 0) rfl, h2⟩))
              (first
                | (go_at_call 31; (with_reducible refine hC.mono ?_); rintro e w6 ⟨ua, za, rfl, hS6⟩)
                | fail)
            have hS7 : Sep w1 w6.drew (benchE gb2 gm2 pv2 S :: bytesE ua (pageB S n) :: benchE gb gm pv (pageS S n) :: blkE pb 59 [.pointer (some ⟨gb, 0, none⟩), .pointer (some ⟨gb2, 0, none⟩), fv, cv, wv, lv, ov] :: intsE (.slice (some ad) T.length tc) T :: intsE fv firsts :: prT cv came wv lv lists ov other [oldE w1]) := (Sep.pick (L := [_, _, _, _]) [3, 0, 1, 2] (by decide) rfl hS6).drew
            obtain ⟨ad2, h1, e1⟩ := HRI.out _ (hS7.tail.tail.tail.tail.head)
            cases h1
            have hbk : OBlk w6.drew pb 59 [.pointer (some ⟨gb, 0, none⟩), .pointer (some ⟨gb2, 0, none⟩), fv, cv, wv, lv, ov] := hS7.tail.tail.tail.head
            have k1 := hbk.cell' (j := 1) rfl
            have hC := BRead_pg hS7 n hnn
            clear hbk hS6 hSd k0 e0
            go_upto_region 21 with (fail)
            go_region_held3 (fun w' => w'.cell? ⟨pb, 1, none⟩ = some (.pointer (some ⟨gb2, 0, none⟩)) ∧ w'.cell? (ad.add q) = some (.int .i64 n))
              (first | exact ⟨k1, e1⟩ | (obtain ⟨ad2, h1, h2⟩ := HRI.out _ (hS8.tail.tail.tail.tail.tail.head); cases h1; exact ⟨OBlk.cell' (show OBlk w7 pb 59 [.pointer (some ⟨gb, 0, none⟩), .pointer (some ⟨gb2, 0, none⟩), fv, cv, wv, lv, ov] from hS8.tail.tail.tail.tail.head) (j := 1) rfl, h2⟩))
              (first
                | (go_at_call 31; (with_reducible refine hC.mono ?_); rintro e w7 ⟨ub, zb, rfl, hS8⟩)
                | fail)
            generalize pageB S n = b at *
            have s1 := run_B_string (OwB.rd (show OwB w7 0 ua b from hS8.tail.tail.head))
            have s2 := run_B_string (OwB.rd (show OwB w7 0 ub b from hS8.head))
            have HS9 : Hid (Sep w1 w7 (blkE pb 59 [.pointer (some ⟨gb, 0, none⟩), .pointer (some ⟨gb2, 0, none⟩), fv, cv, wv, lv, ov] :: benchE gb gm pv (pageS S n) :: benchE gb2 gm2 pv2 (pageS S n) :: intsE (.slice (some ad) T.length tc) T :: intsE fv firsts :: prT cv came wv lv lists ov other [oldE w1])) := Sep.pick (L := [_, _, _, _, _, _]) [4, 3, 1, 5] (by decide) rfl hS8
            clear hS7 hS8 k1 e1 hC
            go_wp2_with fail
            go_roundw
            case rel => exact ⟨q + 1, pv, pv2, pageS S n, HQ.out, by go_num, HS9.out⟩
            case measure => have := HQ.out; simp [intOf]; omega
          · obtain rfl : q = T.length := by omega
            have iq : ¬ (T.length : Int) < (T.length : Int) := by omega
            have hO := owned_sep (L := [oldE w1]) (Sep.pick (L := [_, _, _, _, _]) [0] (by decide) rfl hSq) HB.out (by omega)
            clear hSq hlt
            go_wp2_with (first | (go_at_call 32; (with_reducible refine hO.mono ?_); rintro e w9 ⟨rfl, hS9⟩) | fail)
            go_ret
            exact ⟨rfl, hB.trans ((hS9.belowOld (v := w1) (by simp)).mono hB.size)⟩
end Go.Proofs.Ytgnhakgfgdelpaa

-- The bounds of an integer that came in; a row whose statement bears the bound on the bulk.
namespace Go.Proofs.Ytgnhakgfgdelpaa
open Go.RowKit Go.WideShapes Go.ChangeShapes
theorem wf_i64 {n : Int} (h : (Lit.int .i64 n).wf = true) : -9223372036854775808 ≤ n ∧ n ≤ 9223372036854775807 := by
  simp [Lit.wf, IntKind.min, IntKind.max, IntKind.signed, IntKind.bits] at h
  exact h
theorem wf_u64 {n : Int} (h : (Lit.int .u64 n).wf = true) : ∃ k : Nat, n = (k : Int) ∧ k < 18446744073709551616 := by
  simp [Lit.wf, IntKind.min, IntKind.max, IntKind.signed, IntKind.bits] at h
  exact ⟨n.toNat, by omega, by omega⟩
theorem wf_u32 {n : Int} (h : (Lit.int .u32 n).wf = true) : ∃ k : Nat, n = (k : Int) ∧ k < 4294967296 := by
  simp [Lit.wf, IntKind.min, IntKind.max, IntKind.signed, IntKind.bits] at h
  exact ⟨n.toNat, by omega, by omega⟩
end Go.Proofs.Ytgnhakgfgdelpaa

-- espalierlaw09.SpillPlays: the statement 'SpillPlaysUptoSaid' is proved: whatever the input of bulk at most 1048576, the law returns true and the input reads as it did.
namespace Go.Proofs.Ytgnhakgfgdelpaa.spillPlays
open Go.ChangeShapes Go.WideShapes Go.ChangeAt Go.RowKit
theorem own : ownKnob Try.prog.godebug = none := by kernel_rfl
theorem laidOut : laidOutB Try.prog = true := by kernel_rfl
set_option maxRecDepth 100000 in
theorem lifted (os : Os) (started : os.Started) (H : Type) (enc : TypeId × Value → H) (F : Stop.Interp) :
    ReturnsInHanded {} Try.checked os 8 .any ((Rows.OpenSpec.upto Rows.spillPlaysSpec).pre6 enc Try.prog Try.f8 Rows.spillPlaysUptoRow.domain false) (((Rows.OpenSpec.upto Rows.spillPlaysSpec).at F).post enc Try.prog Try.f8 false true false false) := by
  refine law_lifts_upto (s := Rows.spillPlaysSpec) (C := Try.checked) (tb := 4) own started (by kernel_rfl) Try.func8
    (OpenSpec.witness (enc := enc) (C := Try.checked) (s := Rows.OpenSpec.upto Rows.spillPlaysSpec) (k := Rows.uptoSmall) rfl false ⟨#[], #[.int .i64 0, .int .i64 0, .slice none 0 0], []⟩ 8 (by kernel_rfl) (by kernel_rfl) (by kernel_rfl)
      (x := ([.lit (.int .i64 0), .lit (.int .i64 0), .nil], [], [])) (by kernel_rfl) rfl (by kernel_rfl))
    rfl rfl Try.underlying4 laidOut (by kernel_rfl) (fun ds hd => ?_) ?_
  · match ds, hd with
    | [d0, d1, d2], _ => rfl
  · intro W base args ds p hval0 hA0 hsz0
    have hval : ∀ (j : Nat) t v, Try.f8.params[j]? = some t → args[j]? = some v → Value.okWide Try.prog W .any base t v := hval0
    have hA : DataW.TrodAll enc Try.prog W 0 (fun _ => true) true Try.f8.params.toList args.toList ds p := hA0
    have hk : Rows.uptoBulkAll ds ≤ 1048576 := hsz0
    clear hval0 hA0 hsz0
    rw [Try.params8] at hA hval
    obtain ⟨v0, v1, v2, d0, d1, d2, p0, p1, p2, rfl, rfl, rfl, h0, h1, h2⟩ := trodAll_three hA
    obtain ⟨n0, rfl, _, _, _⟩ := open_int Try.underlying3 (hval 0 _ v0 rfl rfl) h0
    obtain ⟨n1, rfl, _, _, _⟩ := open_int Try.underlying3 (hval 1 _ v1 rfl rfl) h1
    obtain ⟨l, hl, hn⟩ := open_ops_upto (j := 2) (hval 2 _ v2 rfl rfl) h2 hk rfl
    exact plays_any n0 n1 v2 l W hl hn
theorem proved : Rows.SpillPlaysUptoSaid :=
  OpenClaim.holds_of_cond 8 Try.f8 rfl rfl rfl rfl rfl rfl rfl ⟨rfl, rfl, rfl, rfl, rfl⟩ rfl rfl rfl rfl rfl (by kernel_rfl) Try.func8 (by kernel_rfl)
    (of_decide_eq_true (by kernel_rfl)) (by unfold Func.isWrapper; first | (rw [if_pos (by decide +kernel)]; kernel_rfl) | (rw [if_neg (by decide +kernel)]; exact ⟨rfl, rfl⟩))
    (fun os started H enc _ F => lifted os started H enc F)
end Go.Proofs.Ytgnhakgfgdelpaa.spillPlays
