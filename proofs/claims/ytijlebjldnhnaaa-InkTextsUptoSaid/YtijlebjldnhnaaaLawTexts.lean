/- espalierlaw01.InkTexts: the walk. -/
import Derived.Test.YtijlebjldnhnaaaLawSums
import Derived.Test.YtijlebjldnhnaaaRefCommon
import Derived.Test.YtijlebjldnhnaaaInkRefTxt3
import Derived.Test.YtijlebjldnhnaaaRefInk
namespace Go.Proofs.Ytijlebjldnhnaaa
open Go.RowKit
theorem Lent_at (v : Value) (l : List UInt8) (w : World) (hv : RdB w v l) (hl : l.length ≤ 140737488355328) :
    Calls Try.prog 20 #[v] w fun e w' => ∃ g, e = .returned (.slice (some ⟨g, 0, none⟩) l.length (l.length + 3)) ∧ At w' w.heap.size w'.heap.size (.slice (some ⟨g, 0, none⟩) (l.length + 3) (l.length + 3)) (l ++ marks) ∧ Below w.heap.size w w' :=
  (Lent_any v l w hv hl).mono fun e w' ⟨g, he, ho, hb⟩ => ⟨g, he, ho.at', hb⟩
theorem At.part {w : World} {b t g n : Nat} {l : List UInt8} (h : At w b t (.slice (some ⟨g, 0, none⟩) (n + 3) (n + 3)) (l ++ marks)) (hn : l.length = n) : RdB w (.slice (some ⟨g, 0, none⟩) n (n + 3)) l := h.1.part hn
theorem bt_len (a b : List UInt8) : (btV a b).length ≤ b.length := by
  unfold btV
  cases decide (ordC a b < 0) <;> simp
  omega
theorem bh_len (l : List UInt8) : (bhV l).length ≤ l.length := by
  unfold bhV
  by_cases h : 0 < stripN l
  · rw [decide_eq_true h]
    have h1 := behL_length h
    have h2 := stripA_le l l.length
    unfold stripN at h1
    simp; omega
  · rw [decide_eq_false h]; simp
set_option maxRecDepth 100000 in
set_option maxHeartbeats 16000000 in
theorem texts_any (v va vb : Value) (ls : List (List UInt8)) (a b : List UInt8) (w : World) (hv : RdL w v ls) (ra : RdB w va a) (rb : RdB w vb b) (_ : ls.length ≤ 1048576) (hsz : ∀ l ∈ ls, l.length ≤ 1048576) (la : a.length ≤ 1048576) (lb : b.length ≤ 1048576) :
    Calls Try.prog 9 #[v, va, vb] w fun e w' => e = .returned (.bool true) ∧ Below w.heap.size w w' := by
  obtain ⟨A, c, rfl, hm⟩ := hv.form
  go_enter Try.func9, Try.ntmps9
  go_wp2_with fail
  refine (Great_any _ ls _ hv (fun l hl => by have := hsz l hl; omega)).mono ?_
  rintro e w0 ⟨⟨N, rfl, hN⟩, rfl⟩
  by_cases hg : (1000000 : Int) < (N : Int)
  · rw [decide_eq_true hg]
    go_wp2_with fail
    go_ret
    exact ⟨rfl, Below.refl _ _⟩
  rw [decide_eq_false hg]
  have hbulk : bulkL ls ≤ 1000000 := hN (by omega)
  clear hN hg
  go_wp2_with fail
  refine (live_any _).mono ?_
  rintro e w1 ⟨rfl, hb⟩
  go_wp2_with fail
  have hlen := bulkL_len ls
  go_loopw [9, 10] (fun got i wr => ∃ (k : Nat) (vs : List Value), i = .int .i64 (k : Int) ∧ k ≤ ls.length ∧ LentI w ls k got vs wr)
    (fun _ i _ => ls.length - (intOf i).toNat)
  case atStart => exact ⟨0, [], rfl, Nat.zero_le _, ⟨rfl, Own.nil _ _ _ _, fun j u h => by simp at h, fun i j u u' _ h => by simp at h, hb⟩⟩
  case round =>
    clear hb
    obtain ⟨k, vs, rfl, hk, hI⟩ := hrel
    by_cases hlt : k < ls.length
    · obtain ⟨ad, A2, c2, rfl, hcell, hr⟩ := (hv.below hI.hb (Nat.le_refl _)).at_ hlt
      have hml := bulkL_mem hlt
      have hvl : vs.length + 1 ≤ 1000000 := by rw [hI.len]; omega
      have hgd : Hid (ls.getD k [] = ls[k]) := Lib.hid (by simp [List.getD, hlt])
      generalize ls[k] = l at *
      obtain ⟨G, cG, rfl⟩ := hI.own.slice
      go_wp2_with fail
      refine (Lent_any _ l _ hr (by omega)).mono ?_
      rintro e w2 ⟨g, rfl, ol, hw⟩
      have hI2 := hI.below hw
      have hl2 : LentAt w2 wr.heap.size (.slice (some ⟨g, 0, none⟩) l.length (l.length + 3)) (ls.getD k []) := by rw [hgd.out]; exact ⟨g, rfl, ol⟩
      have hvs := hI.len
      have HV := Lib.hid hvs
      clear hvs
      go_wp2_with (first
        | (at_builtin; refine wp_append_L1 rfl (.tmp 48) (.tmp 50) rfl w.heap.size _ vs rfl hI2.own _ rfl 24 rfl (by omega) hI2.hb.size ?_; intro got3 w3 hg3 hgr3 _; have hI3 := hI.push hw hl2 hg3 hgr3)
        | fail)
      go_roundw
      case rel => exact ⟨k + 1, _, by go_num, by omega, hI3⟩
      case measure => simp [intOf]; omega
    · obtain rfl : k = ls.length := by omega
      obtain ⟨G, cG, rfl⟩ := hI.own.slice
      have hvs := hI.len
      rw [hvs]
      have HV := Lib.hid hvs
      clear hvs
      have hrl := hI.rdL
      rw [HV.out] at hrl
      go_wp2_with fail
      refine (Common_any _ ls _ hrl).mono ?_
      rintro e w2 ⟨rfl, hw⟩
      replace hI := hI.below hw
      clear hw hrl
      go_wp2_with fail
      refine (RCommon_any _ ls _ (hv.below hI.hb (Nat.le_refl _))).mono ?_
      rintro e w3 ⟨rfl, hw⟩
      replace hI := hI.below hw
      clear hw
      have hL := hI.look
      clear hI
      generalize comLs ls = S at *
      go_wp2_with fail
      go_loopw [14] (fun i wr => ∃ j : Nat, i = .int .i64 (j : Int) ∧ j ≤ ls.length ∧ LookI w ls j (.slice G ls.length cG) vs wr)
        (fun i _ => ls.length - (intOf i).toNat)
      case atStart => exact ⟨0, rfl, Nat.zero_le _, by have h := hL; rw [HV.out] at h; exact h⟩
      case round =>
        clear hL
        obtain ⟨j, rfl, hj, hL⟩ := hrel
        by_cases hlt : j < ls.length
        · obtain ⟨ad, A2, c2, rfl, hcell, hr⟩ := (hv.below hL.hb (Nat.le_refl _)).at_ hlt
          have hju : vs[j]? = some (vs[j]'(by rw [HV.out]; exact hlt)) := List.getElem?_eq_getElem _
          have hel := hL.el j _ (Nat.le_refl _) hju
          obtain ⟨gG, rfl⟩ : ∃ gG, G = some ⟨gG, 0, none⟩ := by
            rcases hL.own.form with ⟨h, h0⟩ | ⟨g, c, h, _⟩
            · rw [HV.out] at h0; omega
            · injection h with h; exact ⟨g, h⟩
          have hown := hL.own
          rw [HV.out] at hown
          have hcG := hown.cells j _ hju
          have hgd : ls.getD j [] = ls[j] := by simp [List.getD, hlt]
          rw [hgd] at hel
          obtain ⟨g, hu, ho⟩ := hel
          have hub : (vs[j]'(by rw [HV.out]; exact hlt)).ownBlock = some g := by rw [hu]; rfl
          rw [hu] at hcG
          have hml := bulkL_mem hlt
          have i1 : (j : Int) < (ls.length : Int) := by omega
          have HU := Lib.hid hju
          have HB := Lib.hid hub
          have HC : Hid (∀ w', LookI w ls (j + 1) (.slice (some ⟨gG, 0, none⟩) ls.length cG) vs w' → w'.cell? ⟨gG, j, none⟩ = some (.slice (some ⟨g, 0, none⟩) ls[j].length (ls[j].length + 3)) ∧ w'.cell? (ad.add j) = some (.slice A2 ls[j].length c2)) := Lib.hid fun w' h => by
            have h1 := h.own
            rw [HV.out] at h1
            have h2 := h1.cells j _ hju
            rw [hu] at h2
            have hlt2 : (ad.add j).block < w.heap.size := by
              obtain ⟨ad', _, _, e, hc', _⟩ := hv.at_ hlt
              injection e with e
              subst e
              exact block_lt_of_cell hc'
            refine ⟨h2, ?_⟩
            rw [h.hb.cell hlt2, ← hL.hb.cell hlt2]
            exact hcell
          clear hju hub hu hgd hown
          generalize ls[j] = l at *
          go_upto_region 16 with (fail)
          go_region_held3 (fun w' => w'.cell? ⟨gG, j, none⟩ = some (.slice (some ⟨g, 0, none⟩) l.length (l.length + 3)) ∧ w'.cell? (ad.add j) = some (.slice A2 l.length c2))
            (first | exact ⟨hcG, hcell⟩ | exact HC.out _ hL7 | go_keep)
            (first
              | (go_at_call 27; refine (AsLent_any g l.length _ l _ _ rfl ho.drew hr.drew (by omega)).mono ?_; rintro e w7 ⟨rfl, hg7⟩; have hL7 := hL.step HU.out HB.out hg7)
              | fail)
          go_wp2_with fail
          go_roundw
          case rel => exact ⟨j + 1, by go_num, by omega, hL7⟩
          case measure => simp [intOf]; omega
        · obtain rfl : j = ls.length := by omega
          have hb := hL.hb
          clear hL hv HV
          go_wp2_with fail
          refine (Lent_at _ a _ (ra.below hb (Nat.le_refl _)) (by omega)).mono ?_
          rintro e wx ⟨gx, rfl, tx, hw⟩
          have sx := hb.size
          replace hb := hb.trans (hw.mono hb.size)
          have zx := hw.size
          clear hw
          go_wp2_with fail
          refine (Lent_at _ b _ (rb.below hb (Nat.le_refl _)) (by omega)).mono ?_
          rintro e wy ⟨gy, rfl, ty, hw⟩
          have sy := hb.size
          replace hb := hb.trans (hw.mono hb.size)
          replace tx := tx.below hw
          have zy := hw.size
          clear hw
          go_wp2_with fail
          refine (Between_any _ _ a b _ (tx.part rfl) (ty.part rfl) (by omega)).mono ?_
          rintro e wc ⟨vc, rfl, oc, hw⟩
          have tc := oc.at'
          have sc := hb.size
          replace hb := hb.trans (hw.mono hb.size)
          replace tx := tx.below hw
          replace ty := ty.below hw
          have zc := hw.size
          clear hw oc
          go_wp2_with fail
          refine (RBetween_any _ _ a b _ (ra.below hb (Nat.le_refl _)) (rb.below hb (Nat.le_refl _)) (by omega)).mono ?_
          rintro e wd ⟨vd, rfl, od, hw⟩
          have td := od.at'
          have sd := hb.size
          replace hb := hb.trans (hw.mono hb.size)
          replace tx := tx.below hw
          replace ty := ty.below hw
          replace tc := tc.below hw
          have zd := hw.size
          clear hw od
          go_wp2_with fail
          refine (Behind_any _ a _ (tx.part rfl) (by omega)).mono ?_
          rintro e wp ⟨vp, rfl, op, hw⟩
          have tp := op.at'
          have sp := hb.size
          replace hb := hb.trans (hw.mono hb.size)
          replace tx := tx.below hw
          replace ty := ty.below hw
          replace tc := tc.below hw
          replace td := td.below hw
          have zp := hw.size
          clear hw op
          go_wp2_with fail
          refine (RBehind_any _ a _ (ra.below hb (Nat.le_refl _)) (by omega)).mono ?_
          rintro e wq ⟨vq, rfl, oq, hw⟩
          have tq := oq.at'
          have sq := hb.size
          replace hb := hb.trans (hw.mono hb.size)
          replace tx := tx.below hw
          replace ty := ty.below hw
          replace tc := tc.below hw
          replace td := td.below hw
          replace tp := tp.below hw
          have zq := hw.size
          clear hw oq
          go_wp2_with fail
          refine (Ordered_any _ a _ (tx.part rfl) (by omega)).mono ?_
          rintro e wo ⟨vo, rfl, oo, hw⟩
          have tO := oo.at'
          have so := hb.size
          replace hb := hb.trans (hw.mono hb.size)
          replace tx := tx.below hw
          replace ty := ty.below hw
          replace tc := tc.below hw
          replace td := td.below hw
          replace tp := tp.below hw
          replace tq := tq.below hw
          have zo := hw.size
          clear hw oo
          go_wp2_with fail
          refine (ROrdered_any _ a _ (ra.below hb (Nat.le_refl _)) (by omega)).mono ?_
          rintro e wt ⟨vt, rfl, ot, hw⟩
          have tt := ot.at'
          have st := hb.size
          replace hb := hb.trans (hw.mono hb.size)
          replace tx := tx.below hw
          replace ty := ty.below hw
          replace tc := tc.below hw
          replace td := td.below hw
          replace tp := tp.below hw
          replace tq := tq.below hw
          replace tO := tO.below hw
          have zt := hw.size
          clear hw ot
          go_wp2_with fail
          refine (Same_any _ _ _ _ _ tc.rd td.rd).mono ?_
          rintro e w' ⟨rfl, rfl⟩
          rw [beq_self_eq_true]
          go_wp2_with fail
          refine (Same_any _ _ _ _ _ tp.rd tq.rd).mono ?_
          rintro e w' ⟨rfl, rfl⟩
          rw [beq_self_eq_true]
          go_wp2_with fail
          refine (Same_any _ _ _ _ _ tO.rd tt.rd).mono ?_
          rintro e w' ⟨rfl, rfl⟩
          rw [beq_self_eq_true]
          clear td tq tt
          have hcl := bt_len a b
          have hpl := bh_len a
          have hol := (escF_len a).2
          have hol : (ordF a).length ≤ 2 * a.length + 2 := by simp [ordF]; omega
          go_wp2_with fail
          refine (Own_any _ _ _ _ tc.1 (by omega) (by omega)).mono ?_
          rintro e wc2 ⟨⟨rc, rfl⟩, hg⟩
          have tx2 := tx.down tc (by omega) hg
          have ty2 := ty.down tc (by omega) hg
          have tp2 := tp.up tc (by omega) hg
          have tO2 := tO.up tc (by omega) hg
          have hb2 := Below.by_own hb tc (by omega) hg
          have zoc := hg.size
          clear hg
          replace hb := hb2
          clear hb2 tc
          replace tx := tx2
          clear tx2
          replace ty := ty2
          clear ty2
          replace tp := tp2
          clear tp2
          replace tO := tO2
          clear tO2
          go_wp2_with fail
          refine (Own_any _ _ _ _ tp.1 (by omega) (by omega)).mono ?_
          rintro e wp2 ⟨⟨rp, rfl⟩, hg⟩
          have tx2 := tx.down tp (by omega) hg
          have ty2 := ty.down tp (by omega) hg
          have tO2 := tO.up tp (by omega) hg
          have hb2 := Below.by_own hb tp (by omega) hg
          have zop := hg.size
          clear hg
          replace hb := hb2
          clear hb2 tp
          replace tx := tx2
          clear tx2
          replace ty := ty2
          clear ty2
          replace tO := tO2
          clear tO2
          go_wp2_with fail
          refine (Own_any _ _ _ _ tO.1 (by omega) (by omega)).mono ?_
          rintro e wo2 ⟨⟨ro, rfl⟩, hg⟩
          have tx2 := tx.down tO (by omega) hg
          have ty2 := ty.down tO (by omega) hg
          have hb2 := Below.by_own hb tO (by omega) hg
          have zoo := hg.size
          clear hg
          replace hb := hb2
          clear hb2 tO
          replace tx := tx2
          clear tx2
          replace ty := ty2
          clear ty2
          have ra2 := ra.below hb (Nat.le_refl _)
          have rb2 := rb.below hb (Nat.le_refl _)
          go_wp2_with fail
          refine (AsLent_any gx a.length _ a _ _ rfl tx.1 (ra.below hb (Nat.le_refl _)) (by omega)).mono ?_
          rintro e wx2 ⟨rfl, hg⟩
          have ty2 := ty.up tx (by omega) hg
          have hb2 := Below.by_own hb tx (by omega) hg
          go_wp2_with fail
          refine (AsLent_any gy b.length _ b _ _ rfl ty2.1 (rb.below hb2 (Nat.le_refl _)) (by omega)).mono ?_
          rintro e wy2 ⟨rfl, hg2⟩
          have hb3 := Below.by_own hb2 ty2 (by omega) hg2
          clear hg hg2 ty2 tx ty
          go_wp2_with fail
          go_ret
          exact ⟨rfl, hb3⟩
end Go.Proofs.Ytijlebjldnhnaaa
