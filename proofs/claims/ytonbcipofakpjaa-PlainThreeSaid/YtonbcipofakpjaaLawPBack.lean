/- espalierlaw06.great, espalierref06.SameCell, SameCells, espalierlaw06.PlainBack: walks. -/
import Derived.Test.YtonbcipofakpjaaPlnAwake
namespace Go.Proofs.Ytonbcipofakpjaa
open Go.RowKit
def bulk : List PC → Nat
  | [] => 0
  | c :: r => bulk r + c.key.length + c.val.length
theorem bulk_append (a b : List PC) : bulk (a ++ b) = bulk a + bulk b := by
  induction a with
  | nil => simp [bulk]
  | cons c r ih => simp only [List.cons_append, bulk, ih]; omega
theorem bulk_take (l : List PC) {i : Nat} (hi : i < l.length) : bulk (l.take (i + 1)) = bulk (l.take i) + l[i].key.length + l[i].val.length := by
  rw [List.take_succ_eq_append_getElem hi, bulk_append]; simp [bulk]; omega
theorem bulk_take_le (l : List PC) (i : Nat) : bulk (l.take i) ≤ bulk l := by
  have : bulk l = bulk (l.take i) + bulk (l.drop i) := by rw [← bulk_append, List.take_append_drop]
  omega
theorem bulk_longs (l : List PC) : longsF l ≤ bulk l + 11 * l.length := by
  induction l with
  | nil => simp [longsF]
  | cons c r ih =>
    simp only [longsF, bulk, List.length_cons]
    have : longF c ≤ c.key.length + c.val.length + 11 := by unfold longF; split <;> omega
    omega
theorem bulk_mem {l : List PC} {c : PC} (h : c ∈ l) : c.key.length + c.val.length ≤ bulk l := by
  induction l with
  | nil => cases h
  | cons x r ih =>
    simp only [bulk]
    rcases List.mem_cons.1 h with rfl | h
    · omega
    · have := ih h; omega
/-- What great answers: false only for few cells with few bytes. -/
def GreatAt (w : World) (l : List PC) (e : Ending) (w' : World) : Prop := Below w.heap.size w w' ∧ ((e = .returned (.bool false) ∧ l.length ≤ 100000 ∧ l.length + bulk l ≤ 4194304) ∨ (e = .returned (.bool true) ∧ (100000 < l.length ∨ 4194304 < l.length + bulk l)))
set_option maxRecDepth 100000 in
set_option maxHeartbeats 4000000 in
theorem great_any (v : Value) (l : List CV) (w : World) (hl : RdCs w v l) (hn : l.length * 72 ≤ 140737488355328) (hb : ∀ c ∈ pcs l, c.key.length ≤ 140737488355328 ∧ c.val.length ≤ 140737488355328) :
    Calls Try.prog 11 #[v] w (GreatAt w (pcs l)) := by
  obtain ⟨A, c, rfl, hm, hc⟩ := hl.slice
  have HB := Lib.hid hb
  clear hb
  go_enter Try.func11, Try.ntmps11
  go_wp2_with fail
  go_loopw [3, 4] (fun n i wr => ∃ k : Nat, k ≤ l.length ∧ i = .int .i64 (k : Int) ∧ n = .int .i64 ((l.length + bulk ((pcs l).take k) : Nat) : Int) ∧ (k = 0 ∨ l.length + bulk ((pcs l).take k) ≤ 4194304 + 281474976710656) ∧ Below w.heap.size w wr) (fun _ i _ => l.length - (intOf i).toNat)
  case atStart => exact ⟨0, Nat.zero_le _, rfl, rfl, .inl rfl, Below.refl _ _⟩
  case round =>
    obtain ⟨k, hk, rfl, rfl, hq, hB⟩ := hrel
    have hq' : l.length + bulk ((pcs l).take k) ≤ 9000000000000000000 := by
      rcases hq with rfl | hq
      · simp [bulk]; omega
      · omega
    have hle := bulk_take_le (pcs l) k
    by_cases hlt : k < l.length
    · have ik : (k : Int) < (l.length : Int) := by omega
      have hlp : k < (pcs l).length := by rw [pcs_length]; exact hlt
      have hS := bulk_take (pcs l) hlp
      have hbm := HB.out _ (List.getElem_mem hlp)
      rw [pcs_at hlt] at hS hbm
      by_cases hs : l.length + bulk ((pcs l).take k) ≤ 4194304
      · obtain ⟨ad, rfl, c0, c1, c2, c3, c4⟩ := (hl.below hB).at_ hlt
        have hx := (hl.below hB).ok _ (List.getElem_mem hlt)
        generalize l[k] = x at *
        obtain ⟨A1, a1, B1, b1, key, ck, val, pg, ct, rfl, _, _⟩ := CV.form hx
        have hS' : bulk ((pcs l).take (k + 1)) = bulk ((pcs l).take k) + key.length + val.length := hS
        have hbm' : key.length ≤ 140737488355328 ∧ val.length ≤ 140737488355328 := hbm
        have HS := Lib.hid hS'
        clear hS hS' hbm hx
        generalize bulk ((pcs l).take k) = s at *
        have i1 : ((l.length : Int) + (s : Int)) ≤ 4194304 := by omega
        have i2 : IntKind.i64.wrap ((l.length : Int) + (s : Int) + (key.length : Int)) = (l.length : Int) + (s : Int) + (key.length : Int) := by rw [IntKind.wrap_i64]; omega
        have i3 : IntKind.i64.wrap ((l.length : Int) + (s : Int) + (key.length : Int) + (val.length : Int)) = (l.length : Int) + (s : Int) + (key.length : Int) + (val.length : Int) := by rw [IntKind.wrap_i64]; omega
        go_upto_region 5 with (fail)
        go_region
        go_wp2_with fail
        exact ⟨⟨k + 1, by omega, by go_num, by rw [HS.out]; go_num, .inr (by rw [HS.out]; omega), hB.drew⟩, by simp [intOf]; omega⟩
      · have i1 : ¬ ((l.length : Int) + (bulk ((pcs l).take k) : Int)) ≤ 4194304 := by omega
        have i4 : (4194304 : Int) < ((l.length : Int) + (bulk ((pcs l).take k) : Int)) := by omega
        have HG : Hid (4194304 < (pcs l).length + bulk (pcs l)) := Lib.hid (by rw [pcs_length]; omega)
        clear hS hbm
        generalize bulk ((pcs l).take k) = s at *
        go_wp2_with fail
        go_ret
        exact ⟨hB, .inr ⟨rfl, .inr HG.out⟩⟩
    · obtain rfl : k = l.length := by omega
      have e : (pcs l).take l.length = pcs l := List.take_of_length_le (by rw [pcs_length]; omega)
      rw [e] at hq' ⊢
      by_cases hs : l.length + bulk (pcs l) ≤ 4194304
      · by_cases hn1 : l.length ≤ 100000
        · have HG : Hid ((pcs l).length ≤ 100000 ∧ (pcs l).length + bulk (pcs l) ≤ 4194304) := Lib.hid (by rw [pcs_length]; omega)
          have i4 : ¬ (4194304 : Int) < ((l.length : Int) + (bulk (pcs l) : Int)) := by omega
          have i5 : ¬ (100000 : Int) < (l.length : Int) := by omega
          clear hle hq e
          go_wp2_with fail
          go_ret
          exact ⟨hB, .inl ⟨rfl, HG.out⟩⟩
        · have HG : Hid (100000 < (pcs l).length) := Lib.hid (by rw [pcs_length]; omega)
          have i4 : ¬ (4194304 : Int) < ((l.length : Int) + (bulk (pcs l) : Int)) := by omega
          have i5 : (100000 : Int) < (l.length : Int) := by omega
          clear hle hq e
          go_wp2_with fail
          go_ret
          exact ⟨hB, .inr ⟨rfl, .inl HG.out⟩⟩
      · have HG : Hid (4194304 < (pcs l).length + bulk (pcs l)) := Lib.hid (by rw [pcs_length]; omega)
        have i4 : (4194304 : Int) < ((l.length : Int) + (bulk (pcs l) : Int)) := by omega
        clear hle hq e
        go_wp2_with fail
        go_ret
        exact ⟨hB, .inr ⟨rfl, .inr HG.out⟩⟩
set_option maxRecDepth 100000 in
set_option maxHeartbeats 4000000 in
theorem SameCell_eq (x y : CV) (w : World) (hx : x.ok w) (hy : y.ok w) (h : y.c = x.c) : Calls Try.prog 59 #[cellV x, cellV y] w fun e w' => e = .returned (.bool true) ∧ Below w.heap.size w w' := by
  obtain ⟨kv, vv, c⟩ := y
  simp only at h
  subst h
  obtain ⟨A, ca, B, cb, key, ck, val, pg, ct, rfl, _, _⟩ := CV.form hx
  obtain ⟨A', ca', hk', _⟩ := hy.k.form
  obtain ⟨B', cb', hv', _⟩ := hy.v.form
  simp only at hk' hv'
  subst hk' hv'
  have hkx : RdB w (.slice A key.length ca) key := hx.k
  have hvx : RdB w (.slice B val.length cb) val := hx.v
  have hky : RdB w (.slice A' key.length ca') key := hy.k
  have hvy : RdB w (.slice B' val.length cb') val := hy.v
  have hA := (((Below.refl w.heap.size w).alloc (Nat.le_refl _) (.cells #[.slice A key.length ca, .int .i64 ck, .slice B val.length cb, .int .i64 pg, .int .i64 ct] 32))).alloc (by simp) (.cells #[.slice A' key.length ca', .int .i64 ck, .slice B' val.length cb', .int .i64 pg, .int .i64 ct] 32)
  have hX := (OBlk.new' w 32 [.slice A key.length ca, .int .i64 ck, .slice B val.length cb, .int .i64 pg, .int .i64 ct]).alloc (.cells #[.slice A' key.length ca', .int .i64 ck, .slice B' val.length cb', .int .i64 pg, .int .i64 ct] 32)
  have hY := OBlk.new' (w.alloc (.cells #[.slice A key.length ca, .int .i64 ck, .slice B val.length cb, .int .i64 pg, .int .i64 ct] 32)) 32 [.slice A' key.length ca', .int .i64 ck, .slice B' val.length cb', .int .i64 pg, .int .i64 ct]
  rw [World.size_alloc] at hY
  obtain ⟨x0, x1, x2, x3, x4⟩ := cells5 hX
  obtain ⟨y0, y1, y2, y3, y4⟩ := cells5 hY
  have q1 := run_B_string (hkx.below hA (Nat.le_refl _))
  have q2 := run_B_string (hvx.below hA (Nat.le_refl _))
  have q3 := run_B_string (hky.below hA (Nat.le_refl _))
  have q4 := run_B_string (hvy.below hA (Nat.le_refl _))
  unfold cellV
  go_enter Try.func59, Try.ntmps59
  go_wp2_with fail
  go_ret
  exact ⟨rfl, hA⟩
theorem ok_at (P : World → Prop) (w : World) (h : P w) : ∃ w', P w' := ⟨w, h⟩
set_option maxRecDepth 100000 in
set_option maxHeartbeats 4000000 in
theorem SameCells_eq (u v : Value) (a b : List CV) (w : World) (ha : RdCs w u a) (hb : RdCs w v b) (h : pcs a = pcs b) : Calls Try.prog 22 #[u, v] w fun e w' => e = .returned (.bool true) ∧ Below w.heap.size w w' := by
  have hlen : a.length = b.length := by rw [← pcs_length a, h, pcs_length]
  have hcc : ∀ i (h1 : i < a.length) (h2 : i < b.length), b[i].c = a[i].c := fun i h1 h2 => by
    rw [← pcs_at h1, ← pcs_at h2]
    simp only [h]
  have HC := Lib.hid hcc
  obtain ⟨A, ca, rfl, hma, hca⟩ := ha.slice
  obtain ⟨B, cb, rfl, hmb, hcb⟩ := hb.slice
  have hne : (((a.length : Nat) : Int) != ((b.length : Nat) : Int)) = false := by rw [hlen]; simp
  have HLN := Lib.hid hlen
  clear hcc hlen h
  go_enter Try.func22, Try.ntmps22
  go_wp2_with fail
  go_loopw [5] (fun i wr => ∃ k : Nat, k ≤ a.length ∧ i = .int .i64 (k : Int) ∧ Below w.heap.size w wr) (fun i _ => a.length - (intOf i).toNat)
  case atStart => exact ⟨0, Nat.zero_le _, rfl, Below.refl _ _⟩
  case round =>
    obtain ⟨k, hk, rfl, hB⟩ := hrel
    by_cases hlt : k < a.length
    · have ik : (k : Int) < (a.length : Int) := by omega
      have hltb : k < b.length := by rw [← HLN.out]; exact hlt
      have ikb : (k : Int) < (b.length : Int) := by omega
      obtain ⟨ad, rfl, c0, c1, c2, c3, c4⟩ := (ha.below hB).at_ hlt
      obtain ⟨bd, rfl, d0, d1, d2, d3, d4⟩ := (hb.below hB).at_ hltb
      have hx := (ha.below hB).ok _ (List.getElem_mem hlt)
      have hy := (hb.below hB).ok _ (List.getElem_mem hltb)
      have hsc := fun W (hW : Below wr.heap.size wr W) => SameCell_eq a[k] b[k] W (hx.below hW) (hy.below hW) (HC.out k hlt hltb)
      generalize a[k] = x at *
      generalize b[k] = y at *
      obtain ⟨A1, a1, B1, b1, key, ck, val, pg, ct, rfl, _, _⟩ := CV.form hx
      obtain ⟨A2, a2, B2, b2, key2, ck2, val2, pg2, ct2, rfl, _, _⟩ := CV.form hy
      unfold cellV at hsc
      have HS := Lib.hid hsc
      clear hsc hx hy
      go_upto_region 6 with (fail)
      go_region_held3 (fun w' => w'.cell? (ad.add (k * 5)) = some (.slice A1 key.length a1) ∧ w'.cell? ⟨(ad.add (k * 5)).block, (ad.add (k * 5)).off + 1, none⟩ = some (.int .i64 ck) ∧ w'.cell? ⟨(ad.add (k * 5)).block, (ad.add (k * 5)).off + 2, none⟩ = some (.slice B1 val.length b1) ∧ w'.cell? ⟨(ad.add (k * 5)).block, (ad.add (k * 5)).off + 3, none⟩ = some (.int .i64 pg) ∧ w'.cell? ⟨(ad.add (k * 5)).block, (ad.add (k * 5)).off + 4, none⟩ = some (.int .i64 ct) ∧
          w'.cell? (bd.add (k * 5)) = some (.slice A2 key2.length a2) ∧ w'.cell? ⟨(bd.add (k * 5)).block, (bd.add (k * 5)).off + 1, none⟩ = some (.int .i64 ck2) ∧ w'.cell? ⟨(bd.add (k * 5)).block, (bd.add (k * 5)).off + 2, none⟩ = some (.slice B2 val2.length b2) ∧ w'.cell? ⟨(bd.add (k * 5)).block, (bd.add (k * 5)).off + 3, none⟩ = some (.int .i64 pg2) ∧ w'.cell? ⟨(bd.add (k * 5)).block, (bd.add (k * 5)).off + 4, none⟩ = some (.int .i64 ct2))
        (first
          | exact ⟨c0, c1, c2, c3, c4, d0, d1, d2, d3, d4⟩
          | exact ⟨(hw7.cell (World.block_lt_of_cell? wr _ c0)).trans c0, (hw7.cell (World.block_lt_of_cell? wr _ c1)).trans c1, (hw7.cell (World.block_lt_of_cell? wr _ c2)).trans c2, (hw7.cell (World.block_lt_of_cell? wr _ c3)).trans c3, (hw7.cell (World.block_lt_of_cell? wr _ c4)).trans c4, (hw7.cell (World.block_lt_of_cell? wr _ d0)).trans d0, (hw7.cell (World.block_lt_of_cell? wr _ d1)).trans d1, (hw7.cell (World.block_lt_of_cell? wr _ d2)).trans d2, (hw7.cell (World.block_lt_of_cell? wr _ d3)).trans d3, (hw7.cell (World.block_lt_of_cell? wr _ d4)).trans d4⟩)
        (first
          | (go_at_call 59; refine (HS.out _ ((Below.refl _ _).drew)).mono ?_; rintro e w7 ⟨rfl, hw7⟩)
          | fail)
      go_wp2_with fail
      exact ⟨⟨k + 1, by omega, by go_num, hB.trans (((Below.refl wr.heap.size wr).drew.trans hw7).mono hB.size)⟩, by simp [intOf]; omega⟩
    · obtain rfl : k = a.length := by omega
      go_wp2_with fail
      go_ret
      exact ⟨rfl, hB⟩
set_option maxRecDepth 100000 in
set_option maxHeartbeats 4000000 in
theorem back_any (kind : Int) (v : Value) (l : List CV) (P : Int) (hPr : i64r P) (w : World) (hl : RdCs w v l) (hn : l.length * 72 ≤ 140737488355328) (hb : ∀ c ∈ pcs l, c.key.length ≤ 140737488355328 ∧ c.val.length ≤ 140737488355328) :
    Calls Try.prog 6 #[.int .i64 kind, v, .int .i64 P] w fun e w' => e = .returned (.bool true) ∧ Below w.heap.size w w' := by
  obtain ⟨A, c, rfl, hm, hc⟩ := hl.slice
  go_enter Try.func6, Try.ntmps6
  go_wp2_with fail
  refine (awake_any _).mono ?_
  rintro e w1 ⟨rfl, hw1⟩
  have hl1 := hl.below hw1
  have hgr := great_any _ l w1 hl1 hn hb
  go_wp2_with fail
  refine hgr.mono ?_
  rintro e w2 ⟨hw2, ⟨rfl, _, _⟩ | ⟨rfl, _⟩⟩
  · have hl2 := hl1.below hw2
    have hb2 := hw1.trans (hw2.mono hw1.size)
    have hE := PEncode_any kind _ l P hPr w2 hl2 (by omega)
    clear hgr hw2 hw1 hl1
    go_wp2_with fail
    refine hE.mono ?_
    unfold EncAt
    rintro e w3 ⟨hw3, ⟨hf, rfl⟩ | ⟨ht, ⟨hne, rfl⟩ | ⟨hz, g, rfl, hg, hbk⟩⟩⟩
    · have hb3 := hb2.trans (hw3.mono hb2.size)
      clear hf hE
      go_wp2_with fail
      go_ret
      exact ⟨rfl, hb3⟩
    · have hb3 := hb2.trans (hw3.mono hb2.size)
      have hnb : (encE kind (pcs l) P.toNat != 0) = true := by simp only [bne, beq_eq_false_iff_ne.2 hne]; rfl
      generalize encE kind (pcs l) P.toNat = ee at *
      clear hne hE ht
      go_wp2_with fail
      go_ret
      exact ⟨rfl, hb3⟩
    · rw [Bool.and_eq_true] at ht
      obtain ⟨hP1, hP2⟩ := isPowB_range ht.2
      obtain ⟨Q, rfl⟩ : ∃ Q : Nat, P = (Q : Int) := ⟨P.toNat, by omega⟩
      simp only [Int.toNat_natCast] at hz hbk ⊢
      have hb3 := hb2.trans (hw3.mono hb2.size)
      have hl3 := hl2.below hw3
      have hll : (laidF kind (pcs l) Q).length = Q := laidF_length (encE_zero.1 hz).2
      have hpl : isPln (laidF kind (pcs l) Q) kind (pcs l) := ⟨by rw [hll]; exact ht.2, ht.1, by rw [hll]; exact hz, by rw [hll]⟩
      have hun : ∀ k' l', isPln (laidF kind (pcs l) Q) k' l' → k' = kind ∧ l' = pcs l := fun k' l' h => by
        have h1 := isPln_parse h
        have h2 := isPln_parse hpl
        rw [h2.1] at h1
        exact ⟨h1.2.symm.trans h2.2, (Option.some.inj h1.1).symm⟩
      have hfit := fit_of (P := Q) (fun c hc => may_ok (scan_may (encE_zero.1 hz).1 c hc)) (by omega) (by rw [pcs_length]; omega)
      have hsz := (encE_zero.1 hz).2
      have HUN := Lib.hid hun
      have HPL := Lib.hid hpl
      have HLL := Lib.hid hll
      generalize laidF kind (pcs l) Q = b at *
      have hbr := hbk.rdB HLL.out (by omega)
      have hdec := PDecode_any _ b w3 hbr
      clear hE hz ht hun hpl hll
      go_wp2_with fail
      refine hdec.mono ?_
      rintro e w4 ⟨hw4, ⟨k1, l1, v1, hy1, rfl, hO1⟩ | ⟨hno, _⟩⟩
      case inr => exact absurd HPL.out (hno _ _)
      obtain ⟨rfl, hl1'⟩ := HUN.out _ _ hy1
      have hb4 := hb3.trans (hw4.mono hb3.size)
      have hl4 := hl3.below hw4
      have hbk4 := hbk.below hw4 hbk.lt
      have hbr4 := hbk4.rdB HLL.out (by omega)
      have hlen1 : l1.length = l.length := by rw [← pcs_length l1, hl1', pcs_length]
      obtain ⟨C1, cc1, rfl⟩ := Own.slice hO1.own
      have hop := POpen_any _ b w4 hbr4
      have HL1 := Lib.hid hl1'
      have HN1 := Lib.hid hlen1
      clear hdec hbr hbk hb3 hl3 hy1 hl1' hlen1
      go_wp2_with fail
      refine hop.mono ?_
      rintro e w5 ⟨hw5, ⟨k2, l2, p, u2, hy2, rfl, hp, hPg⟩ | ⟨hno, _⟩⟩
      case inr => exact absurd HPL.out (hno _ _)
      obtain ⟨rfl, hl2'⟩ := HUN.out _ _ hy2
      have hb5 := hb4.trans (hw5.mono hb4.size)
      have hl5 := hl4.below hw5
      have hO5 := hO1.below hw5
      have hbk5 := hbk4.below hw5 hbk4.lt
      have hlen2 : l2.length = l.length := by rw [← pcs_length l2, hl2', pcs_length]
      rw [hl2'] at hPg
      have hsa := SameCells_eq _ _ l1 l w5 hO5.rd hl5 HL1.out
      rw [HN1.out] at hsa
      have HL2 := Lib.hid hl2'
      have HN2 := Lib.hid hlen2
      clear hop hbr4 hbk4 hb4 hl4 hO1 hy2 hl2' hlen2
      rw [HN1.out]
      go_wp2_with fail
      refine hsa.mono ?_
      rintro e w6 ⟨rfl, hw6⟩
      have hb6 := hb5.trans (hw6.mono hb5.size)
      have hPg6 := hPg.below hw6
      have hl6 := hl5.below hw6
      have hln := PLen_any hPg6
      have hus := fun W (hW : Below w6.heap.size w6 W) => PUsed_any (hPg6.below hW)
      have hsi := Size_any k2 _ l w6 hl6 hfit
      rw [HN2.out] at hln
      have i1 : (sizeF (pcs l) : Int) ≤ (Q : Int) := by omega
      have HU := Lib.hid hus
      clear hus hsa hPg hl5 hO5 hbk5 hfit hsz
      generalize sizeF (pcs l) = sz at *
      go_wp2_with (first
        | (go_at_call 23; refine hln.mono ?_; rintro e w8 ⟨rfl, rfl⟩)
        | (go_at_call 24; refine (HU.out w6 (Below.refl _ _)).mono ?_; rintro e w8 ⟨rfl, rfl⟩)
        | (go_at_call 16; refine hsi.mono ?_; rintro e w7 ⟨rfl, hw7⟩)
        | (go_at_call 24; refine (HU.out w7 hw7).mono ?_; rintro e w8 ⟨rfl, rfl⟩)
        | fail)
      go_ret
      exact ⟨rfl, hb6.trans (hw7.mono hb6.size)⟩
  · have hb2 := hw1.trans (hw2.mono hw1.size)
    go_wp2_with fail
    go_ret
    exact ⟨rfl, hb2⟩
end Go.Proofs.Ytonbcipofakpjaa
