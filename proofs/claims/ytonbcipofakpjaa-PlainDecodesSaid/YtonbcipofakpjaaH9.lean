/- Texts joined: espalierlaw06.great, espalierref06.SameCell, SameCells, espalierlaw06.PlainBack; Slices of cells; Slices of cells; Cells made, cells stored; espalierref06.Lent; A region that draws its order, whose head only reads and calls quietly, and whos -/
import Derived.Test.YtonbcipofakpjaaH2
import Derived.Test.YtonbcipofakpjaaH4
import Derived.Test.YtonbcipofakpjaaH7
import Derived.Test.YtonbcipofakpjaaH8
import Derived.Laws.Slices
import Derived.StillTail
import Derived.Deep.Quiet
-- espalierlaw06.great, espalierref06.SameCell, SameCells, espalierlaw06.PlainBack: walks.
namespace Go.Proofs.Ytonbcipofakpjaa
open Go.RowKit
def bulk : List PC → Nat
  | [] => 0
  | c :: r => bulk r + c.key.length + c.val.length
theorem bulk_append (a b : List PC) : bulk (a ++ b) = bulk a + bulk b := by
  induction a with
  | nil => simp [bulk]
  | cons c r ih => simp only [List.cons_append, bulk, ih]; omega
theorem bulk_take (l : List PC) {i : Nat} (hi : i < l.length) : bulk (l.take (i + 1)) = bulk (l.take i) + l[i].key.length + l[i].val.length := by
  rw [List.take_succ_eq_append_getElem hi, bulk_append]; simp [bulk]; omega
theorem bulk_take_le (l : List PC) (i : Nat) : bulk (l.take i) ≤ bulk l := by
  have : bulk l = bulk (l.take i) + bulk (l.drop i) := by rw [← bulk_append, List.take_append_drop]
  omega
theorem bulk_longs (l : List PC) : longsF l ≤ bulk l + 11 * l.length := by
  induction l with
  | nil => simp [longsF]
  | cons c r ih =>
    simp only [longsF, bulk, List.length_cons]
    have : longF c ≤ c.key.length + c.val.length + 11 := by unfold longF; split <;> omega
    omega
theorem bulk_mem {l : List PC} {c : PC} (h : c ∈ l) : c.key.length + c.val.length ≤ bulk l := by
  induction l with
  | nil => cases h
  | cons x r ih =>
    simp only [bulk]
    rcases List.mem_cons.1 h with rfl | h
    · omega
    · have := ih h; omega
/-- What great answers: false only for few cells with few bytes. -/
def GreatAt (w : World) (l : List PC) (e : Ending) (w' : World) : Prop := Below w.heap.size w w' ∧ ((e = .returned (.bool false) ∧ l.length ≤ 100000 ∧ l.length + bulk l ≤ 4194304) ∨ (e = .returned (.bool true) ∧ (100000 < l.length ∨ 4194304 < l.length + bulk l)))
set_option maxRecDepth 100000 in
set_option maxHeartbeats 4000000 in
theorem great_any (v : Value) (l : List CV) (w : World) (hl : RdCs w v l) (hn : l.length * 72 ≤ 140737488355328) (hb : ∀ c ∈ pcs l, c.key.length ≤ 140737488355328 ∧ c.val.length ≤ 140737488355328) :
    Calls Try.prog 11 #[v] w (GreatAt w (pcs l)) := by
  obtain ⟨A, c, rfl, hm, hc⟩ := hl.slice
  have HB := Lib.hid hb
  clear hb
  go_enter Try.func11, Try.ntmps11
  go_wp2_with fail
  go_loopw [3, 4] (fun n i wr => ∃ k : Nat, k ≤ l.length ∧ i = .int .i64 (k : Int) ∧ n = .int .i64 ((l.length + bulk ((pcs l).take k) : Nat) : Int) ∧ (k = 0 ∨ l.length + bulk ((pcs l).take k) ≤ 4194304 + 281474976710656) ∧ Below w.heap.size w wr) (fun _ i _ => l.length - (intOf i).toNat)
  case atStart => exact ⟨0, Nat.zero_le _, rfl, rfl, .inl rfl, Below.refl _ _⟩
  case round =>
    obtain ⟨k, hk, rfl, rfl, hq, hB⟩ := hrel
    have hq' : l.length + bulk ((pcs l).take k) ≤ 9000000000000000000 := by
      rcases hq with rfl | hq
      · simp [bulk]; omega
      · omega
    have hle := bulk_take_le (pcs l) k
    by_cases hlt : k < l.length
    · have ik : (k : Int) < (l.length : Int) := by omega
      have hlp : k < (pcs l).length := by rw [pcs_length]; exact hlt
      have hS := bulk_take (pcs l) hlp
      have hbm := HB.out _ (List.getElem_mem hlp)
      rw [pcs_at hlt] at hS hbm
      by_cases hs : l.length + bulk ((pcs l).take k) ≤ 4194304
      · obtain ⟨ad, rfl, c0, c1, c2, c3, c4⟩ := (hl.below hB).at_ hlt
        have hx := (hl.below hB).ok _ (List.getElem_mem hlt)
        generalize l[k] = x at *
        obtain ⟨A1, a1, B1, b1, key, ck, val, pg, ct, rfl, _, _⟩ := CV.form hx
        have hS' : bulk ((pcs l).take (k + 1)) = bulk ((pcs l).take k) + key.length + val.length := hS
        have hbm' : key.length ≤ 140737488355328 ∧ val.length ≤ 140737488355328 := hbm
        have HS := Lib.hid hS'
        clear hS hS' hbm hx
        generalize bulk ((pcs l).take k) = s at *
        have i1 : ((l.length : Int) + (s : Int)) ≤ 4194304 := by omega
        have i2 : IntKind.i64.wrap ((l.length : Int) + (s : Int) + (key.length : Int)) = (l.length : Int) + (s : Int) + (key.length : Int) := by rw [IntKind.wrap_i64]; omega
        have i3 : IntKind.i64.wrap ((l.length : Int) + (s : Int) + (key.length : Int) + (val.length : Int)) = (l.length : Int) + (s : Int) + (key.length : Int) + (val.length : Int) := by rw [IntKind.wrap_i64]; omega
        go_upto_region 5 with (fail)
        go_region
        go_wp2_with fail
        exact ⟨⟨k + 1, by omega, by go_num, by rw [HS.out]; go_num, .inr (by rw [HS.out]; omega), hB.drew⟩, by simp [intOf]; omega⟩
      · have i1 : ¬ ((l.length : Int) + (bulk ((pcs l).take k) : Int)) ≤ 4194304 := by omega
        have i4 : (4194304 : Int) < ((l.length : Int) + (bulk ((pcs l).take k) : Int)) := by omega
        have HG : Hid (4194304 < (pcs l).length + bulk (pcs l)) := Lib.hid (by rw [pcs_length]; omega)
        clear hS hbm
        generalize bulk ((pcs l).take k) = s at *
        go_wp2_with fail
        go_ret
        exact ⟨hB, .inr ⟨rfl, .inr HG.out⟩⟩
    · obtain rfl : k = l.length := by omega
      have e : (pcs l).take l.length = pcs l := List.take_of_length_le (by rw [pcs_length]; omega)
      rw [e] at hq' ⊢
      by_cases hs : l.length + bulk (pcs l) ≤ 4194304
      · by_cases hn1 : l.length ≤ 100000
        · have HG : Hid ((pcs l).length ≤ 100000 ∧ (pcs l).length + bulk (pcs l) ≤ 4194304) := Lib.hid (by rw [pcs_length]; omega)
          have i4 : ¬ (4194304 : Int) < ((l.length : Int) + (bulk (pcs l) : Int)) := by omega
          have i5 : ¬ (100000 : Int) < (l.length : Int) := by omega
          clear hle hq e
          go_wp2_with fail
          go_ret
          exact ⟨hB, .inl ⟨rfl, HG.out⟩⟩
        · have HG : Hid (100000 < (pcs l).length) := Lib.hid (by rw [pcs_length]; omega)
          have i4 : ¬ (4194304 : Int) < ((l.length : Int) + (bulk (pcs l) : Int)) := by omega
          have i5 : (100000 : Int) < (l.length : Int) := by omega
          clear hle hq e
          go_wp2_with fail
          go_ret
          exact ⟨hB, .inr ⟨rfl, .inl HG.out⟩⟩
      · have HG : Hid (4194304 < (pcs l).length + bulk (pcs l)) := Lib.hid (by rw [pcs_length]; omega)
        have i4 : (4194304 : Int) < ((l.length : Int) + (bulk (pcs l) : Int)) := by omega
        clear hle hq e
        go_wp2_with fail
        go_ret
        exact ⟨hB, .inr ⟨rfl, .inr HG.out⟩⟩
set_option maxRecDepth 100000 in
set_option maxHeartbeats 4000000 in
theorem SameCell_eq (x y : CV) (w : World) (hx : x.ok w) (hy : y.ok w) (h : y.c = x.c) : Calls Try.prog 59 #[cellV x, cellV y] w fun e w' => e = .returned (.bool true) ∧ Below w.heap.size w w' := by
  obtain ⟨kv, vv, c⟩ := y
  simp only at h
  subst h
  obtain ⟨A, ca, B, cb, key, ck, val, pg, ct, rfl, _, _⟩ := CV.form hx
  obtain ⟨A', ca', hk', _⟩ := hy.k.form
  obtain ⟨B', cb', hv', _⟩ := hy.v.form
  simp only at hk' hv'
  subst hk' hv'
  have hkx : RdB w (.slice A key.length ca) key := hx.k
  have hvx : RdB w (.slice B val.length cb) val := hx.v
  have hky : RdB w (.slice A' key.length ca') key := hy.k
  have hvy : RdB w (.slice B' val.length cb') val := hy.v
  have hA := (((Below.refl w.heap.size w).alloc (Nat.le_refl _) (.cells #[.slice A key.length ca, .int .i64 ck, .slice B val.length cb, .int .i64 pg, .int .i64 ct] 32))).alloc (by simp) (.cells #[.slice A' key.length ca', .int .i64 ck, .slice B' val.length cb', .int .i64 pg, .int .i64 ct] 32)
  have hX := (OBlk.new' w 32 [.slice A key.length ca, .int .i64 ck, .slice B val.length cb, .int .i64 pg, .int .i64 ct]).alloc (.cells #[.slice A' key.length ca', .int .i64 ck, .slice B' val.length cb', .int .i64 pg, .int .i64 ct] 32)
  have hY := OBlk.new' (w.alloc (.cells #[.slice A key.length ca, .int .i64 ck, .slice B val.length cb, .int .i64 pg, .int .i64 ct] 32)) 32 [.slice A' key.length ca', .int .i64 ck, .slice B' val.length cb', .int .i64 pg, .int .i64 ct]
  rw [World.size_alloc] at hY
  obtain ⟨x0, x1, x2, x3, x4⟩ := cells5 hX
  obtain ⟨y0, y1, y2, y3, y4⟩ := cells5 hY
  have q1 := run_B_string (hkx.below hA (Nat.le_refl _))
  have q2 := run_B_string (hvx.below hA (Nat.le_refl _))
  have q3 := run_B_string (hky.below hA (Nat.le_refl _))
  have q4 := run_B_string (hvy.below hA (Nat.le_refl _))
  unfold cellV
  go_enter Try.func59, Try.ntmps59
  go_wp2_with fail
  go_ret
  exact ⟨rfl, hA⟩
theorem ok_at (P : World → Prop) (w : World) (h : P w) : ∃ w', P w' := ⟨w, h⟩
set_option maxRecDepth 100000 in
set_option maxHeartbeats 4000000 in
theorem SameCells_eq (u v : Value) (a b : List CV) (w : World) (ha : RdCs w u a) (hb : RdCs w v b) (h : pcs a = pcs b) : Calls Try.prog 22 #[u, v] w fun e w' => e = .returned (.bool true) ∧ Below w.heap.size w w' := by
  have hlen : a.length = b.length := by rw [← pcs_length a, h, pcs_length]
  have hcc : ∀ i (h1 : i < a.length) (h2 : i < b.length), b[i].c = a[i].c := fun i h1 h2 => by
    rw [← pcs_at h1, ← pcs_at h2]
    simp only [h]
  have HC := Lib.hid hcc
  obtain ⟨A, ca, rfl, hma, hca⟩ := ha.slice
  obtain ⟨B, cb, rfl, hmb, hcb⟩ := hb.slice
  have hne : (((a.length : Nat) : Int) != ((b.length : Nat) : Int)) = false := by rw [hlen]; simp
  have HLN := Lib.hid hlen
  clear hcc hlen h
  go_enter Try.func22, Try.ntmps22
  go_wp2_with fail
  go_loopw [5] (fun i wr => ∃ k : Nat, k ≤ a.length ∧ i = .int .i64 (k : Int) ∧ Below w.heap.size w wr) (fun i _ => a.length - (intOf i).toNat)
  case atStart => exact ⟨0, Nat.zero_le _, rfl, Below.refl _ _⟩
  case round =>
    obtain ⟨k, hk, rfl, hB⟩ := hrel
    by_cases hlt : k < a.length
    · have ik : (k : Int) < (a.length : Int) := by omega
      have hltb : k < b.length := by rw [← HLN.out]; exact hlt
      have ikb : (k : Int) < (b.length : Int) := by omega
      obtain ⟨ad, rfl, c0, c1, c2, c3, c4⟩ := (ha.below hB).at_ hlt
      obtain ⟨bd, rfl, d0, d1, d2, d3, d4⟩ := (hb.below hB).at_ hltb
      have hx := (ha.below hB).ok _ (List.getElem_mem hlt)
      have hy := (hb.below hB).ok _ (List.getElem_mem hltb)
      have hsc := fun W (hW : Below wr.heap.size wr W) => SameCell_eq a[k] b[k] W (hx.below hW) (hy.below hW) (HC.out k hlt hltb)
      generalize a[k] = x at *
      generalize b[k] = y at *
      obtain ⟨A1, a1, B1, b1, key, ck, val, pg, ct, rfl, _, _⟩ := CV.form hx
      obtain ⟨A2, a2, B2, b2, key2, ck2, val2, pg2, ct2, rfl, _, _⟩ := CV.form hy
      unfold cellV at hsc
      have HS := Lib.hid hsc
      clear hsc hx hy
      go_upto_region 6 with (fail)
      go_region_held3 (fun w' => w'.cell? (ad.add (k * 5)) = some (.slice A1 key.length a1) ∧ w'.cell? ⟨(ad.add (k * 5)).block, (ad.add (k * 5)).off + 1, none⟩ = some (.int .i64 ck) ∧ w'.cell? ⟨(ad.add (k * 5)).block, (ad.add (k * 5)).off + 2, none⟩ = some (.slice B1 val.length b1) ∧ w'.cell? ⟨(ad.add (k * 5)).block, (ad.add (k * 5)).off + 3, none⟩ = some (.int .i64 pg) ∧ w'.cell? ⟨(ad.add (k * 5)).block, (ad.add (k * 5)).off + 4, none⟩ = some (.int .i64 ct) ∧
          w'.cell? (bd.add (k * 5)) = some (.slice A2 key2.length a2) ∧ w'.cell? ⟨(bd.add (k * 5)).block, (bd.add (k * 5)).off + 1, none⟩ = some (.int .i64 ck2) ∧ w'.cell? ⟨(bd.add (k * 5)).block, (bd.add (k * 5)).off + 2, none⟩ = some (.slice B2 val2.length b2) ∧ w'.cell? ⟨(bd.add (k * 5)).block, (bd.add (k * 5)).off + 3, none⟩ = some (.int .i64 pg2) ∧ w'.cell? ⟨(bd.add (k * 5)).block, (bd.add (k * 5)).off + 4, none⟩ = some (.int .i64 ct2))
        (first
          | exact ⟨c0, c1, c2, c3, c4, d0, d1, d2, d3, d4⟩
          | exact ⟨(hw7.cell (World.block_lt_of_cell? wr _ c0)).trans c0, (hw7.cell (World.block_lt_of_cell? wr _ c1)).trans c1, (hw7.cell (World.block_lt_of_cell? wr _ c2)).trans c2, (hw7.cell (World.block_lt_of_cell? wr _ c3)).trans c3, (hw7.cell (World.block_lt_of_cell? wr _ c4)).trans c4, (hw7.cell (World.block_lt_of_cell? wr _ d0)).trans d0, (hw7.cell (World.block_lt_of_cell? wr _ d1)).trans d1, (hw7.cell (World.block_lt_of_cell? wr _ d2)).trans d2, (hw7.cell (World.block_lt_of_cell? wr _ d3)).trans d3, (hw7.cell (World.block_lt_of_cell? wr _ d4)).trans d4⟩)
        (first
          | (go_at_call 59; refine (HS.out _ ((Below.refl _ _).drew)).mono ?_; rintro e w7 ⟨rfl, hw7⟩)
          | fail)
      go_wp2_with fail
      exact ⟨⟨k + 1, by omega, by go_num, hB.trans (((Below.refl wr.heap.size wr).drew.trans hw7).mono hB.size)⟩, by simp [intOf]; omega⟩
    · obtain rfl : k = a.length := by omega
      go_wp2_with fail
      go_ret
      exact ⟨rfl, hB⟩
set_option maxRecDepth 100000 in
set_option maxHeartbeats 4000000 in
theorem back_any (kind : Int) (v : Value) (l : List CV) (P : Int) (hPr : i64r P) (w : World) (hl : RdCs w v l) (hn : l.length * 72 ≤ 140737488355328) (hb : ∀ c ∈ pcs l, c.key.length ≤ 140737488355328 ∧ c.val.length ≤ 140737488355328) :
    Calls Try.prog 6 #[.int .i64 kind, v, .int .i64 P] w fun e w' => e = .returned (.bool true) ∧ Below w.heap.size w w' := by
  obtain ⟨A, c, rfl, hm, hc⟩ := hl.slice
  go_enter Try.func6, Try.ntmps6
  go_wp2_with fail
  refine (awake_any _).mono ?_
  rintro e w1 ⟨rfl, hw1⟩
  have hl1 := hl.below hw1
  have hgr := great_any _ l w1 hl1 hn hb
  go_wp2_with fail
  refine hgr.mono ?_
  rintro e w2 ⟨hw2, ⟨rfl, _, _⟩ | ⟨rfl, _⟩⟩
  · have hl2 := hl1.below hw2
    have hb2 := hw1.trans (hw2.mono hw1.size)
    have hE := PEncode_any kind _ l P hPr w2 hl2 (by omega)
    clear hgr hw2 hw1 hl1
    go_wp2_with fail
    refine hE.mono ?_
    unfold EncAt
    rintro e w3 ⟨hw3, ⟨hf, rfl⟩ | ⟨ht, ⟨hne, rfl⟩ | ⟨hz, g, rfl, hg, hbk⟩⟩⟩
    · have hb3 := hb2.trans (hw3.mono hb2.size)
      clear hf hE
      go_wp2_with fail
      go_ret
      exact ⟨rfl, hb3⟩
    · have hb3 := hb2.trans (hw3.mono hb2.size)
      have hnb : (encE kind (pcs l) P.toNat != 0) = true := by simp only [bne, beq_eq_false_iff_ne.2 hne]; rfl
      generalize encE kind (pcs l) P.toNat = ee at *
      clear hne hE ht
      go_wp2_with fail
      go_ret
      exact ⟨rfl, hb3⟩
    · rw [Bool.and_eq_true] at ht
      obtain ⟨hP1, hP2⟩ := isPowB_range ht.2
      obtain ⟨Q, rfl⟩ : ∃ Q : Nat, P = (Q : Int) := ⟨P.toNat, by omega⟩
      simp only [Int.toNat_natCast] at hz hbk ⊢
      have hb3 := hb2.trans (hw3.mono hb2.size)
      have hl3 := hl2.below hw3
      have hll : (laidF kind (pcs l) Q).length = Q := laidF_length (encE_zero.1 hz).2
      have hpl : isPln (laidF kind (pcs l) Q) kind (pcs l) := ⟨by rw [hll]; exact ht.2, ht.1, by rw [hll]; exact hz, by rw [hll]⟩
      have hun : ∀ k' l', isPln (laidF kind (pcs l) Q) k' l' → k' = kind ∧ l' = pcs l := fun k' l' h => by
        have h1 := isPln_parse h
        have h2 := isPln_parse hpl
        rw [h2.1] at h1
        exact ⟨h1.2.symm.trans h2.2, (Option.some.inj h1.1).symm⟩
      have hfit := fit_of (P := Q) (fun c hc => may_ok (scan_may (encE_zero.1 hz).1 c hc)) (by omega) (by rw [pcs_length]; omega)
      have hsz := (encE_zero.1 hz).2
      have HUN := Lib.hid hun
      have HPL := Lib.hid hpl
      have HLL := Lib.hid hll
      generalize laidF kind (pcs l) Q = b at *
      have hbr := hbk.rdB HLL.out (by omega)
      have hdec := PDecode_any _ b w3 hbr
      clear hE hz ht hun hpl hll
      go_wp2_with fail
      refine hdec.mono ?_
      rintro e w4 ⟨hw4, ⟨k1, l1, v1, hy1, rfl, hO1⟩ | ⟨hno, _⟩⟩
      case inr => exact absurd HPL.out (hno _ _)
      obtain ⟨rfl, hl1'⟩ := HUN.out _ _ hy1
      have hb4 := hb3.trans (hw4.mono hb3.size)
      have hl4 := hl3.below hw4
      have hbk4 := hbk.below hw4 hbk.lt
      have hbr4 := hbk4.rdB HLL.out (by omega)
      have hlen1 : l1.length = l.length := by rw [← pcs_length l1, hl1', pcs_length]
      obtain ⟨C1, cc1, rfl⟩ := Own.slice hO1.own
      have hop := POpen_any _ b w4 hbr4
      have HL1 := Lib.hid hl1'
      have HN1 := Lib.hid hlen1
      clear hdec hbr hbk hb3 hl3 hy1 hl1' hlen1
      go_wp2_with fail
      refine hop.mono ?_
      rintro e w5 ⟨hw5, ⟨k2, l2, p, u2, hy2, rfl, hp, hPg⟩ | ⟨hno, _⟩⟩
      case inr => exact absurd HPL.out (hno _ _)
      obtain ⟨rfl, hl2'⟩ := HUN.out _ _ hy2
      have hb5 := hb4.trans (hw5.mono hb4.size)
      have hl5 := hl4.below hw5
      have hO5 := hO1.below hw5
      have hbk5 := hbk4.below hw5 hbk4.lt
      have hlen2 : l2.length = l.length := by rw [← pcs_length l2, hl2', pcs_length]
      rw [hl2'] at hPg
      have hsa := SameCells_eq _ _ l1 l w5 hO5.rd hl5 HL1.out
      rw [HN1.out] at hsa
      have HL2 := Lib.hid hl2'
      have HN2 := Lib.hid hlen2
      clear hop hbr4 hbk4 hb4 hl4 hO1 hy2 hl2' hlen2
      rw [HN1.out]
      go_wp2_with fail
      refine hsa.mono ?_
      rintro e w6 ⟨rfl, hw6⟩
      have hb6 := hb5.trans (hw6.mono hb5.size)
      have hPg6 := hPg.below hw6
      have hl6 := hl5.below hw6
      have hln := PLen_any hPg6
      have hus := fun W (hW : Below w6.heap.size w6 W) => PUsed_any (hPg6.below hW)
      have hsi := Size_any k2 _ l w6 hl6 hfit
      rw [HN2.out] at hln
      have i1 : (sizeF (pcs l) : Int) ≤ (Q : Int) := by omega
      have HU := Lib.hid hus
      clear hus hsa hPg hl5 hO5 hbk5 hfit hsz
      generalize sizeF (pcs l) = sz at *
      go_wp2_with (first
        | (go_at_call 23; refine hln.mono ?_; rintro e w8 ⟨rfl, rfl⟩)
        | (go_at_call 24; refine (HU.out w6 (Below.refl _ _)).mono ?_; rintro e w8 ⟨rfl, rfl⟩)
        | (go_at_call 16; refine hsi.mono ?_; rintro e w7 ⟨rfl, hw7⟩)
        | (go_at_call 24; refine (HU.out w7 hw7).mono ?_; rintro e w8 ⟨rfl, rfl⟩)
        | fail)
      go_ret
      exact ⟨rfl, hb6.trans (hw7.mono hb6.size)⟩
  · have hb2 := hw1.trans (hw2.mono hw1.size)
    go_wp2_with fail
    go_ret
    exact ⟨rfl, hb2⟩
end Go.Proofs.Ytonbcipofakpjaa

-- Slices of cells: pieces of them, append of pieces, cells made and stored.
namespace Go.Proofs.Ytonbcipofakpjaa
open Go.RowKit
theorem mul_sub_five (a b : Nat) : (a - b) * 5 = a * 5 - b * 5 := by omega
theorem flatC_take (l : List CV) : ∀ n, flatC (l.take n) = (flatC l).take (n * 5) := by
  intro n
  have h : flatC l = flatC (l.take n) ++ flatC (l.drop n) := by rw [← flatC_append, List.take_append_drop]
  by_cases hn : n ≤ l.length
  · rw [h, List.take_left']
    rw [flatC_length, List.length_take]; omega
  · rw [List.take_of_length_le (by omega), List.take_of_length_le (by rw [flatC_length]; omega)]
theorem flatC_drop (l : List CV) : ∀ n, flatC (l.drop n) = (flatC l).drop (n * 5) := by
  intro n
  have h : flatC l = flatC (l.take n) ++ flatC (l.drop n) := by rw [← flatC_append, List.take_append_drop]
  by_cases hn : n ≤ l.length
  · rw [h, List.drop_left']
    rw [flatC_length, List.length_take]; omega
  · rw [List.drop_of_length_le (by omega), List.drop_of_length_le (by rw [flatC_length]; omega)]; rfl
theorem Rd.cut5 {w : World} {A : Option Addr} {n c lo hi : Nat} {xs : List Value} (h : Rd w 5 (.slice A n c) n xs) (hlo : lo ≤ hi) (hhi : hi ≤ n) :
    Rd w 5 (.slice (if c = lo then A else A.map (·.add (lo * 5))) (hi - lo) (c - lo)) (hi - lo) ((xs.take (hi * 5)).drop (lo * 5)) := by
  obtain ⟨hl, A', c', hv, h1, h2, h3⟩ := h
  injection hv with hA _ hc
  subst hA; subst hc
  refine ⟨by simp only [List.length_drop, List.length_take]; omega, _, _, rfl, by omega, by omega, fun j u hj => ?_⟩
  rw [List.getElem?_drop, List.getElem?_take] at hj
  split at hj
  · obtain ⟨ad, rfl, hc⟩ := h3 _ _ hj
    rw [if_neg (by omega)]
    exact ⟨ad.add (lo * 5), rfl, by rw [add_of_add]; exact hc⟩
  · cases hj
theorem RdCs.cut {w : World} {A : Option Addr} {n c lo hi : Nat} {l : List CV} (h : RdCs w (.slice A n c) l) (hlo : lo ≤ hi) (hhi : hi ≤ l.length) :
    RdCs w (.slice (if c = lo then A else A.map (·.add (lo * 5))) (hi - lo) (c - lo)) ((l.take hi).drop lo) := by
  have hn : n = l.length := by
    obtain ⟨_, A', c', hv, _⟩ := h.form
    injection hv
  subst hn
  refine ⟨?_, fun x hx => h.ok x (List.mem_of_mem_take (List.mem_of_mem_drop hx))⟩
  have e : ((l.take hi).drop lo).length = hi - lo := by simp; omega
  rw [e, flatC_drop, flatC_take]
  exact h.form.cut5 hlo hhi
theorem RdCs.len {w : World} {A : Option Addr} {n c : Nat} {l : List CV} (h : RdCs w (.slice A n c) l) : n = l.length ∧ l.length ≤ c ∧ c ≤ 9223372036854775807 := by
  obtain ⟨_, A', c', hv, h1, h2, _⟩ := h.form
  injection hv with _ hn hc
  subst hc
  simp only [maxLen] at h2
  exact ⟨hn, h1, h2⟩
theorem Cell_elem : Try.prog.underlying 25 = some (.slice (Try.prog.elem 25)) := by kernel_rfl
theorem Cell_sizeOf (w : World) : (sizeOf (Try.prog.elem 25)).run Try.prog w = .ok 5 w := by
  have he : Try.prog.elem 25 = 32 := by kernel_rfl
  rw [he]
  obtain ⟨i, hi, hz0, hz1, hz2⟩ := info_parts cell_info
  simp [sizeOf, typeInfo, hi, hz1]
/-- x[lo:hi] -/
theorem RdCs.run_lh {w : World} {A : Option Addr} {n c : Nat} {l : List CV} (h : RdCs w (.slice A n c) l) (lo hi : Nat) (h1 : lo ≤ hi) (h2 : hi ≤ l.length) :
    ∃ A' c', (∀ w', (Instr.slice 25 (.slice A n c) (some (.int .i64 (lo : Int))) (some (.int .i64 (hi : Int))) none).run Try.prog w' = .ok (.slice A' (hi - lo) c') w') ∧ RdCs w (.slice A' (hi - lo) c') ((l.take hi).drop lo) := by
  obtain ⟨_, hc, _⟩ := h.len
  refine ⟨_, _, fun w' => ?_, h.cut h1 h2⟩
  have := run_slice_lh (P := Try.prog) w' 25 A n c Cell_elem .i64 .i64 lo hi (by omega) (by omega) (by omega)
  rw [this, Cell_sizeOf]
  simp [Result.andThen, sliced]
theorem RdCs.run_l {w : World} {A : Option Addr} {n c : Nat} {l : List CV} (h : RdCs w (.slice A n c) l) (lo : Nat) (h1 : lo ≤ l.length) :
    ∃ A' c', (∀ w', (Instr.slice 25 (.slice A n c) (some (.int .i64 (lo : Int))) none none).run Try.prog w' = .ok (.slice A' (l.length - lo) c') w') ∧ RdCs w (.slice A' (l.length - lo) c') (l.drop lo) := by
  obtain ⟨rfl, hc, _⟩ := h.len
  have hr := h.cut h1 (Nat.le_refl _)
  rw [List.take_length] at hr
  refine ⟨_, _, fun w' => ?_, hr⟩
  have := run_slice_l (P := Try.prog) w' 25 A l.length c Cell_elem .i64 lo (by omega) (by omega)
  rw [this, Cell_sizeOf]
  simp [Result.andThen, sliced]
theorem RdCs.run_h {w : World} {A : Option Addr} {n c : Nat} {l : List CV} (h : RdCs w (.slice A n c) l) (hi : Nat) (h2 : hi ≤ l.length) :
    ∃ A' c', (∀ w', (Instr.slice 25 (.slice A n c) none (some (.int .i64 (hi : Int))) none).run Try.prog w' = .ok (.slice A' hi c') w') ∧ RdCs w (.slice A' hi c') (l.take hi) := by
  obtain ⟨_, hc, _⟩ := h.len
  have hr := h.cut (Nat.zero_le hi) h2
  rw [List.drop_zero, Nat.sub_zero] at hr
  refine ⟨_, _, fun w' => ?_, hr⟩
  have := run_slice_h (P := Try.prog) w' 25 A n c Cell_elem .i64 hi (by omega) (by omega)
  rw [this, Cell_sizeOf]
  simp [Result.andThen, sliced]
theorem RdB.oneC {w : World} {v : Value} {l : List UInt8} (h : RdB w v l) : v.oneCell' = true := by
  obtain ⟨A, c, rfl, _⟩ := h.form
  rfl
theorem CV.ok.one {w : World} {x : CV} (h : x.ok w) : ∀ u ∈ x.cells, u.oneCell' = true := by
  intro u hu
  simp only [CV.cells, List.mem_cons, List.not_mem_nil, or_false] at hu
  rcases hu with rfl | rfl | rfl | rfl | rfl
  · exact h.k.oneC
  · rfl
  · exact h.v.oneC
  · rfl
  · rfl
theorem flatC_one {w : World} {l : List CV} (h : ∀ x ∈ l, x.ok w) : ∀ u ∈ flatC l, u.oneCell' = true := by
  intro u hu
  obtain ⟨x, hx, hux⟩ := List.mem_flatMap.1 hu
  exact (h x hx).one u hux
/-- A list of the call's own, of cells that are read. -/
structure OwL (w : World) (base : Nat) (v : Value) (l : List CV) : Prop where
  own : Own w base 32 5 v l.length (flatC l)
  ok : ∀ x ∈ l, x.ok w
theorem OwL.nil (w : World) (base : Nat) : OwL w base (.slice none 0 0) [] := ⟨Own.nil _ _ _ _, by simp⟩
theorem OwL.rd {w : World} {base : Nat} {v : Value} {l : List CV} (h : OwL w base v l) : RdCs w v l := ⟨h.own.rd, h.ok⟩
theorem OwL.below {w w' : World} {base : Nat} {v : Value} {l : List CV} (h : OwL w base v l) (hb : Below w.heap.size w w') : OwL w' base v l :=
  ⟨Own.below' h.own hb (Nat.le_refl _), fun x hx => (h.ok x hx).below hb⟩
section laws
variable {w : World} {ops : Array Oper} {rest : List Oper} {o : Oper} {a : Act} {Q : Exit → Act → World → Prop}
/-- append(l, m...) of cells. -/
theorem wp_append_C (hgd : o.guard = none) (s x : Operand)
    (ho : o.op = .call { callee := .builtin .append, args := #[s, x], argTypes := #[25, 25] })
    (base : Nat) (v : Value) (l : List CV) (hs : a.eval s = v) (hown : Own w base 32 5 v l.length (flatC l))
    (vx : Value) (m : List CV) (hx : a.eval x = vx) (hr : Rd w 5 vx m.length (flatC m)) (h1 : ∀ u ∈ flatC m, u.oneCell' = true) (hsm : (l.length + m.length) * 72 ≤ 140737488355328) (hbase : base ≤ w.heap.size)
    (h : ∀ v' w', Own w' base 32 5 v' (l ++ m).length (flatC (l ++ m)) → w.grownBy w' v.ownBlock → (v'.ownBlock = v.ownBlock ∨ v'.ownBlock = some w.heap.size) → wpList Try.prog ops Q rest (a.put o.dst v') w') :
    wpList Try.prog ops Q (o :: rest) a w := by
  obtain ⟨i, hi, hz0, hz1, hz2⟩ := info_parts cell_info
  refine wp_append hgd s x _ _ ho base 32 i _ 5 72 Try.underlying25 hi hz0 hz1 hz2 rfl v l.length (flatC l) hs hown vx m.length (flatC m) hx (Rd.src w Try.underlying25 (by omega) hr h1) hsm (by omega) hbase ?_
  intro v' w' h1 h2 h3
  refine h v' w' ?_ h2 h3
  rw [List.length_append, flatC_append]
  exact h1
end laws
/-- A cell of nothing but a kind. -/
def markCV (k : Int) : CV := ⟨.slice none 0 0, .slice none 0 0, ⟨[], k, [], 0, 0⟩⟩
theorem flat_made (n : Nat) : (madeCells #[.slice none 0 0, .int .i64 0, .slice none 0 0, .int .i64 0, .int .i64 0] (n * 5)).toList = flatC (List.replicate n (markCV 0)) := by
  refine List.ext_getElem? fun p => ?_
  by_cases hp : p < n * 5
  · have hi : p / 5 < (List.replicate n (markCV 0)).length := by rw [List.length_replicate]; omega
    have h := flatC_at (List.replicate n (markCV 0)) (p / 5) (p % 5) hi (by omega)
    rw [show p / 5 * 5 + p % 5 = p by omega] at h
    rw [h, List.getElem_replicate]
    unfold madeCells
    rw [Array.getElem?_toList, Array.getElem?_map]
    rw [Array.getElem?_range, if_pos (by omega)]
    have h5 : p % 5 = 0 ∨ p % 5 = 1 ∨ p % 5 = 2 ∨ p % 5 = 3 ∨ p % 5 = 4 := by omega
    show some (#[Value.slice none 0 0, .int .i64 0, .slice none 0 0, .int .i64 0, .int .i64 0][p % 5]!) = _
    rcases h5 with e | e | e | e | e <;> rw [e] <;> rfl
  · rw [List.getElem?_eq_none (by simp [size_madeCells]; omega), List.getElem?_eq_none (by rw [flatC_length, List.length_replicate]; omega)]
theorem flat_set : ∀ (L : List CV) (i : Nat) (_ : i < L.length) (x : CV),
    (((((flatC L).set (i * 5) x.kv).set (i * 5 + 1) (.int .i64 x.c.kind)).set (i * 5 + 2) x.vv).set (i * 5 + 3) (.int .i64 x.c.page)).set (i * 5 + 4) (.int .i64 x.c.count) = flatC (L.set i x)
  | y :: s, 0, _, x => by
    have e : flatC (y :: s) = y.cells ++ flatC s := rfl
    rw [e]
    rfl
  | y :: s, i + 1, hi, x => by
    have e : flatC (y :: s) = y.kv :: .int .i64 y.c.kind :: y.vv :: .int .i64 y.c.page :: .int .i64 y.c.count :: flatC s := rfl
    have ih := flat_set s i (by simpa using hi) x
    have e2 : flatC ((y :: s).set (i + 1) x) = y.kv :: .int .i64 y.c.kind :: y.vv :: .int .i64 y.c.page :: .int .i64 y.c.count :: flatC (s.set i x) := rfl
    rw [e, e2, ← ih, show (i + 1) * 5 = i * 5 + 1 + 1 + 1 + 1 + 1 by omega]
    simp only [List.set_cons_succ, Nat.add_assoc, Nat.reduceAdd]
section laws
variable {w : World} {ops : Array Oper} {rest : List Oper} {o : Oper} {a : Act} {Q : Exit → Act → World → Prop}
theorem wp_make_C (hg : o.guard = none) (l c : Operand) (hop : o.op = Op.makeSlice 25 l c)
    (L : Int) (n : Nat) (hl : a.eval l = .int .i64 L) (hc : a.eval c = .int .i64 L) (hL : L = (n : Int)) (hn : n * 72 ≤ 281474976710656)
    (hK : ∀ w', OBlk w' w.heap.size 32 (flatC (List.replicate n (markCV 0))) → Below w.heap.size w w' → w'.heap.size = w.heap.size + 1 → wpList Try.prog ops Q rest (a.put o.dst (.slice (some ⟨w.heap.size, 0, none⟩) n n)) w') :
    wpList Try.prog ops Q (o :: rest) a w := by
  obtain ⟨i, hi, hz0, hz1, hz2⟩ := info_parts cell_info
  refine wpList_plain hg fun K hK' => ?_
  have hr := run_make (P := Try.prog) w 25 32 i _ Try.underlying25 hi hz0 .i64 .i64 n n (by omega) (by omega) (by rw [hz2]; omega) (by omega)
  subst hL
  unfold Oper.wp
  simp [execOp, hop, hl, hc, hr, Result.andThen]
  refine hK' _ _ (hK _ ?_ ((Below.refl _ _).alloc (Nat.le_refl _) _) (by simp))
  have e := flat_made n
  have := OBlk.new w 32 (madeCells #[.slice none 0 0, .int .i64 0, .slice none 0 0, .int .i64 0, .int .i64 0] (n * 5))
  rw [e] at this
  simpa [Value.cells, hz1] using this
end laws
theorem set5C {w : World} {g : Nat} {L : List CV} (h : OBlk w g 32 (flatC L)) (k : Nat) (hk : k < L.length) (x : CV) :
    OBlk (((((w.setCell ⟨g, k * 5, none⟩ x.kv).setCell ⟨g, k * 5 + 1, none⟩ (.int .i64 x.c.kind)).setCell ⟨g, k * 5 + 2, none⟩ x.vv).setCell ⟨g, k * 5 + 3, none⟩ (.int .i64 x.c.page)).setCell ⟨g, k * 5 + 4, none⟩ (.int .i64 x.c.count)) g 32 (flatC (L.set k x)) := by
  rw [← flat_set L k hk x]
  exact ((((h.set (k * 5) x.kv).set (k * 5 + 1) (.int .i64 x.c.kind)).set (k * 5 + 2) x.vv).set (k * 5 + 3) (.int .i64 x.c.page)).set (k * 5 + 4) (.int .i64 x.c.count)
theorem grown5 (w : World) (g k : Nat) (a b c d e : Value) : w.grownBy (((((w.setCell ⟨g, k * 5, none⟩ a).setCell ⟨g, k * 5 + 1, none⟩ b).setCell ⟨g, k * 5 + 2, none⟩ c).setCell ⟨g, k * 5 + 3, none⟩ d).setCell ⟨g, k * 5 + 4, none⟩ e) (some g) :=
  grownBy_trans (grownBy_trans (grownBy_trans (grownBy_trans (grownBy_setCell _ _ _) (grownBy_setCell _ _ _)) (grownBy_setCell _ _ _)) (grownBy_setCell _ _ _)) (grownBy_setCell _ _ _)
theorem cellsC {w : World} {g : Nat} {L : List CV} (h : OBlk w g 32 (flatC L)) (k : Nat) (hk : k < L.length) :
    w.cell? ⟨g, k * 5, none⟩ = some L[k].kv ∧ w.cell? ⟨g, k * 5 + 1, none⟩ = some (.int .i64 L[k].c.kind) ∧ w.cell? ⟨g, k * 5 + 2, none⟩ = some L[k].vv ∧ w.cell? ⟨g, k * 5 + 3, none⟩ = some (.int .i64 L[k].c.page) ∧ w.cell? ⟨g, k * 5 + 4, none⟩ = some (.int .i64 L[k].c.count) :=
  ⟨h.cell' (j := k * 5) (flatC_at L k 0 hk (by omega)), h.cell' (j := k * 5 + 1) (flatC_at L k 1 hk (by omega)), h.cell' (j := k * 5 + 2) (flatC_at L k 2 hk (by omega)), h.cell' (j := k * 5 + 3) (flatC_at L k 3 hk (by omega)), h.cell' (j := k * 5 + 4) (flatC_at L k 4 hk (by omega))⟩
theorem frozC {w : World} {g : Nat} {L : List CV} (h : OBlk w g 32 (flatC L)) (k : Nat) (hk : k < L.length) :
    w.frozen? ⟨g, k * 5, none⟩ = false ∧ w.frozen? ⟨g, k * 5 + 1, none⟩ = false ∧ w.frozen? ⟨g, k * 5 + 2, none⟩ = false ∧ w.frozen? ⟨g, k * 5 + 3, none⟩ = false ∧ w.frozen? ⟨g, k * 5 + 4, none⟩ = false :=
  ⟨h.frozen (by rw [flatC_length]; omega), h.frozen (by rw [flatC_length]; omega), h.frozen (by rw [flatC_length]; omega), h.frozen (by rw [flatC_length]; omega), h.frozen (by rw [flatC_length]; omega)⟩
end Go.Proofs.Ytonbcipofakpjaa

-- Slices of cells: pieces of them, append of pieces.
namespace Go.Proofs.Ytonbcipofakpjaa
open Go.RowKit
/-! ### a key's place among rising ones -/
def Rising (l : List PC) : Prop := l.Pairwise (fun a b => ordC a.key b.key < 0)
theorem ordC_flip : ∀ (a b : List UInt8), ordC a b < 0 ∨ ordC a b = 0 ∨ ordC b a < 0
  | [], [] => by simp [ordC]
  | _ :: _, [] => by simp [ordC]
  | [], _ :: _ => by simp [ordC]
  | x :: a, y :: b => by
    by_cases h1 : x < y
    · exact .inl (by rw [ordC_lt h1]; omega)
    · by_cases h2 : y < x
      · exact .inr (.inr (by rw [ordC_lt h2]; omega))
      · have e : x = y := by
          rw [UInt8.lt_iff_toNat_lt] at h1 h2
          exact UInt8.toNat_inj.mp (by omega)
        subst e
        rw [ordC_same, ordC_same]
        exact ordC_flip a b
theorem rise_ins {c : PC} {l : List PC} (hs : Rising l) (hne : ∀ x ∈ l, x.key ≠ c.key) : Rising (l.take (findF c.key l) ++ (c :: l.drop (findF c.key l))) := by
  have hd : Rising (l.take (findF c.key l) ++ l.drop (findF c.key l)) := by rw [List.take_append_drop]; exact hs
  have hlo : ∀ x ∈ l.take (findF c.key l), ordC x.key c.key < 0 := by
    intro x hx
    obtain ⟨j, hj, rfl⟩ := List.getElem_of_mem hx
    rw [List.length_take] at hj
    rw [List.getElem_take]
    exact find_lt (by omega) (by omega)
  have hhi : ∀ x ∈ l.drop (findF c.key l), ordC c.key x.key < 0 := by
    intro x hx
    obtain ⟨j, hj, rfl⟩ := List.getElem_of_mem hx
    rw [List.length_drop] at hj
    rw [List.getElem_drop]
    have h1 := find_ge hs (j := findF c.key l + j) (key := c.key) (by omega) (by omega)
    rcases ordC_flip l[findF c.key l + j].key c.key with h | h | h
    · exact absurd h h1
    · exact absurd (ordC_eq _ _ h) (hne _ (List.getElem_mem _))
    · exact h
  unfold Rising at hd ⊢
  rw [List.pairwise_append] at hd ⊢
  refine ⟨hd.1, List.pairwise_cons.2 ⟨hhi, hd.2.1⟩, fun x hx y hy => ?_⟩
  rcases List.mem_cons.1 hy with rfl | hy
  · exact hlo x hx
  · exact hd.2.2 x hx y hy
theorem scan_rise {kind : Int} {P : Nat} : ∀ {l : List PC} {p : Option (List UInt8)}, (∀ c ∈ l, mayP kind P c = true) → (∀ q, p = some q → ∀ c ∈ l, ordC q c.key < 0) → Rising l → scanE kind P p l = 0
  | [], _, _, _, _ => rfl
  | c :: r, p, hm, hp, hs => by
    have hs' := List.pairwise_cons.1 hs
    rw [scanE, if_neg (by rw [hm c (by simp)]; simp)]
    have ha : afterP p c.key = true := by
      cases p with
      | none => rfl
      | some q => exact decide_eq_true (hp q rfl c (by simp))
    rw [if_neg (by rw [ha]; simp)]
    exact scan_rise (fun d hd => hm d (by simp [hd])) (fun q hq d hd => by injection hq with hq; subst hq; exact hs'.1 d hd) hs'.2
/-- One cell that may be is a page. -/
theorem enc_one {kind : Int} {P : Nat} {c : PC} (hP : 512 ≤ P) : encE kind [c] P = if mayP kind P c = true then 0 else 62 := by
  by_cases hm : mayP kind P c = true
  · rw [if_pos hm]
    refine encE_zero.2 ⟨scan_rise (by simpa using hm) (by simp) (by simp [Rising]), ?_⟩
    have h := may_ok hm
    have h1 := h.k0
    have h2 := h.v0
    simp only [sizeF]
    unfold longF
    split
    · have := (h2 (by assumption)).1; omega
    · omega
  · rw [if_neg hm]
    have h62 : scanE kind P none [c] = 62 := by rw [scanE, if_pos (by simpa using hm)]
    unfold encE
    rw [h62]; rfl
theorem enc_three {kind : Int} {P : Nat} {l : List PC} (hP : 512 ≤ P) (hl : l.length ≤ 3) (hm : ∀ c ∈ l, mayP kind P c = true) (hs : Rising l) : encE kind l P = 0 := by
  refine encE_zero.2 ⟨scan_rise hm (by simp) hs, ?_⟩
  have key : ∀ l : List PC, (∀ c ∈ l, mayP kind P c = true) → sizeF l ≤ 8 + l.length * (8 + 5 * (P / 16)) := by
    intro l
    induction l with
    | nil => simp [sizeF]
    | cons c r ih =>
      intro hm
      have h := may_ok (hm c (by simp))
      have h1 := h.k0
      have h2 := h.v0
      have ih' := ih fun d hd => hm d (by simp [hd])
      have hc : longF c ≤ 6 + 5 * (P / 16) := by
        unfold longF
        split
        · have := (h2 (by assumption)).1; omega
        · omega
      simp only [sizeF, List.length_cons, Nat.add_mul, Nat.one_mul]
      omega
  have h1 := key l hm
  have h2 : l.length * (8 + 5 * (P / 16)) ≤ 3 * (8 + 5 * (P / 16)) := Nat.mul_le_mul_right _ hl
  omega
end Go.Proofs.Ytonbcipofakpjaa

-- Cells made, cells stored: see Cs.


-- espalierref06.Lent: the walk.
namespace Go.Proofs.Ytonbcipofakpjaa
open Go.RowKit
def lentL (ps : List (Nat × Nat)) (cs : List PC) : List CV := List.zipWith (fun p c => lentCV p.1 p.2 c) ps cs
theorem lentL_length {ps : List (Nat × Nat)} {cs : List PC} (h : ps.length = cs.length) : (lentL ps cs).length = cs.length := by unfold lentL; rw [List.length_zipWith, h, Nat.min_self]
theorem lentL_snoc {ps : List (Nat × Nat)} {cs : List PC} (h : ps.length = cs.length) (p : Nat × Nat) (c : PC) : lentL (ps ++ [p]) (cs ++ [c]) = lentL ps cs ++ [lentCV p.1 p.2 c] := by
  unfold lentL; rw [List.zipWith_append h]; rfl
structure LentsAt (W : World) (base : Nat) (ps : List (Nat × Nat)) (cs : List PC) : Prop where
  len : ps.length = cs.length
  each : ∀ i (h : i < ps.length) (h' : i < cs.length), LentAt W base ps[i].1 ps[i].2 cs[i]
  rise : ps.Pairwise (fun p q => p.2 < q.1)
theorem LentsAt.nil (W : World) (base : Nat) : LentsAt W base [] [] := ⟨rfl, fun i h => by simp at h, List.Pairwise.nil⟩
theorem LentsAt.grown {w w' : World} {base : Nat} {ps : List (Nat × Nat)} {cs : List PC} {row : Option Nat} (h : LentsAt w base ps cs) (hg : w.grownBy w' row) (hr : ∀ k, row = some k → k < base) : LentsAt w' base ps cs :=
  ⟨h.len, fun i h1 h2 => by
    have e := h.each i h1 h2
    have b1 : base ≤ ps[i].1 := (Own.lt e.k ps[i].1 rfl).1
    have b2 : base ≤ ps[i].2 := (Own.lt e.v ps[i].2 rfl).1
    exact e.grown hg (fun h' => by have := hr ps[i].1 h'.symm; omega) (fun h' => by have := hr ps[i].2 h'.symm; omega), h.rise⟩
theorem LentsAt.below {w w' : World} {base : Nat} {ps : List (Nat × Nat)} {cs : List PC} (h : LentsAt w base ps cs) (hb : Below w.heap.size w w') : LentsAt w' base ps cs :=
  ⟨h.len, fun i h1 h2 => (h.each i h1 h2).below hb, h.rise⟩
theorem LentAt.low {w : World} {base b gk gv : Nat} {c : PC} (h : LentAt w base gk gv c) (hb : b ≤ base) : LentAt w b gk gv c := ⟨h.k.low hb, h.v.low hb, h.lt⟩
theorem LentsAt.snoc {w w' : World} {base gk gv : Nat} {ps : List (Nat × Nat)} {cs : List PC} {c : PC} (h : LentsAt w base ps cs) (hb : Below w.heap.size w w') (hl : LentAt w' w.heap.size gk gv c) (hs : base ≤ w.heap.size) :
    LentsAt w' base (ps ++ [(gk, gv)]) (cs ++ [c]) := by
  have h' := h.below hb
  refine ⟨by simp [h.len], fun i h1 h2 => ?_, ?_⟩
  · by_cases hi : i < ps.length
    · have e := h'.each i hi (by rw [← h.len]; exact hi)
      rw [List.getElem_append_left hi, List.getElem_append_left (by rw [← h.len]; exact hi)]
      exact e
    · have hi' : i = ps.length := by simp at h1; omega
      subst hi'
      rw [List.getElem_append_right (Nat.le_refl _), List.getElem_append_right (by rw [h.len]; exact Nat.le_refl _)]
      simp only [List.getElem_singleton]
      exact hl.low hs
  · rw [List.pairwise_append]
    refine ⟨h.rise, by simp, fun a ha b hb' => ?_⟩
    obtain rfl := List.mem_singleton.1 hb'
    obtain ⟨i, hi, rfl⟩ := List.getElem_of_mem ha
    have e := h.each i hi (by rw [← h.len]; exact hi)
    have b3 : ps[i].2 < w.heap.size := (Own.lt e.v ps[i].2 rfl).2
    have b4 : w.heap.size ≤ gk := (Own.lt hl.k gk rfl).1
    show ps[i].2 < gk
    omega
def lentX (n : Nat) (ps : List (Nat × Nat)) (cs : List PC) (k : Nat) : List CV := lentL ps (cs.take k) ++ (List.replicate (k - n) (markCV (-7)) ++ List.replicate (n + 3 - k) (markCV 0))
theorem lentX_form {n k : Nat} {ps : List (Nat × Nat)} {cs : List PC} (h : ps.length = (cs.take k).length) (hc : cs.length = n) (hk : k < n + 3) :
    ∃ X, X.length = k ∧ X = lentL ps (cs.take k) ++ List.replicate (k - n) (markCV (-7)) ∧ lentX n ps cs k = X ++ markCV 0 :: List.replicate (n + 3 - (k + 1)) (markCV 0) := by
  refine ⟨lentL ps (cs.take k) ++ List.replicate (k - n) (markCV (-7)), ?_, rfl, ?_⟩
  · rw [List.length_append, lentL_length h, List.length_take, List.length_replicate]; omega
  · unfold lentX
    rw [show n + 3 - k = (n + 3 - (k + 1)) + 1 by omega, List.replicate_succ, List.append_assoc]
theorem lentX_mark {n k : Nat} {ps : List (Nat × Nat)} {cs : List PC} (h : ps.length = (cs.take k).length) (hc : cs.length = n) (hk : k < n + 3) (hn : n ≤ k) :
    (lentX n ps cs k).set k (markCV (-7)) = lentX n ps cs (k + 1) := by
  obtain ⟨X, hX, hX2, e⟩ := lentX_form h hc hk
  rw [e, List.set_append_right _ _ (by omega), hX, Nat.sub_self, List.set_cons_zero, hX2]
  unfold lentX
  rw [List.take_of_length_le (by omega), List.take_of_length_le (by omega), show k + 1 - n = (k - n) + 1 by omega, List.replicate_succ']
  simp only [List.append_assoc, List.singleton_append]
theorem lentX_cell {n k : Nat} {ps : List (Nat × Nat)} {cs : List PC} (h : ps.length = (cs.take k).length) (hc : cs.length = n) (hk : k < n) (p : Nat × Nat) (m : CV) :
    ((lentX n ps cs k).set k m).set k (lentCV p.1 p.2 (cs[k]'(by omega))) = lentX n (ps ++ [p]) cs (k + 1) := by
  obtain ⟨X, hX, hX2, e⟩ := lentX_form h hc (show k < n + 3 by omega)
  rw [e, List.set_append_right _ _ (by omega), hX, Nat.sub_self, List.set_cons_zero, List.set_append_right _ _ (by omega), hX, Nat.sub_self, List.set_cons_zero, hX2]
  unfold lentX
  rw [List.take_succ_eq_append_getElem (by omega), lentL_snoc h, show k + 1 - n = 0 by omega, show k - n = 0 by omega]
  simp
set_option maxRecDepth 100000 in
set_option maxHeartbeats 8000000 in
theorem LentL_any (v : Value) (l : List CV) (w : World) (hl : RdCs w v l) (hn : (l.length + 3) * 72 ≤ 281474976710656) (hs : ∀ c ∈ pcs l, c.key.length ≤ 140737488355328 ∧ c.val.length ≤ 140737488355328) :
    Calls Try.prog 14 #[v] w fun e w' => ∃ ps, e = .returned (.slice (some ⟨w.heap.size, 0, none⟩) l.length (l.length + 3)) ∧ OBlk w' w.heap.size 32 (flatC (lentL ps (pcs l) ++ List.replicate 3 (markCV (-7)))) ∧ LentsAt w' (w.heap.size + 1) ps (pcs l) ∧ Below w.heap.size w w' := by
  obtain ⟨A, c, rfl, hm, hc⟩ := hl.slice
  obtain ⟨n, hnn⟩ : ∃ n, l.length = n := ⟨_, rfl⟩
  rw [hnn] at hl hn hm ⊢
  go_enter Try.func14, Try.ntmps14
  go_wp2_with (first
    | (at_make; refine wp_make_C rfl (.tmp 9) (.tmp 9) rfl _ (n + 3) rfl rfl (by go_num) (by omega) ?_; intro w1 hb1 hw1 hs1)
    | fail)
  go_loopw [5] (fun i wr => ∃ (k : Nat) (ps : List (Nat × Nat)), k ≤ n + 3 ∧ i = .int .i64 (k : Int) ∧ OBlk wr w.heap.size 32 (flatC (lentX n ps (pcs l) k)) ∧ LentsAt wr (w.heap.size + 1) ps ((pcs l).take k) ∧ Below w.heap.size w wr) (fun i _ => n + 3 - (intOf i).toNat)
  case atStart => exact ⟨0, [], by omega, rfl, by simpa [lentX, lentL] using hb1, LentsAt.nil _ _, hw1⟩
  case round =>
    clear hb1 hw1 hs1
    obtain ⟨k, ps, hk, rfl, hb, hL, hB⟩ := hrel
    have hcl : (pcs l).length = n := by rw [pcs_length]; exact hnn
    by_cases hlt : k < n + 3
    · have ik : (k : Int) < (n : Int) + 3 := by omega
      have hLen : (lentX n ps (pcs l) k).length = n + 3 := by
        obtain ⟨X, hX, _, e⟩ := lentX_form hL.len hcl hlt
        rw [e, List.length_append, List.length_cons, List.length_replicate]; omega
      obtain ⟨c0, c1, c2, c3, c4⟩ := cellsC hb k (by omega)
      obtain ⟨f0, f1, f2, f3, f4⟩ := frozC hb k (by omega)
      have hb6 : OBlk (((((wr.setCell ⟨w.heap.size, k * 5, none⟩ (.slice none 0 0)).setCell ⟨w.heap.size, k * 5 + 1, none⟩ (.int .i64 (-7))).setCell ⟨w.heap.size, k * 5 + 2, none⟩ (.slice none 0 0)).setCell ⟨w.heap.size, k * 5 + 3, none⟩ (.int .i64 0)).setCell ⟨w.heap.size, k * 5 + 4, none⟩ (.int .i64 0)) w.heap.size 32 (flatC ((lentX n ps (pcs l) k).set k (markCV (-7)))) := set5C hb k (by omega) (markCV (-7))
      have hg6 := grown5 wr w.heap.size k (.slice none 0 0) (.int .i64 (-7)) (.slice none 0 0) (.int .i64 0) (.int .i64 0)
      have hL6 := hL.grown hg6 (fun j e => by have e' : w.heap.size = j := Option.some.inj e; omega)
      have hB6 := hB.grown hg6 hB.size (fun j e => Nat.le_of_eq (Option.some.inj e))
      have hlen2 : ((lentX n ps (pcs l) k).set k (markCV (-7))).length = n + 3 := by rw [List.length_set]; exact hLen
      have HMK : Hid (n ≤ k → (lentX n ps (pcs l) k).set k (markCV (-7)) = lentX n ps (pcs l) (k + 1)) := Lib.hid (lentX_mark hL.len hcl hlt)
      have HCE : Hid (∀ (h : k < n) p c, (pcs l)[k]? = some c → ((lentX n ps (pcs l) k).set k (markCV (-7))).set k (lentCV p.1 p.2 c) = lentX n (ps ++ [p]) (pcs l) (k + 1)) := Lib.hid (fun h p c hc => by
        rw [List.getElem?_eq_getElem (by omega)] at hc
        injection hc with hc
        rw [← hc]; exact lentX_cell hL.len hcl h p _)
      generalize (lentX n ps (pcs l) k)[k]'(by omega) = x0 at *
      clear hb hg6
      generalize (lentX n ps (pcs l) k).set k (markCV (-7)) = L6 at *
      go_upto_region 7 with (fail)
      generalize (((((wr.setCell ⟨w.heap.size, k * 5, none⟩ (.slice none 0 0)).setCell ⟨w.heap.size, k * 5 + 1, none⟩ (.int .i64 (-7))).setCell ⟨w.heap.size, k * 5 + 2, none⟩ (.slice none 0 0)).setCell ⟨w.heap.size, k * 5 + 3, none⟩ (.int .i64 0)).setCell ⟨w.heap.size, k * 5 + 4, none⟩ (.int .i64 0)) = w6 at *
      clear c0 c1 c2 c3 c4 f0 f1 f2 f3 f4 hL hB hLen
      by_cases hkn : k < n
      · have ikn : (k : Int) < (n : Int) := by omega
        have hkl : k < l.length := by omega
        obtain ⟨ad, rfl, s0, s1, s2, s3, s4⟩ := (hl.below hB6).at_ hkl
        have hx := (hl.below hB6).ok _ (List.getElem_mem hkl)
        have hpc : (pcs l)[k]? = some l[k].c := by rw [List.getElem?_eq_getElem (by omega), pcs_at hkl]
        have htk : (pcs l).take (k + 1) = (pcs l).take k ++ [l[k].c] := by rw [List.take_succ_eq_append_getElem (by omega), pcs_at hkl]
        obtain ⟨z1, z2⟩ := hs l[k].c (by rw [← pcs_at hkl]; exact List.getElem_mem _)
        generalize l[k] = x at *
        obtain ⟨A1, a1, B1, b1, key, ck, val, pg, ct, rfl, _, _⟩ := CV.form hx
        have hLC : Calls Try.prog 47 #[.agg #[.slice A1 key.length a1, .int .i64 ck, .slice B1 val.length b1, .int .i64 pg, .int .i64 ct]] w6 fun e w' => ∃ gk gv, e = .returned (.agg #[.slice (some ⟨gk, 0, none⟩) key.length (key.length + 9), .int .i64 ck, .slice (some ⟨gv, 0, none⟩) val.length (val.length + 9), .int .i64 pg, .int .i64 ct]) ∧ LentAt w' w6.heap.size gk gv ⟨key, ck, val, pg, ct⟩ ∧ Below w6.heap.size w6 w' := LentCell_any _ w6 hx z1 z2
        have HPC := Lib.hid (fun p => HCE.out hkn p _ hpc)
        have HTK := Lib.hid htk
        have hb6l := hb6.lt
        clear hx z1 z2 hpc htk HCE HMK
        go_wp2_with (first
          | (go_at_call 47; refine hLC.mono ?_; rintro e w7 ⟨gk, gv, rfl, hl7, hb7⟩; have hb7' := hb6.below hb7 hb6l; obtain ⟨c0, c1, c2, c3, c4⟩ := cellsC hb7' k (by omega); obtain ⟨f0, f1, f2, f3, f4⟩ := frozC hb7' k (by omega); generalize L6[k]'(by omega) = x7 at *)
          | fail)
        have hb8 := set5C hb7' k (by omega) (lentCV gk gv ⟨key, ck, val, pg, ct⟩)
        rw [HPC.out (gk, gv)] at hb8
        have hg8 := grown5 w7 w.heap.size k (.slice (some ⟨gk, 0, none⟩) key.length (key.length + 9)) (.int .i64 ck) (.slice (some ⟨gv, 0, none⟩) val.length (val.length + 9)) (.int .i64 pg) (.int .i64 ct)
        refine ⟨⟨k + 1, ps ++ [(gk, gv)], by omega, by go_num, hb8, ?_, (hB6.trans (hb7.mono hB6.size)).grown hg8 (Nat.le_trans hB6.size hb7.size) (fun j e => Nat.le_of_eq (Option.some.inj e))⟩, by simp [intOf]; omega⟩
        rw [HTK.out]
        exact (hL6.snoc hb7 hl7 (by omega)).grown hg8 (fun j e => by have e' : w.heap.size = j := Option.some.inj e; omega)
      · have ikn : ¬ (k : Int) < (n : Int) := by omega
        have htk : (pcs l).take (k + 1) = (pcs l).take k := by rw [List.take_of_length_le (by omega), List.take_of_length_le (by omega)]
        have hmk := HMK.out (by omega)
        rw [hmk] at hb6
        rw [← htk] at hL6
        clear HMK HCE hmk htk hlen2
        go_wp2_with fail
        exact ⟨⟨k + 1, ps, by omega, by go_num, hb6, hL6, hB6⟩, by simp [intOf]; omega⟩
    · obtain rfl : k = n + 3 := by omega
      have e : lentX n ps (pcs l) (n + 3) = lentL ps (pcs l) ++ List.replicate 3 (markCV (-7)) := by
        unfold lentX
        rw [List.take_of_length_le (by omega), show n + 3 - n = 3 by omega, Nat.sub_self]
        simp
      rw [e] at hb
      rw [List.take_of_length_le (by omega)] at hL
      clear e
      go_wp2_with fail
      go_ret
      exact ⟨ps, rfl, hb, hL, hB⟩
end Go.Proofs.Ytonbcipofakpjaa

-- A region that draws its order, whose head only reads and calls quietly, and whose tail stands in one forced order: the head is walked once in the order of the text, then the tail.
namespace Go.Proofs.Ytonbcipofakpjaa
section
variable {P : Program} {ops : Array Oper} {md : Region.Mode} {C : World → Prop}
/-- Whatever order is picked for the head (places below n); then L. -/
def headAny (P : Program) (md : Region.Mode) (ops : Array Oper) (C : World → Prop) (n : Nat) (L : Array Bool → Act → Prop) : Nat → Array Bool → Act → Prop
  | 0, listed, a => L listed a
  | f + 1, listed, a => Region.ready md ops listed ≠ [] ∧ ∀ i ∈ Region.ready md ops listed, i < n ∧ qOp P ops C i (headAny P md ops C n L f (listed.setIfInBounds i true)) a
theorem any_of_headAny {n g : Nat} {L : Array Bool → Act → Prop} {Q' : Exit → Act → World → Prop} (hL : ∀ listed a w, C w → L listed a → wpAny P md ops Q' g listed a w) :
    ∀ (f : Nat) (listed : Array Bool) (a : Act) (w : World), C w → headAny P md ops C n L f listed a → wpAny P md ops Q' (f + g) listed a w
  | 0, listed, a, w, hw, h => by rw [Nat.zero_add]; exact hL _ _ _ hw h
  | f + 1, listed, a, w, hw, h => by
    rw [show f + 1 + g = (f + g) + 1 by omega]
    exact ⟨fun e => absurd e h.1, fun i hi => wpOp_of_qOp hw (fun a' w' hw' k => any_of_headAny hL f _ a' w' hw' k) (h.2 i hi).2⟩
theorem headAny_first {n i : Nat} {oi : Oper} {v : Value} {L : Array Bool → Act → Prop} (hi : ops[i]? = some oi) (hsel : ∀ (j : Nat) (o : Oper) cs b, ops[j]? = some o → o.op ≠ .select cs b)
    (hs : Region.sinkB md ops n = true) (hc : Region.chainB md ops n = true) (hn : n < ops.size) (hin : i < n)
    (hdone : ∀ listed a, L listed a → ∀ j ∈ Region.ready md ops listed, n ≤ j) :
    ∀ (f : Nat) (listed : Array Bool) (a : Act), HeadInv md ops n listed →
      (∀ j oj, ops[j]? = some oj → j ≠ i → listed.getD j true = false → (∀ e ∈ oj.after, Region.binds md e = true → e.on ≠ i) → oi.apart ops oj = true) →
      i ∈ Region.ready md ops listed → YieldsIn P ops C oi v a →
      headAny P md ops C n L f (listed.setIfInBounds i true) (a.put oi.dst v) → headAny P md ops C n L (f + 1) listed a
  | 0, listed, a, inv, _, hr, hy, H => by
    have hun := (mem_ready.1 hr).1
    refine ⟨fun e => (by rw [e] at hr; cases hr), fun j hj => ?_⟩
    have hjn : j < n := (Nat.lt_or_ge j n).elim id fun h => absurd hj (tail_waits hs hc hn inv _ i rfl hin hun j h)
    refine ⟨hjn, ?_⟩
    by_cases e : j = i
    · subst e; exact hy.qOp hi H
    · have := hdone _ _ H j (ready_mono hj e); omega
  | f + 1, listed, a, inv, hfree, hr, hy, H => by
    have hun := (mem_ready.1 hr).1
    refine ⟨fun e => (by rw [e] at hr; cases hr), fun j hj => ?_⟩
    have hjn : j < n := (Nat.lt_or_ge j n).elim id fun h => absurd hj (tail_waits hs hc hn inv _ i rfl hin hun j h)
    refine ⟨hjn, ?_⟩
    by_cases e : j = i
    · subst e; exact hy.qOp hi H
    obtain ⟨hjun, oj, hoj, hall⟩ := mem_ready.1 hj
    have hnot : ∀ e ∈ oj.after, Region.binds md e = true → e.on ≠ i := fun e he hb heq => by
      have := hall e he hb
      rw [heq, getD_both hun] at this
      cases this
    have h2 := qOp_put hoj (hfree j oj hoj e hjun hnot) (fun cs b => hsel i oi cs b hi) (fun cs b => hsel j oj cs b hoj) hy (H.2 j (ready_mono hj e)).2
    refine qOp_mono (fun a' h3 => ?_) h2
    refine headAny_first hi hsel hs hc hn hin hdone f _ a' (inv.set hj hjn) ?_ (ready_mono hr (Ne.symm e)) h3.1 ?_
    · intro k ok hk hki hku hno
      refine hfree k ok hk hki ?_ hno
      by_cases hjk : j = k
      · subst hjk; exact hjun
      · rwa [getD_set_ne true hjk] at hku
    · rw [Array.setIfInBounds_comm _ _ e]
      exact h3.2
theorem headAny_lex {n g : Nat} {Lq : Act → Prop} (hsel : Region.noSelect ops = true) (hs : Region.sinkB md ops n = true) (hc : Region.chainB md ops n = true) (hn : n < ops.size) :
    ∀ (l : List Oper) (k : Nat) (listed : Array Bool) (a : Act), (∀ j, j < l.length → l[j]? = ops[k + j]?) → k + l.length = n → HeadInv md ops n listed →
    Region.lexHead md ops g l.length k listed = true → wpQuiet P ops C Lq l a →
    headAny P md ops C n (fun listed' a' => Region.seqB md ops g n listed' = true ∧ Lq a') l.length listed a
  | [], k, listed, a, _, hk, _, hB, h => by
    obtain rfl : k = n := by simpa using hk
    exact ⟨by simpa [Region.lexHead] using hB, h⟩
  | o :: l, k, listed, a, hl, hk, inv, hB, h => by
    have h0 : ops[k]? = some o := by simpa using (hl 0 (by simp)).symm
    simp only [List.length_cons, Region.lexHead, Bool.and_eq_true] at hB
    obtain ⟨⟨hr, hf⟩, hB'⟩ := hB
    have hkn : k < n := by simp only [List.length_cons] at hk; omega
    have hr' : k ∈ Region.ready md ops listed := by simpa using hr
    have hst : qOp P ops C k (wpQuiet P ops C Lq l) a := by unfold qOp; simp only [h0]; exact h
    obtain ⟨v, hy, hK⟩ := yieldsIn_of_qOp h0 hst
    exact headAny_first h0 (Region.noSelect_spec hsel) hs hc hn hkn (fun listed' a' hL => seqB_ready hL.1) l.length listed a inv (Region.free_spec h0 hf) hr' hy
      (headAny_lex hsel hs hc hn l (k + 1) _ _ (fun j hj => by have := hl (j + 1) (by simp; omega); simpa [Nat.add_assoc, Nat.add_comm 1 j] using this) (by simp only [List.length_cons] at hk; omega) (inv.set hr' hkn) hB' hK)
/-- The head is walked once, from any world of the class; the tail in its order. -/
theorem wp_region_qtail {id : Nat} {Q : Exit → Act → World → Prop} {a : Act} {w : World} {l : List Oper} (n : Nat) (C : World → Prop) (hC : C w.drew) (hm : P.follows .mixedOrders = true) (hB : Region.lexTailB .any l.toArray n = true)
    (h : wpQuiet P l.toArray C (fun a' => ∀ w', C w' → wpList P l.toArray Q (l.drop n) a' w') (l.take n) a) : (Code.region id l.toArray true).wp P Q a w := by
  simp only [Region.lexTailB, Bool.and_eq_true, decide_eq_true_eq] at hB
  obtain ⟨⟨⟨⟨hsel, hn⟩, hs⟩, hc⟩, hlex⟩ := hB
  have hn' : n < l.length := by simpa using hn
  have htl : (l.take n).length = n := by simp; omega
  have hdl : (l.drop n).length = l.toArray.size - n := by simp
  have inv0 : HeadInv .any l.toArray n (Array.replicate l.toArray.size false) :=
    ⟨by simp, fun j oj _ hl => (by rw [getD_replicate_false] at hl; cases hl), fun t _ ht => getD_in (by simpa using ht) (getD_replicate_false _ _)⟩
  have H := headAny_lex (md := .any) (g := l.toArray.size - n) hsel hs hc hn (l.take n) 0 _ a (fun j hj => by
    have hj' : j < n := by rw [htl] at hj; exact hj
    simp [hj']) (by simpa using htl) inv0 (by rw [htl]; exact hlex) h
  refine wp_region_any hm ?_
  have := any_of_headAny (Q' := Q) (g := l.toArray.size - n) (fun listed a' w' hw' hL => by
    have := wpAny_of_seq (md := .any) (Q' := Q) (l.drop n) n listed a' w' (fun j => by simp [List.getElem?_drop]) (by rw [hdl]; exact hL.1) (hL.2 w' hw')
    rwa [hdl] at this) _ _ _ _ hC H
  rw [htl, show n + (l.toArray.size - n) = l.toArray.size by omega] at this
  exact this
/-- .. at the class of worlds after some draws. -/
theorem wp_region_dtail {id : Nat} {Q : Exit → Act → World → Prop} {a : Act} {w : World} {l : List Oper} (n : Nat) (hm : P.follows .mixedOrders = true) (hB : Region.lexTailB .any l.toArray n = true)
    (h : wpQuiet P l.toArray (fun w' => ∃ k, w' = w.drewN k) (fun a' => ∀ w', (∃ k, w' = w.drewN k) → wpList P l.toArray Q (l.drop n) a' w') (l.take n) a) : (Code.region id l.toArray true).wp P Q a w :=
  wp_region_qtail n _ ⟨1, rfl⟩ hm hB h
end
end Go.Proofs.Ytonbcipofakpjaa
