/- Texts joined: packed.Page.Tidy, in words of pieces; packed.own; slices.Clone of cells; bytes.HasPrefix; ink.ReadUint, espalierref01.ReadUint; packed.reader's number, part, small; How a packed cell is read, step by step -/
import Derived.Test.YtfcnkpofcekmgaaGreatNT3
import Derived.Test.YtfcnkpofcekmgaaGreatNT8
import Derived.Test.YtfcnkpofcekmgaaGreatNT9
import Derived.Test.YtfcnkpofcekmgaaGreatNT10
import Derived.Test.YtfcnkpofcekmgaaGreatNT11
import Derived.Deep.RegionLaw
import Derived.Deep.RegionHeld3
import Derived.Deep.CutRange
import Derived.Deep.DeepCutAuto
import Derived.Deep.QuietTactic
import Derived.BigQuiet
-- packed.Page.Tidy, in words of pieces: the walk.
namespace Go.Proofs.YtfcnkpofcekmgaaGreat
open Go.RowKit
/-- The page's own block. -/
def pkB (p : Nat) (kind : Int) (P : Nat) (u pv : Value) (used waste : Nat) : Ent := blkE p 150 [.int .i64 kind, .int .i64 (P : Int), u, pv, .int .i64 (used : Int), .int .i64 (waste : Int)]
/-- Cells that are read, in whichever pieces. -/
def CsIn (M : List Ent) (u : Value) (l : List CV) : Prop := ∀ W, (∀ E ∈ M, E.p W) → RdCs W u l
theorem CsIn.at_ {M M' : List Ent} {u : Value} {l : List CV} {w0 w : World} (h : CsIn M u l) (hS : Sep w0 w M') (hs : ∀ E ∈ M, E ∈ M') : RdCs w u l := h w (fun E hE => hS.of_mem (hs E hE))
set_option maxRecDepth 100000 in
set_option maxHeartbeats 2000000 in
theorem KTidy_sep {w0 w : World} {M : List Ent} {p P : Nat} {kind : Int} {u pv : Value} {used waste : Nat} {l : List CV} (hS : Sep w0 w (pkB p kind P u pv used waste :: M)) (hM : CsIn M u l) (hf : bigK (pcs l) ≤ 140737488355328) :
    Calls Tryz.prog 137 #[.pointer (some ⟨p, 0, none⟩)] w fun e w' => (∃ x, e = .returned x) ∧ ∃ pv', Sep w0 w' (pkB p kind P u pv' (psizeF kind (pcs l)) 0 :: bytesE pv' (prefF kind (pcs l)) :: M) := by
  have hrd := hM.at_ hS (fun E hE => List.mem_cons_of_mem _ hE)
  obtain ⟨U, uc, rfl, hm, hc⟩ := hrd.slice
  have hpk : ∀ (i : Nat) (hi : i < (pcs l).length), ¬ (kind = 3 ∧ i = 0) → sharedF kind (pcs l) ≤ (pcs l)[i].key.length := fun i hi hn => (key_split (kind := kind) hi hn).1
  have hspos : 0 < sharedF kind (pcs l) → ∃ m, l.length = m + 1 ∧ ∃ h : m < l.length, sharedF kind (pcs l) ≤ l[m].c.key.length ∧ prefF kind (pcs l) = l[m].c.key.take (sharedF kind (pcs l)) ∧ l[m].c.key.length ≤ 140737488355328 := fun hs => by
    obtain ⟨j, hj, hjn⟩ := sharedF_pos hs
    rw [pcs_length] at hj
    obtain ⟨m, hm1⟩ : ∃ m, l.length = m + 1 := ⟨l.length - 1, by omega⟩
    have hlt : m < l.length := by omega
    have hkm := hpk m (by rw [pcs_length]; exact hlt) (fun h => hjn ⟨h.1, by omega⟩)
    have hpf : prefF kind (pcs l) = ((pcs l)[m]'(by rw [pcs_length]; exact hlt)).key.take (sharedF kind (pcs l)) := by
      unfold prefF
      have e : (pcs l).getLast? = some ((pcs l)[m]'(by rw [pcs_length]; exact hlt)) := by
        have e9 : (pcs l).length - 1 = m := by rw [pcs_length]; omega
        rw [List.getLast?_eq_getElem?, e9]
        exact List.getElem?_eq_getElem _
      rw [e]
    have hb := bigK_mem (show (pcs l)[m]'(by rw [pcs_length]; exact hlt) ∈ pcs l from List.getElem_mem _)
    rw [pcs_at hlt] at hkm hpf hb
    exact ⟨m, hm1, hlt, hkm, hpf, by omega⟩
  have hzero : sharedF kind (pcs l) = 0 → prefF kind (pcs l) = [] := fun h => List.eq_nil_of_length_eq_zero (by rw [prefF_length]; exact h)
  have hsb : sharedF kind (pcs l) ≤ 1152921504606846976 := by
    rcases Nat.eq_zero_or_pos (sharedF kind (pcs l)) with h | h
    · omega
    · obtain ⟨m, -, h1, h2, -, h3⟩ := hspos h; omega
  have hsh : ∀ W, RdCs W (.slice U l.length uc) l → Calls Tryz.prog 139 #[.int .i64 kind, .slice U l.length uc] W fun e w' => e = .returned (.int .i64 (sharedF kind (pcs l) : Nat)) ∧ Below W.heap.size W w' := fun W hW => Kshared_any kind _ l W hW
  have htk : ∀ W, RdCs W (.slice U l.length uc) l → Calls Tryz.prog 138 #[.int .i64 kind, .slice U l.length uc, .int .i64 (sharedF kind (pcs l) : Nat)] W fun e w' => e = .returned (.int .i64 (psizeF kind (pcs l) : Nat)) ∧ Below W.heap.size W w' := fun W hW => Ktaken_any kind _ l (sharedF kind (pcs l)) W hW (by omega) (by omega) hpk
  obtain ⟨s, hs⟩ : ∃ s, sharedF kind (pcs l) = s := ⟨_, rfl⟩
  obtain ⟨z, hz⟩ : ∃ z, psizeF kind (pcs l) = z := ⟨_, rfl⟩
  obtain ⟨pre, hpre⟩ : ∃ z, prefF kind (pcs l) = z := ⟨_, rfl⟩
  rw [hs, hpre] at hspos hzero
  rw [hs] at hsh htk hsb
  rw [hz] at htk ⊢
  rw [hpre]
  have HSP := Lib.hid hspos
  have HZ := Lib.hid hzero
  have HTK := Lib.hid htk
  have hbp : OBlk w p 150 [.int .i64 kind, .int .i64 (P : Int), .slice U l.length uc, pv, .int .i64 (used : Int), .int .i64 (waste : Int)] := hS.head
  obtain ⟨b0, b1, b2, b3, b4, b5⟩ := cells6 hbp
  have hsh1 := fun m => hsh (w.drewN m) (hrd.below (below_drewN (Below.refl _ _) m))
  clear hs hz hpre hpk hspos hzero htk hsh hf
  go_enter Tryz.func137, Tryz.ntmps137
  go_upto_region 0 with (fail)
  go_cut [2] (fun sl wx => sl = .int .i64 (s : Int) ∧ Below w.heap.size w wx)
  case first =>
    go_region_held3 (fun w' => w'.cell? ⟨p, 0, none⟩ = some (.int .i64 kind) ∧ w'.cell? ⟨p, 2, none⟩ = some (.slice U l.length uc))
      (first | exact ⟨b0, b2⟩ | exact ⟨(cells6 (hbp.drew.below hw2 hbp.lt)).1, (cells6 (hbp.drew.below hw2 hbp.lt)).2.2.1⟩)
      (first
        | (go_at_call 139; refine (hsh1 1).mono ?_; rintro e w2 ⟨rfl, hw2⟩)
        | fail)
    go_wp2_with fail
    go_meet
    exact ⟨rfl, (Below.refl _ _).drew.trans hw2⟩
  case rest =>
    obtain ⟨rfl, hw2⟩ := hcut
    have hS2 := hS.below hw2
    clear hsh1 hbp b0 b1 b2 b3 b4 b5 hrd hS hw2
    have hbp : OBlk wc p 150 [.int .i64 kind, .int .i64 (P : Int), .slice U l.length uc, pv, .int .i64 (used : Int), .int .i64 (waste : Int)] := hS2.head
    obtain ⟨b0, b1, b2, b3, b4, b5⟩ := cells6 hbp
    have f3 := hbp.frozen (j := 3) (by simp)
    go_upto_region 2 with (fail)
    have hS3 : Sep w0 _ (pkB p kind P (.slice U l.length uc) (.slice none 0 0) used waste :: M) := hS2.setCell 3 (.slice none 0 0)
    clear hS2 hbp b0 b1 b2 b3 b4 b5 f3
    generalize wc.setCell ⟨p, 3, none⟩ (.slice none 0 0) = w3 at *
    go_upto_if 16 with (fail)
    go_cut [] (fun wx => ∃ pv', Sep w0 wx (pkB p kind P (.slice U l.length uc) pv' used waste :: bytesE pv' pre :: M))
    case first =>
      by_cases hs0 : 0 < s
      · have i1 : (0 : Int) < (s : Int) := by omega
        obtain ⟨m, hm1, hlt, hkm, hpf, hkb⟩ := HSP.out hs0
        have hrd3 := hM.at_ hS3 (fun E hE => List.mem_cons_of_mem _ hE)
        obtain ⟨ad, B, b, rfl, q0, hkr⟩ := hrd3.key_at' hlt
        generalize l[m].c.key = key at *
        obtain ⟨A7, c7, hrun, hrd7⟩ := hkr.run_h s hkm
        have hbp : OBlk w3 p 150 [.int .i64 kind, .int .i64 (P : Int), .slice (some ad) l.length uc, .slice none 0 0, .int .i64 (used : Int), .int .i64 (waste : Int)] := hS3.head
        obtain ⟨b0, b1, b2, b3, b4, b5⟩ := cells6 hbp
        have f3 := hbp.frozen (j := 3) (by simp)
        have j1 : (0 : Int) ≤ (l.length : Int) - 1 := by omega
        have j2 : (l.length : Int) - 1 < (l.length : Int) := by omega
        have j3 : ((l.length : Int) - 1).toNat = m := by omega
        have j4 : IntKind.i64.wrap ((l.length : Int) - 1) = (l.length : Int) - 1 := by rw [IntKind.wrap_i64]; omega
        have j5 : (1 : Int) ≤ (l.length : Int) := by omega
        have j6 : 0 < l.length := by omega
        have j7 : l.length - 1 = m := by omega
        have hkl : (key.take s).length = s := by rw [List.length_take]; omega
        have hcl := CloneK_any (.slice A7 s c7) (key.take s) w3.drew hrd7 (by rw [hkl]; omega)
        clear hkl hrd7
        generalize key.take s = kt at *
        have HPF := Lib.hid hpf
        have HM1 := Lib.hid hm1
        have hpz := hbp.lt
        clear hrd3 hpf hm1
        go_upto_region 3 with (fail)
        go_region_law
          (first
            | (go_simp; go_at_call 167; refine hcl.mono ?_; rintro e w4 ⟨v4, rfl, ho4, hw4⟩; obtain ⟨V4, vc4, rfl⟩ := Own.slice ho4; have hB4 := hbp.drew.below hw4 hpz; obtain ⟨d0, d1, d2, d3, d4, d5⟩ := cells6 hB4; have g3 := hB4.frozen (j := 3) (by simp); have hS4 := hS3.drew.bytes hw4 ho4 (Nat.le_refl _))
            | fail)
        all_goals
          go_wp2_with fail
          go_meet
          exact ⟨_, by rw [HPF.out]; exact hS4.sw1.setCell 3 _⟩
      · have i1 : ¬ (0 : Int) < (s : Int) := by omega
        go_wp2_with fail
        go_meet
        exact ⟨_, by rw [HZ.out (by omega)]; exact hS3.nil.sw1⟩
    case rest =>
      clear hS3
      obtain ⟨pv', hS4⟩ := hcut
      have hbp : OBlk wc p 150 [.int .i64 kind, .int .i64 (P : Int), .slice U l.length uc, pv', .int .i64 (used : Int), .int .i64 (waste : Int)] := hS4.head
      obtain ⟨b0, b1, b2, b3, b4, b5⟩ := cells6 hbp
      have hpz := hbp.lt
      have f4 := hbp.frozen (j := 4) (by simp)
      have f5 := hbp.frozen (j := 5) (by simp)
      have htk := HTK.out wc.drew (hM.at_ hS4.drew (fun E hE => List.mem_cons_of_mem _ (List.mem_cons_of_mem _ hE)))
      go_upto_region 4 with (fail)
      go_region_law
        (first
          | (go_simp; go_at_call 138; refine htk.mono ?_; rintro e w5 ⟨rfl, hw5⟩; have hB5 := hbp.drew.below hw5 hpz; obtain ⟨d0, d1, d2, d3, d4, d5⟩ := cells6 hB5; have g4 := hB5.frozen (j := 4) (by simp); have g5 := hB5.frozen (j := 5) (by simp); have hS5 := hS4.drew.below hw5)
          | fail)
      all_goals
        go_wp2_with fail
        go_end0
        exact ⟨⟨_, rfl⟩, pv', (hS5.setCell 4 (.int .i64 (z : Int))).setCell 5 (.int .i64 0)⟩
end Go.Proofs.YtfcnkpofcekmgaaGreat

-- packed.own; slices.Clone of cells; bytes.HasPrefix: walks.
namespace Go.Proofs.YtfcnkpofcekmgaaGreat
open Go.RowKit
set_option maxRecDepth 100000 in
set_option maxHeartbeats 4000000 in
theorem Kown_sep {w0 w : World} {L : List Ent} (h : Sep w0 w L) (x : CV) (hx : x.ok w) (h1 : x.c.key.length ≤ 140737488355328) (h2 : x.c.val.length ≤ 140737488355328) :
    Calls Tryz.prog 225 #[cellV x] w fun e w' => ∃ y : CV, e = .returned (cellV y) ∧ y.c = x.c ∧ Sep w0 w' (bytesE y.kv y.c.key :: bytesE y.vv y.c.val :: L) := by
  obtain ⟨A, ca, B, cb, key, ck, val, pg, ct, rfl, hk1, hk2⟩ := CV.form hx
  simp only at h1 h2
  have hkr : RdB w (.slice A key.length ca) key := hx.k
  have hvr : RdB w (.slice B val.length cb) val := hx.v
  have hS1 := (((Sep.start w).alloc 43 [.slice A key.length ca, .int .i64 ck, .slice B val.length cb, .int .i64 pg, .int .i64 ct])).alloc 43 [.slice none 0 0, .int .i64 0, .slice none 0 0, .int .i64 0, .int .i64 0]
  have hz1 : (w.alloc (.cells [.slice A key.length ca, .int .i64 ck, .slice B val.length cb, .int .i64 pg, .int .i64 ct].toArray 43)).heap.size = w.heap.size + 1 := World.size_alloc _ _
  rw [hz1] at hS1
  clear hz1
  unfold cellV
  go_enter Tryz.func225, Tryz.ntmps225
  go_upto_region 1 with (fail)
  generalize (w.alloc (.cells #[.slice A key.length ca, .int .i64 ck, .slice B val.length cb, .int .i64 pg, .int .i64 ct] 43)).alloc (.cells #[.slice none 0 0, .int .i64 0, .slice none 0 0, .int .i64 0, .int .i64 0] 43) = w1 at *
  have hkr0 := (hS1.drew).rd (v := w) (by simp) hkr
  have hC : OBlk w1 w.heap.size 43 [.slice A key.length ca, .int .i64 ck, .slice B val.length cb, .int .i64 pg, .int .i64 ct] := hS1.tail.head
  obtain ⟨c0, c1, c2, c3, c4⟩ := cells5 hC
  go_region_law
    (first
      | (go_simp; go_at_call 167; refine (CloneK_any _ key _ hkr0 h1).mono ?_; rintro e w4 ⟨vd, rfl, hod, hw4⟩; obtain ⟨K2, kc2, rfl⟩ := Own.slice hod; have hS4 := hS1.drew.bytes hw4 hod (Nat.le_refl _); have hC4 : OBlk w4 w.heap.size 43 [.slice A key.length ca, .int .i64 ck, .slice B val.length cb, .int .i64 pg, .int .i64 ct] := hS4.tail.tail.head; have d2 := hC4.cell' (j := 2) (u := .slice B val.length cb) rfl; have d0 := hC4.cell' (j := 0) (u := .slice A key.length ca) rfl; have hvr4 := hS4.rd (v := w) (by simp) hvr)
      | (go_simp; go_at_call 167; refine (CloneK_any _ val _ hvr4 h2).mono ?_; rintro e w5 ⟨ve, rfl, hoe, hw5⟩; obtain ⟨V2, vc2, rfl⟩ := Own.slice hoe; have hS5 := hS4.bytes hw5 hoe (Nat.le_refl _); have hC5 : OBlk w5 w.heap.size 43 [.slice A key.length ca, .int .i64 ck, .slice B val.length cb, .int .i64 pg, .int .i64 ct] := hS5.tail.tail.tail.head; have e2 := hC5.cell' (j := 2) (u := .slice B val.length cb) rfl; have e0 := hC5.cell' (j := 0) (u := .slice A key.length ca) rfl; have g2 := hC5.frozen (j := 2) (by simp); have g0 := hC5.frozen (j := 0) (by simp))
      | fail)
  all_goals
    have hS6 : Sep w _ (blkE w.heap.size 43 [.slice K2 key.length kc2, .int .i64 ck, .slice V2 val.length vc2, .int .i64 pg, .int .i64 ct] :: bytesE (.slice V2 val.length vc2) val :: bytesE (.slice K2 key.length kc2) key :: blkE (w.heap.size + 1) 43 [.slice none 0 0, .int .i64 0, .slice none 0 0, .int .i64 0, .int .i64 0] :: [oldE w]) := ((Sep.sw3 hS5).setCell 0 (.slice K2 key.length kc2)).setCell 2 (.slice V2 val.length vc2)
    clear c0 c1 c2 c3 c4 d0 d2 e0 e2 g0 g2 hC hC4 hC5 hS4 hS5 hod hoe hkr0 hvr4
    generalize (w5.setCell ⟨w.heap.size, 0, none⟩ (.slice K2 key.length kc2)).setCell ⟨w.heap.size, 2, none⟩ (.slice V2 val.length vc2) = w6 at *
    obtain ⟨y0, y1, y2, y3, y4⟩ := cells5 (show OBlk w6 w.heap.size 43 [.slice K2 key.length kc2, .int .i64 ck, .slice V2 val.length vc2, .int .i64 pg, .int .i64 ct] from hS6.head)
    have hR6 : OBlk w6 (w.heap.size + 1) 43 [.slice none 0 0, .int .i64 0, .slice none 0 0, .int .i64 0, .int .i64 0] := hS6.tail.tail.tail.head
    obtain ⟨r0, r1, r2, r3, r4⟩ := cells5 hR6
    obtain ⟨f0, f1, f2, f3, f4⟩ := froz5 hR6
    go_wp2_with fail
    have hF := (Sep.sw3 hS6).set5 (.slice K2 key.length kc2) (.int .i64 ck) (.slice V2 val.length vc2) (.int .i64 pg) (.int .i64 ct)
    obtain ⟨e0, e1, e2, e3, e4⟩ := cells5 (show OBlk _ (w.heap.size + 1) 43 [.slice K2 key.length kc2, .int .i64 ck, .slice V2 val.length vc2, .int .i64 pg, .int .i64 ct] from hF.head)
    refine bodyPost_ret (v := .agg #[(.slice K2 key.length kc2), .int .i64 ck, (.slice V2 val.length vc2), .int .i64 pg, .int .i64 ct]) ?_ rfl ?_
    · simp [results, Tryz.results225, go_sem, e0, e1, e2, e3, e4]
    · exact ⟨⟨(.slice K2 key.length kc2), (.slice V2 val.length vc2), ⟨key, ck, val, pg, ct⟩⟩, rfl, rfl, Sep.lift2 (hF.tail.tail.sw1) (List.mem_singleton.2 rfl) h⟩
set_option maxRecDepth 20000 in
set_option maxHeartbeats 1000000 in
theorem HasPrefix_any (u v : Value) (a b : List UInt8) (w : World) (hu : RdB w u a) (hv : RdB w v b) :
    Calls Tryz.prog 230 #[u, v] w fun e w' => e = .returned (.bool (hasPre a b)) ∧ w' = w := by
  obtain ⟨A, c, rfl, hm⟩ := hu.form
  obtain ⟨B, d, rfl, hm2⟩ := hv.form
  by_cases hle : b.length ≤ a.length
  · obtain ⟨A2, c2, hrun, hrd⟩ := hu.run_h b.length hle
    have heq := Equal_q _ _ _ _ w hrd hv
    have hE : hasPre a b = (a.take b.length == b) := by unfold hasPre; rw [decide_eq_true hle]; rfl
    rw [hE]
    generalize (a.take b.length == b) = E at *
    have i1 : (b.length : Int) ≤ (a.length : Int) := by omega
    clear hE hrd
    go_enter Tryz.func230, Tryz.ntmps230
    go_wp2_with (first | (go_at_call 134; (with_reducible refine heq.mono ?_); rintro e w1 ⟨rfl, rfl⟩) | fail)
    go_ret
    exact ⟨rfl, rfl⟩
  · have hE : hasPre a b = false := by unfold hasPre; rw [decide_eq_false hle]; rfl
    rw [hE]
    have i1 : ¬ (b.length : Int) ≤ (a.length : Int) := by omega
    clear hE
    go_enter Tryz.func230, Tryz.ntmps230
    go_wp2_with fail
    go_ret
    exact ⟨rfl, rfl⟩
set_option maxRecDepth 20000 in
set_option maxHeartbeats 1000000 in
/-- A copy of a row of cells: their bytes stay shared. -/
theorem CloneC_sep {w0 w : World} {L : List Ent} (h : Sep w0 w L) (v : Value) (l : List CV) (hv : RdCs w v l) (hl : l.length ≤ 1000000) :
    Calls Tryz.prog 229 #[v] w fun e w' => ∃ v', e = .returned v' ∧ Sep w0 w' (ownE 43 5 v' l.length (flatC l) :: L) := by
  obtain ⟨A, c, rfl, hm, hc⟩ := hv.slice
  have q22 : ∀ (w : World) (a : Option Addr) (n c n' c' : Nat), (binOp .eql 32 (.slice a n c) (.slice none n' c')).run Tryz.prog w = .ok (.bool a.isNone) w := fun w a n c n' c' => Lib.run_eql_slice_nil w _ _ a n c n' c' Tryz.underlying32
  cases A with
  | none =>
    have : l = [] := by
      cases l with
      | nil => rfl
      | cons x r => obtain ⟨ad, h, _⟩ := hv.at_ (i := 0) (by simp); cases h
    subst this
    go_enter Tryz.func229, Tryz.ntmps229
    go_wp2_with fail
    go_ret
    exact ⟨_, rfl, h.nilC⟩
  | some ad =>
    obtain ⟨i0, hi, hz0, hz1, hz2⟩ := info_parts cell_info
    have hone := flatC_one hv.ok
    have hsrc := hv.form
    have hbase : Own (w.alloc (.cells #[] 43)) w.heap.size 43 5 (.slice (some ⟨w.heap.size, 0, none⟩) 0 0) 0 [] := by
      refine ⟨rfl, .inr ⟨w.heap.size, 0, [], rfl, Nat.le_refl _, OBlk.new' w 43 [], ?_⟩⟩
      simp
    go_enter Tryz.func229, Tryz.ntmps229
    go_wp2_with (first
      | (at_builtin; refine wp_append_C rfl (.tmp 5) (.tmp 6) rfl w.heap.size (.slice (some ⟨w.heap.size, 0, none⟩) 0 0) [] rfl hbase _ l rfl (hsrc.alloc _) hone (by simp; omega) (by simp) ?_; intro v' w' ho hg hbk)
      | fail)
    go_ret
    rw [List.nil_append] at ho
    refine ⟨v', rfl, h.new (((Below.refl w.heap.size w).alloc (Nat.le_refl _) _).grown hg (by simp) (fun k hk => Nat.le_of_eq (Option.some.inj hk))) (E := ownE _ _ _ _ _) (Own.low ho (Nat.zero_le _)) (fun g hg => Own.lt ho g hg)⟩
end Go.Proofs.YtfcnkpofcekmgaaGreat

-- ink.ReadUint, espalierref01.ReadUint: walks.
namespace Go.Proofs.YtfcnkpofcekmgaaGreat
open Go.RowKit
end Go.Proofs.YtfcnkpofcekmgaaGreat

-- packed.reader's number, part, small: walks.
namespace Go.Proofs.YtfcnkpofcekmgaaGreat
open Go.RowKit
/-! in words of pieces -/
end Go.Proofs.YtfcnkpofcekmgaaGreat

-- How a packed cell is read, step by step: plain laws.
namespace Go.Proofs.YtfcnkpofcekmgaaGreat
end Go.Proofs.YtfcnkpofcekmgaaGreat
