/- Texts joined: espalierlaw09.pair; espalierlaw09.pair.play -/
import Derived.Test.YtgnhakgfgdelpaaP9
import Derived.Test.YtgnhakgfgdelpaaP10
-- espalierlaw09.pair: what a pair is; plain bounds.
namespace Go.Proofs.Ytgnhakgfgdelpaa
open Go.RowKit Go.Maps
theorem chF_upper {most : Int} {n : Int} : ∀ (f : Nat) (S : BS) (a left : Int) (pages : List Int) (out : List UInt8), (out.length : Int) + left = n → 0 ≤ left → 0 ≤ n → (pages.length : Int) ≤ (out.length : Int) → isPowB (S.page : Int) = true →
    ((chF most f S a left pages out).2.2.1.length : Int) ≤ n ∧ ((chF most f S a left pages out).2.1.length : Int) ≤ n
  | 0, S, a, left, pages, out, h1, h2, _, h4, _ => ⟨by show (out.length : Int) ≤ n; omega, by show (pages.length : Int) ≤ n; omega⟩
  | f + 1, S, a, left, pages, out, h1, h2, h3, h4, h5 => by
    by_cases hm : most ≤ (out.length : Int)
    · rw [chF_done hm]; exact ⟨by show (out.length : Int) ≤ n; omega, by show (pages.length : Int) ≤ n; omega⟩
    · by_cases hz : stepZ S a left pages = 0
      · obtain ⟨b, nx, d, -, -, hd, -, hl, -, k3, k4⟩ := step_zero hz
        obtain ⟨r1, r2, -⟩ := dec_rng hd
        rw [chF_next hm (by omega) hz k3 k4]
        have hp := isPowB_range h5
        exact chF_upper (f + 1 - 1) S.read _ _ _ _ (by rw [List.length_append]; omega) (by omega) h3 (by rw [List.length_append, List.length_append, List.length_singleton]; omega) h5
      · rw [chF_bad hm (by omega) rfl hz rfl]
        exact ⟨by simpa using h3, by simpa using h3⟩
theorem allCh_upper {S : BS} (hok : okB S) (f n : Int) : (allCh S f n).2.2.1.length ≤ 65536 ∧ (allCh S f n).2.1.length ≤ 65536 := by
  unfold allCh
  cases hs : sizeB n with
  | false => exact ⟨by simp, by simp⟩
  | true =>
    obtain ⟨h1, h2⟩ := sizeB_true hs
    rw [if_pos rfl]
    have := chF_upper (most := n) (n := n) (n.toNat + 1) S f n [] [] (by simp) (by omega) (by omega) (by simp) hok.page
    omega
theorem sliceCh_upper {S : BS} (hok : okB S) (f n lo hi : Int) : (sliceCh S f n lo hi).2.2.1.length ≤ 65536 := by
  unfold sliceCh
  split
  · simp
  · split
    · simp
    · split
      · simp
      · rename_i hs hb he
        have hs : sizeB n = true := by simpa using hs
        obtain ⟨h1, h2⟩ := sizeB_true hs
        have := chF_upper (most := hi) (n := n) (hi.toNat + 1) S f n [] [] (by simp) (by omega) (by omega) (by simp) hok.page
        split
        · show ((List.take _ _).drop _).length ≤ _
          rw [List.length_drop, List.length_take]
          omega
        · omega
/-- What came out, in three lists and what should have. -/
abbrev prT (cv : Value) (came : List (Value × List UInt8)) (wv lv : Value) (lists : List (Value × List Int)) (ov : Value) (other : List (Value × List Int)) (L : List Ent) : List Ent :=
  ownE 25 1 cv came.length (came.map Prod.fst) :: ownE 9 1 wv came.length (came.map fun p => strV p.2) :: allE (came.map fun p => bytesE p.1 p.2) ::
  ownE 45 1 lv lists.length (lists.map Prod.fst) :: allE (lists.map fun p => intsE p.1 p.2) :: ownE 45 1 ov other.length (other.map Prod.fst) :: allE (other.map fun p => intsE p.1 p.2) :: L
structure PrB (k : Nat) (firsts : List Int) (came : List (Value × List UInt8)) (lists other : List (Value × List Int)) : Prop where
  f : firsts.length ≤ k
  fr : ∀ x ∈ firsts, i64w x
  c : came.length ≤ k
  l : lists.length ≤ k
  same : lists.map Prod.snd = other.map Prod.snd
  cl : ∀ p ∈ came, p.2.length ≤ 65536
  ll : ∀ p ∈ lists, p.2.length ≤ 65536
theorem PrB.mono {k : Nat} {firsts : List Int} {came : List (Value × List UInt8)} {lists other : List (Value × List Int)} (h : PrB k firsts came lists other) : PrB (k + 1) firsts came lists other :=
  ⟨by have := h.f; omega, h.fr, by have := h.c; omega, by have := h.l; omega, h.same, h.cl, h.ll⟩
theorem PrB.first {k : Nat} {firsts : List Int} {came : List (Value × List UInt8)} {lists other : List (Value × List Int)} (h : PrB k firsts came lists other) {x : Int} (hx : i64w x) : PrB (k + 1) (firsts ++ [x]) came lists other :=
  ⟨by have := h.f; rw [List.length_append, List.length_singleton]; omega, fun y hy => by rcases List.mem_append.1 hy with hy | hy; exact h.fr y hy; obtain rfl := List.mem_singleton.1 hy; exact hx, by have := h.c; omega, by have := h.l; omega, h.same, h.cl, h.ll⟩
theorem PrB.came {k : Nat} {firsts : List Int} {came : List (Value × List UInt8)} {lists other : List (Value × List Int)} (h : PrB k firsts came lists other) (v : Value) {l : List UInt8} (hl : l.length ≤ 65536) : PrB (k + 1) firsts (came ++ [(v, l)]) lists other :=
  ⟨by have := h.f; omega, h.fr, by have := h.c; rw [List.length_append, List.length_singleton]; omega, by have := h.l; omega, h.same, fun p hp => by rcases List.mem_append.1 hp with hp | hp; exact h.cl p hp; obtain rfl := List.mem_singleton.1 hp; exact hl, h.ll⟩
theorem PrB.list {k : Nat} {firsts : List Int} {came : List (Value × List UInt8)} {lists other : List (Value × List Int)} (h : PrB k firsts came lists other) (v u : Value) {l : List Int} (hl : l.length ≤ 65536) : PrB (k + 1) firsts came (lists ++ [(v, l)]) (other ++ [(u, l)]) :=
  ⟨by have := h.f; omega, h.fr, by have := h.c; omega, by have := h.l; rw [List.length_append, List.length_singleton]; omega, by rw [List.map_append, List.map_append, h.same]; rfl, h.cl, fun p hp => by rcases List.mem_append.1 hp with hp | hp; exact h.ll p hp; obtain rfl := List.mem_singleton.1 hp; exact hl⟩
theorem PrB.len {k : Nat} {firsts : List Int} {came : List (Value × List UInt8)} {lists other : List (Value × List Int)} (h : PrB k firsts came lists other) : other.length = lists.length := by
  have := congrArg List.length h.same
  simpa using this.symm
/-- A pair, in words of pieces. -/
def PrAt (pb gb gm gb2 gm2 : Nat) (w0 w : World) (L : List Ent) (k : Nat) : Prop :=
  ∃ pv pv2 S fv firsts cv came wv lv lists ov other, Sep w0 w (prH pb gb gm gb2 gm2 pv pv2 S fv cv wv lv ov firsts (prT cv came wv lv lists ov other L)) ∧ PrB k firsts came lists other
end Go.Proofs.Ytgnhakgfgdelpaa

-- espalierlaw09.pair.play: the walk.
namespace Go.Proofs.Ytgnhakgfgdelpaa
open Go.RowKit Go.Maps
theorem kind_ne {k m : Int} (h : k ≠ m) : (k == m) = false := beq_eq_false_iff_ne.2 h
theorem kind_eq {k m : Int} (h : k = m) : (k == m) = true := by rw [h]; simp
set_option maxRecDepth 100000 in
set_option maxHeartbeats 64000000 in
theorem play_sep {w0 w : World} {pb gb gm gb2 gm2 q : Nat} {L : List Ent} (hP : PrAt pb gb gm gb2 gm2 w0 w L q) (hq : q ≤ 5000000) (k f n fr to_ : Int) (v : Value) (d : List UInt8) (hv : RdIn L v d) (hdl : d.length ≤ 200000)
    (hfr0 : i64w f) (hnr : i64w n) (hfrr : i64w fr) (htor : i64w to_) :
    Calls Try.prog 29 #[.pointer (some ⟨pb, 0, none⟩), opV k f n fr to_ v] w fun e w' => e = .returned (.bool true) ∧ PrAt pb gb gm gb2 gm2 w0 w' L (q + 1) := by
  obtain ⟨pv, pv2, S, fv, firsts, cv, came, wv, lv, lists, ov, other, hS, hb⟩ := hP
  have HB := Lib.hid hb
  have hfl : firsts.length ≤ 100000000 := by have := hb.f; omega
  have hcl : came.length ≤ 5000000 := by have := hb.c; omega
  have hll : lists.length ≤ 5000000 := by have := hb.l; omega
  have hol : other.length ≤ 5000000 := by have := hb.l; have := hb.len; omega
  have hfi := hb.fr
  have HV := Lib.hid hv
  have hok : okB S := (show (benchE gb gm pv S).p w from hS.tail.head).2.2.1
  clear hb hv
  have hS1 : Sep w0 (w.alloc (.cells #[.int .i64 k, .int .i64 f, .int .i64 n, .int .i64 fr, .int .i64 to_, v] 61)) (blkE w.heap.size 61 [.int .i64 k, .int .i64 f, .int .i64 n, .int .i64 fr, .int .i64 to_, v] :: prH pb gb gm gb2 gm2 pv pv2 S fv cv wv lv ov firsts (prT cv came wv lv lists ov other L)) := hS.alloc 61 [.int .i64 k, .int .i64 f, .int .i64 n, .int .i64 fr, .int .i64 to_, v]
  have hbx : OBlk (w.alloc (.cells #[.int .i64 k, .int .i64 f, .int .i64 n, .int .i64 fr, .int .i64 to_, v] 61)) w.heap.size 61 [.int .i64 k, .int .i64 f, .int .i64 n, .int .i64 fr, .int .i64 to_, v] := hS1.head
  have b0 := hbx.cell' (j := 0) rfl
  have b1 := hbx.cell' (j := 1) rfl
  have b2 := hbx.cell' (j := 2) rfl
  have b3 := hbx.cell' (j := 3) rfl
  have b4 := hbx.cell' (j := 4) rfl
  have b5 := hbx.cell' (j := 5) rfl
  unfold opV
  go_enter Try.func29, Try.ntmps29
  go_upto_region 1 with (fail)
  generalize w.alloc (.cells #[.int .i64 k, .int .i64 f, .int .i64 n, .int .i64 fr, .int .i64 to_, v] 61) = w1 at *
  obtain ⟨g, hg⟩ : ∃ g, w.heap.size = g := ⟨_, rfl⟩
  rw [hg] at hS1 hbx b0 b1 b2 b3 b4 b5 ⊢
  clear hg hS hbx
  have hnn := firstF_rng hfr0 hfi
  have hS1f : Sep w0 w1 (blkE pb 59 [.pointer (some ⟨gb, 0, none⟩), .pointer (some ⟨gb2, 0, none⟩), fv, cv, wv, lv, ov] :: intsE fv firsts :: [blkE g 61 [.int .i64 k, .int .i64 f, .int .i64 n, .int .i64 fr, .int .i64 to_, v], benchE gb gm pv S, benchE gb2 gm2 pv2 S] ++ (prT cv came wv lv lists ov other L)) := hS1.sw1.sn [_, _, _]
  have hFi := first_sep hS1f k f n fr to_ v hfr0 hfl
  unfold opV at hFi
  go_upto_region 2 with (first
    | (go_at_call 48; (with_reducible refine hFi.mono ?_); rintro e w2 ⟨rfl, hB2⟩)
    | fail)
  have hS2 : Sep w0 w2 (blkE g 61 [.int .i64 k, .int .i64 f, .int .i64 n, .int .i64 fr, .int .i64 to_, v] :: prH pb gb gm gb2 gm2 pv pv2 S fv cv wv lv ov firsts (prT cv came wv lv lists ov other L)) := hS1.below hB2
  clear hS1 hS1f hFi b0 b1 b2 b3 b4 b5
  generalize firstF firsts f = m at *
  have hbx : OBlk w2 g 61 [.int .i64 k, .int .i64 f, .int .i64 n, .int .i64 fr, .int .i64 to_, v] := hS2.head
  have b0 := hbx.cell' (j := 0) rfl
  have b5 := hbx.cell' (j := 5) rfl
  have hS3 : Sep w0 w2 (prH pb gb gm gb2 gm2 pv pv2 S fv cv wv lv ov firsts (blkE g 61 [.int .i64 k, .int .i64 f, .int .i64 n, .int .i64 fr, .int .i64 to_, v] :: prT cv came wv lv lists ov other L)) := Sep.pick (L := [_, _, _, _, _]) [1, 2, 3, 4, 0] (by decide) rfl hS2
  have hvT : RdIn (blkE g 61 [.int .i64 k, .int .i64 f, .int .i64 n, .int .i64 fr, .int .i64 to_, v] :: prT cv came wv lv lists ov other L) v d := RdIn.app (L1 := [_, _, _, _, _, _, _, _]) HV.out
  clear hB2 hS2
  by_cases k1 : k = 1
  · have e1 := kind_eq k1
    have hC := write_sep hS3 v d hvT hdl hfl
    have hwr := wrF_rng hok d
    clear k1
    go_wp2_with (first
      | (go_at_call 49; (with_reducible refine hC.mono ?_); rintro e w3 ⟨rfl, pv3, pv4, fv3, fs3, hS4, hfs⟩)
      | fail)
    go_ret
    refine ⟨rfl, pv3, pv4, _, fv3, fs3, cv, came, wv, lv, lists, ov, other, Sep.pick (L := [_, _, _, _, _]) [0, 1, 2, 3] (by decide) rfl hS4, ?_⟩
    rcases hfs with rfl | rfl
    · exact HB.out.mono
    · exact HB.out.first hwr
  have e1 := kind_ne k1
  clear k1
  by_cases k2 : k = 2
  · have e2 := kind_eq k2
    clear k2
    have hup := (allCh_upper hok m n).1
    have hS4 : Sep w0 w2.drew (benchE gb gm pv S :: blkE pb 59 [.pointer (some ⟨gb, 0, none⟩), .pointer (some ⟨gb2, 0, none⟩), fv, cv, wv, lv, ov] :: benchE gb2 gm2 pv2 S :: intsE fv firsts :: blkE g 61 [.int .i64 k, .int .i64 f, .int .i64 n, .int .i64 fr, .int .i64 to_, v] :: prT cv came wv lv lists ov other L) := (Sep.pick (L := [_, _, _, _]) [1, 0, 2, 3] (by decide) rfl hS3).drew
    have hOpb : OBlk w2.drew pb 59 [.pointer (some ⟨gb, 0, none⟩), .pointer (some ⟨gb2, 0, none⟩), fv, cv, wv, lv, ov] := (hS4.of_mem (E := blkE pb 59 [.pointer (some ⟨gb, 0, none⟩), .pointer (some ⟨gb2, 0, none⟩), fv, cv, wv, lv, ov]) (by simp))
    have cpb0 := hOpb.cell' (j := 0) rfl
    have hOg : OBlk w2.drew g 61 [.int .i64 k, .int .i64 f, .int .i64 n, .int .i64 fr, .int .i64 to_, v] := (hS4.of_mem (E := blkE g 61 [.int .i64 k, .int .i64 f, .int .i64 n, .int .i64 fr, .int .i64 to_, v]) (by simp))
    have cg2 := hOg.cell' (j := 2) rfl
    have hC := SRead_any hS4 m hnn n
    obtain ⟨r, hr⟩ : ∃ r, allCh S m n = r := ⟨_, rfl⟩
    rw [hr] at hC hup
    go_upto_region 6 with (fail)
    go_region_held3 (fun w' => w'.cell? ⟨pb, 0, none⟩ = some (.pointer (some ⟨gb, 0, none⟩)) ∧ w'.cell? ⟨g, 2, none⟩ = some (.int .i64 n))
      (first | exact ⟨cpb0, cg2⟩ | exact ⟨OBlk.cell' (hS5.of_mem (E := blkE pb 59 [.pointer (some ⟨gb, 0, none⟩), .pointer (some ⟨gb2, 0, none⟩), fv, cv, wv, lv, ov]) (by simp)) (j := 0) rfl, OBlk.cell' (hS5.of_mem (E := blkE g 61 [.int .i64 k, .int .i64 f, .int .i64 n, .int .i64 fr, .int .i64 to_, v]) (by simp)) (j := 2) rfl⟩)
      (first
        | (go_at_call 24; (with_reducible refine hC.mono ?_); rintro e w3 ⟨ua, pv3, rfl, hS5⟩)
        | fail)
    clear hC hS4 hOpb hOg cpb0 cg2
    have hS6 : Sep w0 w3.drew (benchE gb2 gm2 pv2 S :: bytesE ua r.2.2.1 :: benchE gb gm pv3 r.2.2.2 :: blkE pb 59 [.pointer (some ⟨gb, 0, none⟩), .pointer (some ⟨gb2, 0, none⟩), fv, cv, wv, lv, ov] :: intsE fv firsts :: blkE g 61 [.int .i64 k, .int .i64 f, .int .i64 n, .int .i64 fr, .int .i64 to_, v] :: prT cv came wv lv lists ov other L) := (Sep.pick (L := [_, _, _, _]) [3, 0, 1, 2] (by decide) rfl hS5).drew
    have hOpb : OBlk w3.drew pb 59 [.pointer (some ⟨gb, 0, none⟩), .pointer (some ⟨gb2, 0, none⟩), fv, cv, wv, lv, ov] := (hS6.of_mem (E := blkE pb 59 [.pointer (some ⟨gb, 0, none⟩), .pointer (some ⟨gb2, 0, none⟩), fv, cv, wv, lv, ov]) (by simp))
    have cpb1 := hOpb.cell' (j := 1) rfl
    have hOg : OBlk w3.drew g 61 [.int .i64 k, .int .i64 f, .int .i64 n, .int .i64 fr, .int .i64 to_, v] := (hS6.of_mem (E := blkE g 61 [.int .i64 k, .int .i64 f, .int .i64 n, .int .i64 fr, .int .i64 to_, v]) (by simp))
    have cg2 := hOg.cell' (j := 2) rfl
    have hC := RRead_any hS6 m hnn n hnr
    rw [hr] at hC
    go_upto_region 7 with (fail)
    go_region_held3 (fun w' => w'.cell? ⟨pb, 1, none⟩ = some (.pointer (some ⟨gb2, 0, none⟩)) ∧ w'.cell? ⟨g, 2, none⟩ = some (.int .i64 n))
      (first | exact ⟨cpb1, cg2⟩ | exact ⟨OBlk.cell' (hS7.of_mem (E := blkE pb 59 [.pointer (some ⟨gb, 0, none⟩), .pointer (some ⟨gb2, 0, none⟩), fv, cv, wv, lv, ov]) (by simp)) (j := 1) rfl, OBlk.cell' (hS7.of_mem (E := blkE g 61 [.int .i64 k, .int .i64 f, .int .i64 n, .int .i64 fr, .int .i64 to_, v]) (by simp)) (j := 2) rfl⟩)
      (first
        | (go_at_call 50; (with_reducible refine hC.mono ?_); rintro e w4 ⟨ub, pv4, rfl, hS7⟩)
        | fail)
    clear hC hS6 hS5 hOpb hOg cpb1 cg2
    have hS8 : Sep w0 w4 (blkE pb 59 [.pointer (some ⟨gb, 0, none⟩), .pointer (some ⟨gb2, 0, none⟩), fv, cv, wv, lv, ov] :: ownE 25 1 cv came.length (came.map Prod.fst) :: ownE 9 1 wv came.length (came.map fun p => strV p.2) :: bytesE ub r.2.2.1 :: benchE gb2 gm2 pv4 r.2.2.2 :: bytesE ua r.2.2.1 :: benchE gb gm pv3 r.2.2.2 :: intsE fv firsts :: blkE g 61 [.int .i64 k, .int .i64 f, .int .i64 n, .int .i64 fr, .int .i64 to_, v] :: allE (came.map fun p => bytesE p.1 p.2) :: ownE 45 1 lv lists.length (lists.map Prod.fst) :: allE (lists.map fun p => intsE p.1 p.2) :: ownE 45 1 ov other.length (other.map Prod.fst) :: allE (other.map fun p => intsE p.1 p.2) :: L) := Sep.pick (L := [_, _, _, _, _, _, _, _, _]) [4, 7, 8, 0, 1, 2, 3, 5, 6] (by decide) rfl hS7
    have hra : RdIn (bytesE ub r.2.2.1 :: benchE gb2 gm2 pv4 r.2.2.2 :: bytesE ua r.2.2.1 :: benchE gb gm pv3 r.2.2.2 :: intsE fv firsts :: blkE g 61 [.int .i64 k, .int .i64 f, .int .i64 n, .int .i64 fr, .int .i64 to_, v] :: allE (came.map fun p => bytesE p.1 p.2) :: ownE 45 1 lv lists.length (lists.map Prod.fst) :: allE (lists.map fun p => intsE p.1 p.2) :: ownE 45 1 ov other.length (other.map Prod.fst) :: allE (other.map fun p => intsE p.1 p.2) :: L) ub r.2.2.1 := ⟨_, List.mem_cons_self .., fun W hW => OwB.rd hW⟩
    have hT := told_sep hS8 (by omega) ua ub r.2.2.1 ⟨bytesE ua r.2.2.1, by simp, fun W hW => OwB.rd hW⟩ hra
    clear hS7 hS8 hra
    go_upto_region 9 with (first
      | (go_at_call 51; (with_reducible refine hT.mono ?_); rintro e w5 ⟨rfl, cv5, wv5, hS9⟩)
      | fail)
    go_wp2_with fail
    go_ret
    have hS10 : Sep w0 w5 (allE (came.map fun p => bytesE p.1 p.2) :: bytesE ua r.2.2.1 :: blkE pb 59 [.pointer (some ⟨gb, 0, none⟩), .pointer (some ⟨gb2, 0, none⟩), fv, cv5, wv5, lv, ov] :: benchE gb gm pv3 r.2.2.2 :: benchE gb2 gm2 pv4 r.2.2.2 :: intsE fv firsts :: ownE 25 1 cv5 (came.length + 1) (came.map Prod.fst ++ [ua]) :: ownE 9 1 wv5 (came.length + 1) ((came.map fun p => strV p.2) ++ [strV r.2.2.1]) :: ownE 45 1 lv lists.length (lists.map Prod.fst) :: allE (lists.map fun p => intsE p.1 p.2) :: ownE 45 1 ov other.length (other.map Prod.fst) :: allE (other.map fun p => intsE p.1 p.2) :: L) := Sep.pick (L := [_, _, _, _, _, _, _, _, _, _]) [9, 5, 0, 6, 4, 7, 1, 2] (by decide) rfl hS9
    have hS11 : Sep w0 w5 (blkE pb 59 [.pointer (some ⟨gb, 0, none⟩), .pointer (some ⟨gb2, 0, none⟩), fv, cv5, wv5, lv, ov] :: benchE gb gm pv3 r.2.2.2 :: benchE gb2 gm2 pv4 r.2.2.2 :: intsE fv firsts :: ownE 25 1 cv5 (came.length + 1) (came.map Prod.fst ++ [ua]) :: ownE 9 1 wv5 (came.length + 1) ((came.map fun p => strV p.2) ++ [strV r.2.2.1]) :: allE ((came.map fun p => bytesE p.1 p.2) ++ [bytesE ua r.2.2.1]) :: ownE 45 1 lv lists.length (lists.map Prod.fst) :: allE (lists.map fun p => intsE p.1 p.2) :: ownE 45 1 ov other.length (other.map Prod.fst) :: allE (other.map fun p => intsE p.1 p.2) :: L) := Sep.pick (L := [_, _, _, _, _, _, _]) [1, 2, 3, 4, 5, 6, 0] (by decide) rfl hS10.snocAll
    refine ⟨rfl, pv3, pv4, r.2.2.2, fv, firsts, cv5, came ++ [(ua, r.2.2.1)], wv5, lv, lists, ov, other, ?_, HB.out.came ua hup⟩
    unfold prH prT
    simp only [List.length_append, List.length_singleton, List.map_append, List.map_cons, List.map_nil]
    exact hS11
  have e2 := kind_ne k2
  clear k2
  by_cases k3 : k = 3
  · have e3 := kind_eq k3
    clear k3
    have hup := sliceCh_upper hok m n fr to_
    have hS4 : Sep w0 w2.drew (benchE gb gm pv S :: blkE pb 59 [.pointer (some ⟨gb, 0, none⟩), .pointer (some ⟨gb2, 0, none⟩), fv, cv, wv, lv, ov] :: benchE gb2 gm2 pv2 S :: intsE fv firsts :: blkE g 61 [.int .i64 k, .int .i64 f, .int .i64 n, .int .i64 fr, .int .i64 to_, v] :: prT cv came wv lv lists ov other L) := (Sep.pick (L := [_, _, _, _]) [1, 0, 2, 3] (by decide) rfl hS3).drew
    have hOpb : OBlk w2.drew pb 59 [.pointer (some ⟨gb, 0, none⟩), .pointer (some ⟨gb2, 0, none⟩), fv, cv, wv, lv, ov] := (hS4.of_mem (E := blkE pb 59 [.pointer (some ⟨gb, 0, none⟩), .pointer (some ⟨gb2, 0, none⟩), fv, cv, wv, lv, ov]) (by simp))
    have cpb0 := hOpb.cell' (j := 0) rfl
    have hOg : OBlk w2.drew g 61 [.int .i64 k, .int .i64 f, .int .i64 n, .int .i64 fr, .int .i64 to_, v] := (hS4.of_mem (E := blkE g 61 [.int .i64 k, .int .i64 f, .int .i64 n, .int .i64 fr, .int .i64 to_, v]) (by simp))
    have cg2 := hOg.cell' (j := 2) rfl
    have cg3 := hOg.cell' (j := 3) rfl
    have cg4 := hOg.cell' (j := 4) rfl
    have hC := SSlice_any hS4 m hnn n fr to_ hfrr htor
    obtain ⟨r, hr⟩ : ∃ r, sliceCh S m n fr to_ = r := ⟨_, rfl⟩
    rw [hr] at hC hup
    go_upto_region 11 with (fail)
    go_region_held3 (fun w' => w'.cell? ⟨pb, 0, none⟩ = some (.pointer (some ⟨gb, 0, none⟩)) ∧ w'.cell? ⟨g, 2, none⟩ = some (.int .i64 n) ∧ w'.cell? ⟨g, 3, none⟩ = some (.int .i64 fr) ∧ w'.cell? ⟨g, 4, none⟩ = some (.int .i64 to_))
      (first | exact ⟨cpb0, cg2, cg3, cg4⟩ | exact ⟨OBlk.cell' (hS5.of_mem (E := blkE pb 59 [.pointer (some ⟨gb, 0, none⟩), .pointer (some ⟨gb2, 0, none⟩), fv, cv, wv, lv, ov]) (by simp)) (j := 0) rfl, OBlk.cell' (hS5.of_mem (E := blkE g 61 [.int .i64 k, .int .i64 f, .int .i64 n, .int .i64 fr, .int .i64 to_, v]) (by simp)) (j := 2) rfl, OBlk.cell' (hS5.of_mem (E := blkE g 61 [.int .i64 k, .int .i64 f, .int .i64 n, .int .i64 fr, .int .i64 to_, v]) (by simp)) (j := 3) rfl, OBlk.cell' (hS5.of_mem (E := blkE g 61 [.int .i64 k, .int .i64 f, .int .i64 n, .int .i64 fr, .int .i64 to_, v]) (by simp)) (j := 4) rfl⟩)
      (first
        | (go_at_call 25; (with_reducible refine hC.mono ?_); rintro e w3 ⟨ua, pv3, rfl, hS5⟩)
        | fail)
    clear hC hS4 hOpb hOg cpb0 cg2 cg3 cg4
    have hS6 : Sep w0 w3.drew (benchE gb2 gm2 pv2 S :: bytesE ua r.2.2.1 :: benchE gb gm pv3 r.2.2.2 :: blkE pb 59 [.pointer (some ⟨gb, 0, none⟩), .pointer (some ⟨gb2, 0, none⟩), fv, cv, wv, lv, ov] :: intsE fv firsts :: blkE g 61 [.int .i64 k, .int .i64 f, .int .i64 n, .int .i64 fr, .int .i64 to_, v] :: prT cv came wv lv lists ov other L) := (Sep.pick (L := [_, _, _, _]) [3, 0, 1, 2] (by decide) rfl hS5).drew
    have hOpb : OBlk w3.drew pb 59 [.pointer (some ⟨gb, 0, none⟩), .pointer (some ⟨gb2, 0, none⟩), fv, cv, wv, lv, ov] := (hS6.of_mem (E := blkE pb 59 [.pointer (some ⟨gb, 0, none⟩), .pointer (some ⟨gb2, 0, none⟩), fv, cv, wv, lv, ov]) (by simp))
    have cpb1 := hOpb.cell' (j := 1) rfl
    have hOg : OBlk w3.drew g 61 [.int .i64 k, .int .i64 f, .int .i64 n, .int .i64 fr, .int .i64 to_, v] := (hS6.of_mem (E := blkE g 61 [.int .i64 k, .int .i64 f, .int .i64 n, .int .i64 fr, .int .i64 to_, v]) (by simp))
    have cg2 := hOg.cell' (j := 2) rfl
    have cg3 := hOg.cell' (j := 3) rfl
    have cg4 := hOg.cell' (j := 4) rfl
    have hC := RSlice_any hS6 m hnn n fr to_ hnr hfrr htor
    rw [hr] at hC
    go_upto_region 12 with (fail)
    go_region_held3 (fun w' => w'.cell? ⟨pb, 1, none⟩ = some (.pointer (some ⟨gb2, 0, none⟩)) ∧ w'.cell? ⟨g, 2, none⟩ = some (.int .i64 n) ∧ w'.cell? ⟨g, 3, none⟩ = some (.int .i64 fr) ∧ w'.cell? ⟨g, 4, none⟩ = some (.int .i64 to_))
      (first | exact ⟨cpb1, cg2, cg3, cg4⟩ | exact ⟨OBlk.cell' (hS7.of_mem (E := blkE pb 59 [.pointer (some ⟨gb, 0, none⟩), .pointer (some ⟨gb2, 0, none⟩), fv, cv, wv, lv, ov]) (by simp)) (j := 1) rfl, OBlk.cell' (hS7.of_mem (E := blkE g 61 [.int .i64 k, .int .i64 f, .int .i64 n, .int .i64 fr, .int .i64 to_, v]) (by simp)) (j := 2) rfl, OBlk.cell' (hS7.of_mem (E := blkE g 61 [.int .i64 k, .int .i64 f, .int .i64 n, .int .i64 fr, .int .i64 to_, v]) (by simp)) (j := 3) rfl, OBlk.cell' (hS7.of_mem (E := blkE g 61 [.int .i64 k, .int .i64 f, .int .i64 n, .int .i64 fr, .int .i64 to_, v]) (by simp)) (j := 4) rfl⟩)
      (first
        | (go_at_call 52; (with_reducible refine hC.mono ?_); rintro e w4 ⟨ub, ou, lo, pv4, rfl, hrd, hS7⟩)
        | fail)
    clear hC hS6 hS5 hOpb hOg cpb1 cg2 cg3 cg4
    have hS8 : Sep w0 w4 (blkE pb 59 [.pointer (some ⟨gb, 0, none⟩), .pointer (some ⟨gb2, 0, none⟩), fv, cv, wv, lv, ov] :: ownE 25 1 cv came.length (came.map Prod.fst) :: ownE 9 1 wv came.length (came.map fun p => strV p.2) :: bytesE ou lo :: benchE gb2 gm2 pv4 r.2.2.2 :: bytesE ua r.2.2.1 :: benchE gb gm pv3 r.2.2.2 :: intsE fv firsts :: blkE g 61 [.int .i64 k, .int .i64 f, .int .i64 n, .int .i64 fr, .int .i64 to_, v] :: allE (came.map fun p => bytesE p.1 p.2) :: ownE 45 1 lv lists.length (lists.map Prod.fst) :: allE (lists.map fun p => intsE p.1 p.2) :: ownE 45 1 ov other.length (other.map Prod.fst) :: allE (other.map fun p => intsE p.1 p.2) :: L) := Sep.pick (L := [_, _, _, _, _, _, _, _, _]) [4, 7, 8, 0, 1, 2, 3, 5, 6] (by decide) rfl hS7
    have hra : RdIn (bytesE ou lo :: benchE gb2 gm2 pv4 r.2.2.2 :: bytesE ua r.2.2.1 :: benchE gb gm pv3 r.2.2.2 :: intsE fv firsts :: blkE g 61 [.int .i64 k, .int .i64 f, .int .i64 n, .int .i64 fr, .int .i64 to_, v] :: allE (came.map fun p => bytesE p.1 p.2) :: ownE 45 1 lv lists.length (lists.map Prod.fst) :: allE (lists.map fun p => intsE p.1 p.2) :: ownE 45 1 ov other.length (other.map Prod.fst) :: allE (other.map fun p => intsE p.1 p.2) :: L) ub r.2.2.1 := ⟨_, List.mem_cons_self .., fun W hW => hrd W hW⟩
    have hT := told_sep hS8 (by omega) ua ub r.2.2.1 ⟨bytesE ua r.2.2.1, by simp, fun W hW => OwB.rd hW⟩ hra
    clear hS7 hS8 hra
    go_upto_region 14 with (first
      | (go_at_call 51; (with_reducible refine hT.mono ?_); rintro e w5 ⟨rfl, cv5, wv5, hS9⟩)
      | fail)
    go_wp2_with fail
    go_ret
    have hS10 : Sep w0 w5 (allE (came.map fun p => bytesE p.1 p.2) :: bytesE ua r.2.2.1 :: blkE pb 59 [.pointer (some ⟨gb, 0, none⟩), .pointer (some ⟨gb2, 0, none⟩), fv, cv5, wv5, lv, ov] :: benchE gb gm pv3 r.2.2.2 :: benchE gb2 gm2 pv4 r.2.2.2 :: intsE fv firsts :: ownE 25 1 cv5 (came.length + 1) (came.map Prod.fst ++ [ua]) :: ownE 9 1 wv5 (came.length + 1) ((came.map fun p => strV p.2) ++ [strV r.2.2.1]) :: ownE 45 1 lv lists.length (lists.map Prod.fst) :: allE (lists.map fun p => intsE p.1 p.2) :: ownE 45 1 ov other.length (other.map Prod.fst) :: allE (other.map fun p => intsE p.1 p.2) :: L) := Sep.pick (L := [_, _, _, _, _, _, _, _, _, _]) [9, 5, 0, 6, 4, 7, 1, 2] (by decide) rfl hS9
    have hS11 : Sep w0 w5 (blkE pb 59 [.pointer (some ⟨gb, 0, none⟩), .pointer (some ⟨gb2, 0, none⟩), fv, cv5, wv5, lv, ov] :: benchE gb gm pv3 r.2.2.2 :: benchE gb2 gm2 pv4 r.2.2.2 :: intsE fv firsts :: ownE 25 1 cv5 (came.length + 1) (came.map Prod.fst ++ [ua]) :: ownE 9 1 wv5 (came.length + 1) ((came.map fun p => strV p.2) ++ [strV r.2.2.1]) :: allE ((came.map fun p => bytesE p.1 p.2) ++ [bytesE ua r.2.2.1]) :: ownE 45 1 lv lists.length (lists.map Prod.fst) :: allE (lists.map fun p => intsE p.1 p.2) :: ownE 45 1 ov other.length (other.map Prod.fst) :: allE (other.map fun p => intsE p.1 p.2) :: L) := Sep.pick (L := [_, _, _, _, _, _, _]) [1, 2, 3, 4, 5, 6, 0] (by decide) rfl hS10.snocAll
    refine ⟨rfl, pv3, pv4, r.2.2.2, fv, firsts, cv5, came ++ [(ua, r.2.2.1)], wv5, lv, lists, ov, other, ?_, HB.out.came ua hup⟩
    unfold prH prT
    simp only [List.length_append, List.length_singleton, List.map_append, List.map_cons, List.map_nil]
    exact hS11
  have e3 := kind_ne k3
  clear k3
  by_cases k4 : k = 4
  · have e4 := kind_eq k4
    clear k4
    obtain ⟨LA, lc, rfl⟩ := Own.slice (show Own w2 0 45 1 lv lists.length (lists.map Prod.fst) from hS3.of_mem (E := ownE 45 1 lv lists.length (lists.map Prod.fst)) (by simp))
    obtain ⟨OA, oc, rfl⟩ := Own.slice (show Own w2 0 45 1 ov other.length (other.map Prod.fst) from hS3.of_mem (E := ownE 45 1 ov other.length (other.map Prod.fst)) (by simp))
    have hup := (allCh_upper hok m n).2
    have hS4 : Sep w0 w2.drew (benchE gb gm pv S :: blkE pb 59 [.pointer (some ⟨gb, 0, none⟩), .pointer (some ⟨gb2, 0, none⟩), fv, cv, wv, (.slice LA lists.length lc), (.slice OA other.length oc)] :: benchE gb2 gm2 pv2 S :: intsE fv firsts :: blkE g 61 [.int .i64 k, .int .i64 f, .int .i64 n, .int .i64 fr, .int .i64 to_, v] :: prT cv came wv (.slice LA lists.length lc) lists (.slice OA other.length oc) other L) := (Sep.pick (L := [_, _, _, _]) [1, 0, 2, 3] (by decide) rfl hS3).drew
    have hOpb : OBlk w2.drew pb 59 [.pointer (some ⟨gb, 0, none⟩), .pointer (some ⟨gb2, 0, none⟩), fv, cv, wv, (.slice LA lists.length lc), (.slice OA other.length oc)] := (hS4.of_mem (E := blkE pb 59 [.pointer (some ⟨gb, 0, none⟩), .pointer (some ⟨gb2, 0, none⟩), fv, cv, wv, (.slice LA lists.length lc), (.slice OA other.length oc)]) (by simp))
    have cpb0 := hOpb.cell' (j := 0) rfl
    have hOg : OBlk w2.drew g 61 [.int .i64 k, .int .i64 f, .int .i64 n, .int .i64 fr, .int .i64 to_, v] := (hS4.of_mem (E := blkE g 61 [.int .i64 k, .int .i64 f, .int .i64 n, .int .i64 fr, .int .i64 to_, v]) (by simp))
    have cg2 := hOg.cell' (j := 2) rfl
    have hC := SList_any hS4 m hnn n
    obtain ⟨r, hr⟩ : ∃ r, allCh S m n = r := ⟨_, rfl⟩
    rw [hr] at hC hup
    go_upto_region 16 with (fail)
    go_region_held3 (fun w' => w'.cell? ⟨pb, 0, none⟩ = some (.pointer (some ⟨gb, 0, none⟩)) ∧ w'.cell? ⟨g, 2, none⟩ = some (.int .i64 n))
      (first | exact ⟨cpb0, cg2⟩ | exact ⟨OBlk.cell' (hS5.of_mem (E := blkE pb 59 [.pointer (some ⟨gb, 0, none⟩), .pointer (some ⟨gb2, 0, none⟩), fv, cv, wv, (.slice LA lists.length lc), (.slice OA other.length oc)]) (by simp)) (j := 0) rfl, OBlk.cell' (hS5.of_mem (E := blkE g 61 [.int .i64 k, .int .i64 f, .int .i64 n, .int .i64 fr, .int .i64 to_, v]) (by simp)) (j := 2) rfl⟩)
      (first
        | (go_at_call 27; (with_reducible refine hC.mono ?_); rintro e w3 ⟨ua, pv3, rfl, hS5⟩)
        | fail)
    clear hC hS4 hOpb hOg cpb0 cg2
    have hS6 : Sep w0 w3.drew (benchE gb2 gm2 pv2 S :: intsE ua r.2.1 :: benchE gb gm pv3 r.2.2.2 :: blkE pb 59 [.pointer (some ⟨gb, 0, none⟩), .pointer (some ⟨gb2, 0, none⟩), fv, cv, wv, (.slice LA lists.length lc), (.slice OA other.length oc)] :: intsE fv firsts :: blkE g 61 [.int .i64 k, .int .i64 f, .int .i64 n, .int .i64 fr, .int .i64 to_, v] :: prT cv came wv (.slice LA lists.length lc) lists (.slice OA other.length oc) other L) := (Sep.pick (L := [_, _, _, _]) [3, 0, 1, 2] (by decide) rfl hS5).drew
    have hOpb : OBlk w3.drew pb 59 [.pointer (some ⟨gb, 0, none⟩), .pointer (some ⟨gb2, 0, none⟩), fv, cv, wv, (.slice LA lists.length lc), (.slice OA other.length oc)] := (hS6.of_mem (E := blkE pb 59 [.pointer (some ⟨gb, 0, none⟩), .pointer (some ⟨gb2, 0, none⟩), fv, cv, wv, (.slice LA lists.length lc), (.slice OA other.length oc)]) (by simp))
    have cpb1 := hOpb.cell' (j := 1) rfl
    have hOg : OBlk w3.drew g 61 [.int .i64 k, .int .i64 f, .int .i64 n, .int .i64 fr, .int .i64 to_, v] := (hS6.of_mem (E := blkE g 61 [.int .i64 k, .int .i64 f, .int .i64 n, .int .i64 fr, .int .i64 to_, v]) (by simp))
    have cg2 := hOg.cell' (j := 2) rfl
    have hC := RList_any hS6 m hnn n hnr
    rw [hr] at hC
    go_upto_region 17 with (fail)
    go_region_held3 (fun w' => w'.cell? ⟨pb, 1, none⟩ = some (.pointer (some ⟨gb2, 0, none⟩)) ∧ w'.cell? ⟨g, 2, none⟩ = some (.int .i64 n))
      (first | exact ⟨cpb1, cg2⟩ | exact ⟨OBlk.cell' (hS7.of_mem (E := blkE pb 59 [.pointer (some ⟨gb, 0, none⟩), .pointer (some ⟨gb2, 0, none⟩), fv, cv, wv, (.slice LA lists.length lc), (.slice OA other.length oc)]) (by simp)) (j := 1) rfl, OBlk.cell' (hS7.of_mem (E := blkE g 61 [.int .i64 k, .int .i64 f, .int .i64 n, .int .i64 fr, .int .i64 to_, v]) (by simp)) (j := 2) rfl⟩)
      (first
        | (go_at_call 53; (with_reducible refine hC.mono ?_); rintro e w4 ⟨ub, pv4, rfl, hS7⟩)
        | fail)
    clear hC hS6 hS5 hOpb hOg cpb1 cg2
    have hS8 : Sep w0 w4 (ownE 45 1 (.slice LA lists.length lc) lists.length (lists.map Prod.fst) :: blkE pb 59 [.pointer (some ⟨gb, 0, none⟩), .pointer (some ⟨gb2, 0, none⟩), fv, cv, wv, (.slice LA lists.length lc), (.slice OA other.length oc)] :: intsE ub r.2.1 :: benchE gb2 gm2 pv4 r.2.2.2 :: intsE ua r.2.1 :: benchE gb gm pv3 r.2.2.2 :: intsE fv firsts :: blkE g 61 [.int .i64 k, .int .i64 f, .int .i64 n, .int .i64 fr, .int .i64 to_, v] :: ownE 25 1 cv came.length (came.map Prod.fst) :: ownE 9 1 wv came.length (came.map fun p => strV p.2) :: allE (came.map fun p => bytesE p.1 p.2) :: allE (lists.map fun p => intsE p.1 p.2) :: ownE 45 1 (.slice OA other.length oc) other.length (other.map Prod.fst) :: allE (other.map fun p => intsE p.1 p.2) :: L) := Sep.pick (L := [_, _, _, _, _, _, _, _, _, _, _, _, _, _]) [10, 4, 0, 1, 2, 3, 5, 6, 7, 8, 9, 11, 12, 13] (by decide) rfl hS7
    obtain ⟨XA, xa, rfl, -⟩ := (OwI.rd (show OwI w4 0 ua r.2.1 from hS8.of_mem (E := intsE ua r.2.1) (by simp))).form
    obtain ⟨XB, xb, rfl, -⟩ := (OwI.rd (show OwI w4 0 ub r.2.1 from hS8.of_mem (E := intsE ub r.2.1) (by simp))).form
    have hO5 : OBlk w4 pb 59 [.pointer (some ⟨gb, 0, none⟩), .pointer (some ⟨gb2, 0, none⟩), fv, cv, wv, (.slice LA lists.length lc), (.slice OA other.length oc)] := hS8.tail.head
    have c5 := hO5.cell' (j := 5) rfl
    have hone := RdI.one (OwI.rd (show OwI w4 0 (.slice XA r.2.1.length xa) r.2.1 from hS8.of_mem (E := intsE (.slice XA r.2.1.length xa) r.2.1) (by simp)))
    have hown : Own w4 0 45 1 (.slice LA lists.length lc) lists.length (lists.map Prod.fst) := hS8.head
    go_upto_region 19 with (first
      | (at_builtin; refine wp_append_LI rfl (.tmp 139) (.tmp 141) rfl 0 lists.length (.slice LA lists.length lc) (lists.map Prod.fst) rfl hown (.slice XA r.2.1.length xa) hone _ rfl (by omega) (Nat.zero_le _) ?_; intro LVX w5 ho5 hg5 hk5; obtain ⟨LA5, lc5, rfl⟩ := Own.slice ho5; have hS9 := (hS8.appV ho5 hg5 (by rcases hk5 with e | e; exact .inl e; exact .inr ⟨_, e, by omega⟩)).sw1; have f5 := OBlk.frozen (show OBlk w5 pb 59 [.pointer (some ⟨gb, 0, none⟩), .pointer (some ⟨gb2, 0, none⟩), fv, cv, wv, (.slice LA lists.length lc), (.slice OA other.length oc)] from hS9.head) (j := 5) (by simp); have c5' := OBlk.cell' (show OBlk w5 pb 59 [.pointer (some ⟨gb, 0, none⟩), .pointer (some ⟨gb2, 0, none⟩), fv, cv, wv, (.slice LA lists.length lc), (.slice OA other.length oc)] from hS9.head) (j := 5) rfl)
      | fail)
    have hS10 : Sep w0 _ (blkE pb 59 [.pointer (some ⟨gb, 0, none⟩), .pointer (some ⟨gb2, 0, none⟩), fv, cv, wv, (.slice LA5 (lists.length + 1) lc5), (.slice OA other.length oc)] :: ownE 45 1 (.slice LA5 (lists.length + 1) lc5) (lists.length + 1) (lists.map Prod.fst ++ [(.slice XA r.2.1.length xa)]) :: intsE (.slice XB r.2.1.length xb) r.2.1 :: benchE gb2 gm2 pv4 r.2.2.2 :: intsE (.slice XA r.2.1.length xa) r.2.1 :: benchE gb gm pv3 r.2.2.2 :: intsE fv firsts :: blkE g 61 [.int .i64 k, .int .i64 f, .int .i64 n, .int .i64 fr, .int .i64 to_, v] :: ownE 25 1 cv came.length (came.map Prod.fst) :: ownE 9 1 wv came.length (came.map fun p => strV p.2) :: allE (came.map fun p => bytesE p.1 p.2) :: allE (lists.map fun p => intsE p.1 p.2) :: ownE 45 1 (.slice OA other.length oc) other.length (other.map Prod.fst) :: allE (other.map fun p => intsE p.1 p.2) :: L) := hS9.setCell 5 (.slice LA5 (lists.length + 1) lc5)
    clear hS9 hS8 hS7 f5 c5' c5 hO5 hown hone ho5 hg5 hk5
    generalize w5.setCell ⟨pb, 5, none⟩ (.slice LA5 (lists.length + 1) lc5) = w6 at *
    have hS11 : Sep w0 w6 (ownE 45 1 (.slice OA other.length oc) other.length (other.map Prod.fst) :: blkE pb 59 [.pointer (some ⟨gb, 0, none⟩), .pointer (some ⟨gb2, 0, none⟩), fv, cv, wv, (.slice LA5 (lists.length + 1) lc5), (.slice OA other.length oc)] :: ownE 45 1 (.slice LA5 (lists.length + 1) lc5) (lists.length + 1) (lists.map Prod.fst ++ [(.slice XA r.2.1.length xa)]) :: intsE (.slice XB r.2.1.length xb) r.2.1 :: benchE gb2 gm2 pv4 r.2.2.2 :: intsE (.slice XA r.2.1.length xa) r.2.1 :: benchE gb gm pv3 r.2.2.2 :: intsE fv firsts :: blkE g 61 [.int .i64 k, .int .i64 f, .int .i64 n, .int .i64 fr, .int .i64 to_, v] :: ownE 25 1 cv came.length (came.map Prod.fst) :: ownE 9 1 wv came.length (came.map fun p => strV p.2) :: allE (came.map fun p => bytesE p.1 p.2) :: allE (lists.map fun p => intsE p.1 p.2) :: allE (other.map fun p => intsE p.1 p.2) :: L) := Sep.pick (L := [_, _, _, _, _, _, _, _, _, _, _, _, _, _]) [12, 0, 1, 2, 3, 4, 5, 6, 7, 8, 9, 10, 11, 13] (by decide) rfl hS10
    have hO5 : OBlk w6 pb 59 [.pointer (some ⟨gb, 0, none⟩), .pointer (some ⟨gb2, 0, none⟩), fv, cv, wv, (.slice LA5 (lists.length + 1) lc5), (.slice OA other.length oc)] := hS11.tail.head
    have c6 := hO5.cell' (j := 6) rfl
    have hone := RdI.one (OwI.rd (show OwI w6 0 (.slice XB r.2.1.length xb) r.2.1 from hS11.of_mem (E := intsE (.slice XB r.2.1.length xb) r.2.1) (by simp)))
    have hown : Own w6 0 45 1 (.slice OA other.length oc) other.length (other.map Prod.fst) := hS11.head
    clear hS10
    go_upto_region 20 with (first
      | (at_builtin; refine wp_append_LI rfl (.tmp 149) (.tmp 151) rfl 0 other.length (.slice OA other.length oc) (other.map Prod.fst) rfl hown (.slice XB r.2.1.length xb) hone _ rfl (by omega) (Nat.zero_le _) ?_; intro OVX w7 ho7 hg7 hk7; obtain ⟨OA7, oc7, rfl⟩ := Own.slice ho7; have hS12 := (hS11.appV ho7 hg7 (by rcases hk7 with e | e; exact .inl e; exact .inr ⟨_, e, by omega⟩)).sw1; have f6 := OBlk.frozen (show OBlk w7 pb 59 [.pointer (some ⟨gb, 0, none⟩), .pointer (some ⟨gb2, 0, none⟩), fv, cv, wv, (.slice LA5 (lists.length + 1) lc5), (.slice OA other.length oc)] from hS12.head) (j := 6) (by simp); have c6' := OBlk.cell' (show OBlk w7 pb 59 [.pointer (some ⟨gb, 0, none⟩), .pointer (some ⟨gb2, 0, none⟩), fv, cv, wv, (.slice LA5 (lists.length + 1) lc5), (.slice OA other.length oc)] from hS12.head) (j := 6) rfl)
      | fail)
    have hS13 : Sep w0 _ (blkE pb 59 [.pointer (some ⟨gb, 0, none⟩), .pointer (some ⟨gb2, 0, none⟩), fv, cv, wv, (.slice LA5 (lists.length + 1) lc5), (.slice OA7 (other.length + 1) oc7)] :: ownE 45 1 (.slice OA7 (other.length + 1) oc7) (other.length + 1) (other.map Prod.fst ++ [(.slice XB r.2.1.length xb)]) :: ownE 45 1 (.slice LA5 (lists.length + 1) lc5) (lists.length + 1) (lists.map Prod.fst ++ [(.slice XA r.2.1.length xa)]) :: intsE (.slice XB r.2.1.length xb) r.2.1 :: benchE gb2 gm2 pv4 r.2.2.2 :: intsE (.slice XA r.2.1.length xa) r.2.1 :: benchE gb gm pv3 r.2.2.2 :: intsE fv firsts :: blkE g 61 [.int .i64 k, .int .i64 f, .int .i64 n, .int .i64 fr, .int .i64 to_, v] :: ownE 25 1 cv came.length (came.map Prod.fst) :: ownE 9 1 wv came.length (came.map fun p => strV p.2) :: allE (came.map fun p => bytesE p.1 p.2) :: allE (lists.map fun p => intsE p.1 p.2) :: allE (other.map fun p => intsE p.1 p.2) :: L) := hS12.setCell 6 (.slice OA7 (other.length + 1) oc7)
    clear hS12 hS11 f6 c6' c6 hO5 hown hone ho7 hg7 hk7
    generalize w7.setCell ⟨pb, 6, none⟩ (.slice OA7 (other.length + 1) oc7) = w8 at *
    have hsi := sameInts_any (.slice XA r.2.1.length xa) (.slice XB r.2.1.length xb) r.2.1 w8 (OwI.rd (show OwI w8 0 (.slice XA r.2.1.length xa) r.2.1 from hS13.of_mem (E := intsE (.slice XA r.2.1.length xa) r.2.1) (by simp))) (OwI.rd (show OwI w8 0 (.slice XB r.2.1.length xb) r.2.1 from hS13.of_mem (E := intsE (.slice XB r.2.1.length xb) r.2.1) (by simp)))
    go_wp2_with (first
      | (go_at_call 28; (with_reducible refine hsi.mono ?_); rintro e w9 ⟨rfl, nq, rfl⟩)
      | fail)
    go_ret
    have hS14 := hS13.drewN nq
    have hS15 : Sep w0 (w8.drewN nq) (allE (lists.map fun p => intsE p.1 p.2) :: intsE (.slice XA r.2.1.length xa) r.2.1 :: blkE pb 59 [.pointer (some ⟨gb, 0, none⟩), .pointer (some ⟨gb2, 0, none⟩), fv, cv, wv, (.slice LA5 (lists.length + 1) lc5), (.slice OA7 (other.length + 1) oc7)] :: ownE 45 1 (.slice OA7 (other.length + 1) oc7) (other.length + 1) (other.map Prod.fst ++ [(.slice XB r.2.1.length xb)]) :: ownE 45 1 (.slice LA5 (lists.length + 1) lc5) (lists.length + 1) (lists.map Prod.fst ++ [(.slice XA r.2.1.length xa)]) :: intsE (.slice XB r.2.1.length xb) r.2.1 :: benchE gb2 gm2 pv4 r.2.2.2 :: benchE gb gm pv3 r.2.2.2 :: intsE fv firsts :: ownE 25 1 cv came.length (came.map Prod.fst) :: ownE 9 1 wv came.length (came.map fun p => strV p.2) :: allE (came.map fun p => bytesE p.1 p.2) :: allE (other.map fun p => intsE p.1 p.2) :: L) := Sep.pick (L := [_, _, _, _, _, _, _, _, _, _, _, _, _, _]) [12, 5, 0, 1, 2, 3, 4, 6, 7, 9, 10, 11, 13] (by decide) rfl hS14
    have hS16 : Sep w0 (w8.drewN nq) (allE (other.map fun p => intsE p.1 p.2) :: intsE (.slice XB r.2.1.length xb) r.2.1 :: allE ((lists.map fun p => intsE p.1 p.2) ++ [intsE (.slice XA r.2.1.length xa) r.2.1]) :: blkE pb 59 [.pointer (some ⟨gb, 0, none⟩), .pointer (some ⟨gb2, 0, none⟩), fv, cv, wv, (.slice LA5 (lists.length + 1) lc5), (.slice OA7 (other.length + 1) oc7)] :: ownE 45 1 (.slice OA7 (other.length + 1) oc7) (other.length + 1) (other.map Prod.fst ++ [(.slice XB r.2.1.length xb)]) :: ownE 45 1 (.slice LA5 (lists.length + 1) lc5) (lists.length + 1) (lists.map Prod.fst ++ [(.slice XA r.2.1.length xa)]) :: benchE gb2 gm2 pv4 r.2.2.2 :: benchE gb gm pv3 r.2.2.2 :: intsE fv firsts :: ownE 25 1 cv came.length (came.map Prod.fst) :: ownE 9 1 wv came.length (came.map fun p => strV p.2) :: allE (came.map fun p => bytesE p.1 p.2) :: L) := Sep.pick (L := [_, _, _, _, _, _, _, _, _, _, _, _]) [11, 4, 0, 1, 2, 3, 5, 6, 7, 8, 9, 10] (by decide) rfl hS15.snocAll
    have hS17 : Sep w0 (w8.drewN nq) (blkE pb 59 [.pointer (some ⟨gb, 0, none⟩), .pointer (some ⟨gb2, 0, none⟩), fv, cv, wv, (.slice LA5 (lists.length + 1) lc5), (.slice OA7 (other.length + 1) oc7)] :: benchE gb gm pv3 r.2.2.2 :: benchE gb2 gm2 pv4 r.2.2.2 :: intsE fv firsts :: ownE 25 1 cv came.length (came.map Prod.fst) :: ownE 9 1 wv came.length (came.map fun p => strV p.2) :: allE (came.map fun p => bytesE p.1 p.2) :: ownE 45 1 (.slice LA5 (lists.length + 1) lc5) (lists.length + 1) (lists.map Prod.fst ++ [(.slice XA r.2.1.length xa)]) :: allE ((lists.map fun p => intsE p.1 p.2) ++ [intsE (.slice XA r.2.1.length xa) r.2.1]) :: ownE 45 1 (.slice OA7 (other.length + 1) oc7) (other.length + 1) (other.map Prod.fst ++ [(.slice XB r.2.1.length xb)]) :: allE ((other.map fun p => intsE p.1 p.2) ++ [intsE (.slice XB r.2.1.length xb) r.2.1]) :: L) := Sep.pick (L := [_, _, _, _, _, _, _, _, _, _, _]) [2, 6, 5, 7, 8, 9, 10, 4, 1, 3, 0] (by decide) rfl hS16.snocAll
    refine ⟨rfl, pv3, pv4, r.2.2.2, fv, firsts, cv, came, wv, (.slice LA5 (lists.length + 1) lc5), lists ++ [((.slice XA r.2.1.length xa), r.2.1)], (.slice OA7 (other.length + 1) oc7), other ++ [((.slice XB r.2.1.length xb), r.2.1)], ?_, HB.out.list (.slice XA r.2.1.length xa) (.slice XB r.2.1.length xb) hup⟩
    unfold prH prT
    simp only [List.length_append, List.length_singleton, List.map_append, List.map_cons, List.map_nil]
    exact hS17
  have e4 := kind_ne k4
  clear k4
  by_cases k5 : k = 5
  · have e5 := kind_eq k5
    clear k5
    have hS4 : Sep w0 w2.drew (benchE gb gm pv S :: blkE pb 59 [.pointer (some ⟨gb, 0, none⟩), .pointer (some ⟨gb2, 0, none⟩), fv, cv, wv, lv, ov] :: benchE gb2 gm2 pv2 S :: intsE fv firsts :: blkE g 61 [.int .i64 k, .int .i64 f, .int .i64 n, .int .i64 fr, .int .i64 to_, v] :: prT cv came wv lv lists ov other L) := (Sep.pick (L := [_, _, _, _]) [1, 0, 2, 3] (by decide) rfl hS3).drew
    have hOpb : OBlk w2.drew pb 59 [.pointer (some ⟨gb, 0, none⟩), .pointer (some ⟨gb2, 0, none⟩), fv, cv, wv, lv, ov] := (hS4.of_mem (E := blkE pb 59 [.pointer (some ⟨gb, 0, none⟩), .pointer (some ⟨gb2, 0, none⟩), fv, cv, wv, lv, ov]) (by simp))
    have cpb0 := hOpb.cell' (j := 0) rfl
    have hOg : OBlk w2.drew g 61 [.int .i64 k, .int .i64 f, .int .i64 n, .int .i64 fr, .int .i64 to_, v] := (hS4.of_mem (E := blkE g 61 [.int .i64 k, .int .i64 f, .int .i64 n, .int .i64 fr, .int .i64 to_, v]) (by simp))
    have cg2 := hOg.cell' (j := 2) rfl
    have hC := SFree_any hS4 m hnn n
    obtain ⟨r, hr⟩ : ∃ r, freeCh S m n = r := ⟨_, rfl⟩
    rw [hr] at hC
    go_upto_region 22 with (fail)
    go_region_held3 (fun w' => w'.cell? ⟨pb, 0, none⟩ = some (.pointer (some ⟨gb, 0, none⟩)) ∧ w'.cell? ⟨g, 2, none⟩ = some (.int .i64 n))
      (first | exact ⟨cpb0, cg2⟩ | exact ⟨OBlk.cell' (hS5.of_mem (E := blkE pb 59 [.pointer (some ⟨gb, 0, none⟩), .pointer (some ⟨gb2, 0, none⟩), fv, cv, wv, lv, ov]) (by simp)) (j := 0) rfl, OBlk.cell' (hS5.of_mem (E := blkE g 61 [.int .i64 k, .int .i64 f, .int .i64 n, .int .i64 fr, .int .i64 to_, v]) (by simp)) (j := 2) rfl⟩)
      (first
        | (go_at_call 26; (with_reducible refine hC.mono ?_); rintro e w3 ⟨pv3, rfl, hS5⟩)
        | fail)
    clear hC hS4 hOpb hOg cpb0 cg2
    have hS6 : Sep w0 w3.drew (benchE gb2 gm2 pv2 S :: benchE gb gm pv3 r.2 :: blkE pb 59 [.pointer (some ⟨gb, 0, none⟩), .pointer (some ⟨gb2, 0, none⟩), fv, cv, wv, lv, ov] :: intsE fv firsts :: blkE g 61 [.int .i64 k, .int .i64 f, .int .i64 n, .int .i64 fr, .int .i64 to_, v] :: prT cv came wv lv lists ov other L) := (Sep.pick (L := [_, _, _]) [2, 0, 1] (by decide) rfl hS5).drew
    have hOpb : OBlk w3.drew pb 59 [.pointer (some ⟨gb, 0, none⟩), .pointer (some ⟨gb2, 0, none⟩), fv, cv, wv, lv, ov] := (hS6.of_mem (E := blkE pb 59 [.pointer (some ⟨gb, 0, none⟩), .pointer (some ⟨gb2, 0, none⟩), fv, cv, wv, lv, ov]) (by simp))
    have cpb1 := hOpb.cell' (j := 1) rfl
    have hOg : OBlk w3.drew g 61 [.int .i64 k, .int .i64 f, .int .i64 n, .int .i64 fr, .int .i64 to_, v] := (hS6.of_mem (E := blkE g 61 [.int .i64 k, .int .i64 f, .int .i64 n, .int .i64 fr, .int .i64 to_, v]) (by simp))
    have cg2 := hOg.cell' (j := 2) rfl
    have hC := RFree_any hS6 m hnn n hnr
    rw [hr] at hC
    go_upto_region 23 with (fail)
    go_region_held3 (fun w' => w'.cell? ⟨pb, 1, none⟩ = some (.pointer (some ⟨gb2, 0, none⟩)) ∧ w'.cell? ⟨g, 2, none⟩ = some (.int .i64 n))
      (first | exact ⟨cpb1, cg2⟩ | exact ⟨OBlk.cell' (hS7.of_mem (E := blkE pb 59 [.pointer (some ⟨gb, 0, none⟩), .pointer (some ⟨gb2, 0, none⟩), fv, cv, wv, lv, ov]) (by simp)) (j := 1) rfl, OBlk.cell' (hS7.of_mem (E := blkE g 61 [.int .i64 k, .int .i64 f, .int .i64 n, .int .i64 fr, .int .i64 to_, v]) (by simp)) (j := 2) rfl⟩)
      (first
        | (go_at_call 54; (with_reducible refine hC.mono ?_); rintro e w4 ⟨pv4, rfl, hS7⟩)
        | fail)
    clear hC hS6 hS5 hOpb hOg cpb1 cg2
    go_wp2_with fail
    go_ret
    exact ⟨rfl, pv3, pv4, r.2, fv, firsts, cv, came, wv, lv, lists, ov, other, Sep.pick (L := [_, _, _, _, _]) [2, 1, 0, 3] (by decide) rfl hS7, HB.out.mono⟩
  have e5 := kind_ne k5
  clear k5
  by_cases k6 : k = 6
  · have e6 := kind_eq k6
    clear k6
    have hS4 : Sep w0 w2.drew (benchE gb gm pv S :: blkE pb 59 [.pointer (some ⟨gb, 0, none⟩), .pointer (some ⟨gb2, 0, none⟩), fv, cv, wv, lv, ov] :: benchE gb2 gm2 pv2 S :: intsE fv firsts :: blkE g 61 [.int .i64 k, .int .i64 f, .int .i64 n, .int .i64 fr, .int .i64 to_, v] :: prT cv came wv lv lists ov other L) := (Sep.pick (L := [_, _, _, _]) [1, 0, 2, 3] (by decide) rfl hS3).drew
    have hOpb : OBlk w2.drew pb 59 [.pointer (some ⟨gb, 0, none⟩), .pointer (some ⟨gb2, 0, none⟩), fv, cv, wv, lv, ov] := (hS4.of_mem (E := blkE pb 59 [.pointer (some ⟨gb, 0, none⟩), .pointer (some ⟨gb2, 0, none⟩), fv, cv, wv, lv, ov]) (by simp))
    have cpb0 := hOpb.cell' (j := 0) rfl
    have hOg : OBlk w2.drew g 61 [.int .i64 k, .int .i64 f, .int .i64 n, .int .i64 fr, .int .i64 to_, v] := (hS4.of_mem (E := blkE g 61 [.int .i64 k, .int .i64 f, .int .i64 n, .int .i64 fr, .int .i64 to_, v]) (by simp))
    have cg5 := hOg.cell' (j := 5) rfl
    have hC := BLay_any hS4 m hnn v d (hS4.tail.tail.tail.tail.rdIn hvT) hdl
    go_upto_region 25 with (fail)
    go_region_held3 (fun w' => w'.cell? ⟨pb, 0, none⟩ = some (.pointer (some ⟨gb, 0, none⟩)) ∧ w'.cell? ⟨g, 5, none⟩ = some (v))
      (first | exact ⟨cpb0, cg5⟩ | exact ⟨OBlk.cell' (hS5.of_mem (E := blkE pb 59 [.pointer (some ⟨gb, 0, none⟩), .pointer (some ⟨gb2, 0, none⟩), fv, cv, wv, lv, ov]) (by simp)) (j := 0) rfl, OBlk.cell' (hS5.of_mem (E := blkE g 61 [.int .i64 k, .int .i64 f, .int .i64 n, .int .i64 fr, .int .i64 to_, v]) (by simp)) (j := 5) rfl⟩)
      (first
        | (go_at_call 55; (with_reducible refine hC.mono ?_); rintro e w3 ⟨rfl, pv3, hS5⟩)
        | fail)
    clear hC hS4 hOpb hOg cpb0 cg5
    have hS6 : Sep w0 w3.drew (benchE gb2 gm2 pv2 S :: benchE gb gm pv3 (layS S m d) :: blkE pb 59 [.pointer (some ⟨gb, 0, none⟩), .pointer (some ⟨gb2, 0, none⟩), fv, cv, wv, lv, ov] :: intsE fv firsts :: blkE g 61 [.int .i64 k, .int .i64 f, .int .i64 n, .int .i64 fr, .int .i64 to_, v] :: prT cv came wv lv lists ov other L) := (Sep.pick (L := [_, _, _]) [2, 0, 1] (by decide) rfl hS5).drew
    have hOpb : OBlk w3.drew pb 59 [.pointer (some ⟨gb, 0, none⟩), .pointer (some ⟨gb2, 0, none⟩), fv, cv, wv, lv, ov] := (hS6.of_mem (E := blkE pb 59 [.pointer (some ⟨gb, 0, none⟩), .pointer (some ⟨gb2, 0, none⟩), fv, cv, wv, lv, ov]) (by simp))
    have cpb1 := hOpb.cell' (j := 1) rfl
    have hOg : OBlk w3.drew g 61 [.int .i64 k, .int .i64 f, .int .i64 n, .int .i64 fr, .int .i64 to_, v] := (hS6.of_mem (E := blkE g 61 [.int .i64 k, .int .i64 f, .int .i64 n, .int .i64 fr, .int .i64 to_, v]) (by simp))
    have cg5 := hOg.cell' (j := 5) rfl
    have hC := BLay_any hS6 m hnn v d (hS6.tail.tail.tail.tail.rdIn hvT) hdl
    go_upto_region 26 with (fail)
    go_region_held3 (fun w' => w'.cell? ⟨pb, 1, none⟩ = some (.pointer (some ⟨gb2, 0, none⟩)) ∧ w'.cell? ⟨g, 5, none⟩ = some (v))
      (first | exact ⟨cpb1, cg5⟩ | exact ⟨OBlk.cell' (hS7.of_mem (E := blkE pb 59 [.pointer (some ⟨gb, 0, none⟩), .pointer (some ⟨gb2, 0, none⟩), fv, cv, wv, lv, ov]) (by simp)) (j := 1) rfl, OBlk.cell' (hS7.of_mem (E := blkE g 61 [.int .i64 k, .int .i64 f, .int .i64 n, .int .i64 fr, .int .i64 to_, v]) (by simp)) (j := 5) rfl⟩)
      (first
        | (go_at_call 55; (with_reducible refine hC.mono ?_); rintro e w4 ⟨rfl, pv4, hS7⟩)
        | fail)
    clear hC hS6 hS5 hOpb hOg cpb1 cg5
    go_wp2_with fail
    go_ret
    exact ⟨rfl, pv3, pv4, layS S m d, fv, firsts, cv, came, wv, lv, lists, ov, other, Sep.pick (L := [_, _, _, _, _]) [2, 1, 0, 3] (by decide) rfl hS7, HB.out.mono⟩
  have e6 := kind_ne k6
  clear k6
  have hb2 := hbx.cell' (j := 1) rfl
  have hb3 := hbx.cell' (j := 2) rfl
  have hb4 := hbx.cell' (j := 3) rfl
  have hb5 := hbx.cell' (j := 4) rfl
  have hC := turn_sep hS3 k f n fr to_ v hfr0 hfl hfi htor hfrr
  unfold opV at hC
  by_cases k7 : k = 7
  · have e7 := kind_eq k7
    clear k7
    go_wp2_with (first
      | (go_at_call 56; (with_reducible refine hC.mono ?_); rintro e w3 ⟨⟨_, rfl⟩, pv3, pv4, S3, hS4⟩)
      | fail)
    go_ret
    exact ⟨rfl, pv3, pv4, S3, fv, firsts, cv, came, wv, lv, lists, ov, other, Sep.pick (L := [_, _, _, _, _]) [0, 1, 2, 3] (by decide) rfl hS4, HB.out.mono⟩
  have e7 := kind_ne k7
  clear k7
  by_cases k8 : k = 8
  · have e8 := kind_eq k8
    clear k8
    go_wp2_with (first
      | (go_at_call 56; (with_reducible refine hC.mono ?_); rintro e w3 ⟨⟨_, rfl⟩, pv3, pv4, S3, hS4⟩)
      | fail)
    go_ret
    exact ⟨rfl, pv3, pv4, S3, fv, firsts, cv, came, wv, lv, lists, ov, other, Sep.pick (L := [_, _, _, _, _]) [0, 1, 2, 3] (by decide) rfl hS4, HB.out.mono⟩
  have e8 := kind_ne k8
  clear k8 hC
  go_wp2_with fail
  go_ret
  exact ⟨rfl, pv, pv2, S, fv, firsts, cv, came, wv, lv, lists, ov, other, Sep.pick (L := [_, _, _, _, _]) [0, 1, 2, 3] (by decide) rfl hS3, HB.out.mono⟩
end Go.Proofs.Ytgnhakgfgdelpaa
