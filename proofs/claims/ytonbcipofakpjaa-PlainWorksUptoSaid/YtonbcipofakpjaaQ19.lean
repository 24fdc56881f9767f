/- espalierlaw06.PlainWorks: the statement 'PlainWorksUptoSaid' is proved: whatever the input of bulk at most 1048576, the law returns true and the input reads as it did. -/
import Derived.Test.YtonbcipofakpjaaQ6
import Derived.Test.YtonbcipofakpjaaQ17
import Derived.Test.YtonbcipofakpjaaQ18
import Derived.Test.YtonbcipofakpjaaRows
import Derived.JoinedCond
import Derived.Carry
-- Scripts over pages: an argument of type []espalierlaw06.Op, of bulk at most the bound.
namespace Go.Proofs.Ytonbcipofakpjaa
open Go.RowKit Go.WideShapes Go.ChangeShapes Go.Deep
structure OpW where
  kind : Int
  at_ : Int
  x : CV
instance : Inhabited OpW := ⟨⟨0, 0, default⟩⟩
def OpW.cells (o : OpW) : List Value := .int .i64 o.kind :: .int .i64 o.at_ :: o.x.cells
structure OpW.ok (W : World) (o : OpW) : Prop where
  x : o.x.ok W
  r0 : i64r o.kind
  r1 : i64r o.at_
structure RdOps (W : World) (v : Value) (l : List OpW) : Prop where
  form : ∃ A c, v = .slice A l.length c ∧ l.length ≤ c ∧ c ≤ maxLen ∧ ∀ i (h : i < l.length), ∃ ad, A = some ad ∧ ∀ r u, l[i].cells[r]? = some u → W.cell? (ad.add (i * 7 + r)) = some u
  ok : ∀ o ∈ l, o.ok W
section
variable {H : Type} {enc : TypeId × Value → H} {W : World}
theorem cells_Op : Try.prog.cellsOf 69 = 7 := by kernel_rfl
set_option maxRecDepth 100000 in
theorem open_op {fuel : Nat} {cs : List Value} {x : DataW H × List MemPlace} (h : DataW.trod enc Try.prog W 0 (fun _ => true) true fuel 69 cs = some x) :
    ∃ o : OpW, cs = o.cells ∧ o.ok W ∧ ∃ y0 y1 y2 y3 y4 y5 y6, x.1 = .agg [y0, y1, .agg [y2, y3, y4, y5, y6]] ∧ ((y2 = .nil ∧ o.x.c.key = []) ∨ ∃ e s, y2 = .slice e s ∧ o.x.c.key.length ≤ e.length + s.length) ∧ ((y4 = .nil ∧ o.x.c.val = []) ∨ ∃ e s, y4 = .slice e s ∧ o.x.c.val.length ≤ e.length + s.length) := by
  obtain ⟨xs, n, _, rfl, hcl, hxl, hg⟩ := DataW.trod_struct Try.underlying69 h
  rw [cells_Op] at hcl
  match cs, hcl with
  | [c0, c1, c2, c3, c4, c5, c6], _ =>
    match xs, hxl with
    | [z0, z1, z2], _ =>
      have g0 := hg 0 _ rfl
      have g1 := hg 1 _ rfl
      have g2 := hg 2 _ rfl
      obtain ⟨k, e0, r0⟩ := trod_i64 (cs := [c0]) g0
      obtain ⟨i, e1, r1⟩ := trod_i64 (cs := [c1]) g1
      obtain ⟨o, e2, hok, y0, y1, y2, y3, y4, hy, w0, w2⟩ := open_cell (cs := [c2, c3, c4, c5, c6]) g2
      injection e0 with e0
      injection e1 with e1
      subst e0 e1
      exact ⟨⟨k, i, o⟩, by unfold OpW.cells; rw [← e2], ⟨hok, r0, r1⟩, z0.1, z1.1, y0, y1, y2, y3, y4, by rw [← hy]; rfl, w0, w2⟩
set_option maxRecDepth 100000 in
theorem open_ops_upto {base : Nat} {v : Value} {d : DataW H} {p : List MemPlace} {ds : List (DataW H)} {j : Nat} (hv : Value.okWide Try.prog W .any base 58 v) (h : DataW.Trod enc Try.prog W 0 (fun _ => true) true 58 v d p)
    (hk : Rows.uptoBulkAll ds ≤ 1048576) (hd : ds[j]? = some d) :
    ∃ l : List OpW, RdOps W v l ∧ l.length ≤ 1048576 ∧ ∀ o ∈ l, o.x.c.key.length ≤ 1048576 ∧ o.x.c.val.length ≤ 1048576 := by
  obtain ⟨a0, len, cap, rfl⟩ := okWide_slice Try.underlying58 hv
  have hbd := bulkU_mem (List.mem_of_getElem? hd)
  obtain ⟨fuel, hf⟩ := h
  rcases open_slice Try.underlying58 hf with ⟨hcs, _⟩ | ⟨a, len', cap', m, n, D, Pl, hcs, _, hl, hm, hmm, hx, hi⟩
  · simp [Value.cells] at hcs
    obtain ⟨rfl, rfl, rfl⟩ := hcs
    exact ⟨[], ⟨⟨none, 0, rfl, by simp, by simp, fun i hi => by simp at hi⟩, by simp⟩, by simp, by simp⟩
  · simp [Value.cells] at hcs
    obtain ⟨rfl, rfl, rfl⟩ := hcs
    simp only [if_true] at hmm
    subst hmm
    simp only [Prod.mk.injEq] at hx
    obtain ⟨rfl, _⟩ := hx
    have key : ∀ i, i < m → ∃ o : OpW, (∀ r u, o.cells[r]? = some u → W.cell? (a.add (i * 7 + r)) = some u) ∧ o.ok W ∧ ∃ y0 y1 y2 y3 y4 y5 y6, D i = .agg [y0, y1, .agg [y2, y3, y4, y5, y6]] ∧ ((y2 = .nil ∧ o.x.c.key = []) ∨ ∃ e s, y2 = .slice e s ∧ o.x.c.key.length ≤ e.length + s.length) ∧ ((y4 = .nil ∧ o.x.c.val = []) ∨ ∃ e s, y4 = .slice e s ∧ o.x.c.val.length ≤ e.length + s.length) := fun i him => by
      obtain ⟨cs', hc, ht'⟩ := hi i him
      obtain ⟨o, rfl, hok, hy⟩ := open_op ht'
      refine ⟨o, fun r u hu => ?_, hok, hy⟩
      obtain ⟨_, hcl, hat⟩ := World.cells?_some hc
      have hr : r < Try.prog.cellsOf 69 := by
        have := (List.getElem?_eq_some_iff.1 hu).1
        rw [← hcl]; exact this
      have := hat r hr
      rw [cells_Op] at this
      rw [← add_of_add, this, hu]
    obtain ⟨f, hf'⟩ := choose_lt key
    refine ⟨(List.range len).map f, ⟨⟨some a, m, by simp, by simpa using hl, hm, fun i hi' => ⟨a, rfl, ?_⟩⟩, ?_⟩, ?_, ?_⟩
    · have hil : i < len := by simpa using hi'
      simpa using (hf' i (by omega)).1
    · intro o ho
      obtain ⟨i, hi', rfl⟩ := List.mem_map.1 ho
      have := List.mem_range.1 hi'
      exact (hf' i (by omega)).2.1
    · have hs := Nat.le_trans (bulk_places _ _) hbd
      simp only [List.length_map, List.length_range] at hs
      simp only [List.length_map, List.length_range]
      omega
    · intro o ho
      obtain ⟨i, hi', rfl⟩ := List.mem_map.1 ho
      have hil := List.mem_range.1 hi'
      obtain ⟨_, _, y0, y1, y2, y3, y4, y5, y6, hD, w4, w5⟩ := hf' i (by omega)
      have hmem : D i ∈ (List.range len).map D := List.mem_map.2 ⟨i, hi', rfl⟩
      have h7 := bulkU_mem hmem
      simp only [Rows.uptoBulk] at hbd
      rw [hD] at h7
      simp only [Rows.uptoBulk, Rows.uptoBulkAll] at h7
      constructor
      · rcases w4 with ⟨_, e⟩ | ⟨e, s, rfl, hle⟩
        · rw [e]; simp
        · have := bulk_places e s
          omega
      · rcases w5 with ⟨_, e⟩ | ⟨e, s, rfl, hle⟩
        · rw [e]; simp
        · have := bulk_places e s
          omega
end
end Go.Proofs.Ytonbcipofakpjaa

-- espalierlaw06.PlainWorks: the walk.
namespace Go.Proofs.Ytonbcipofakpjaa
open Go.RowKit
set_option maxRecDepth 20000 in
set_option maxHeartbeats 1000000 in
theorem PNew_bad2 (kind Q : Int) (hq : -9223372036854775808 ≤ Q ∧ Q ≤ 9223372036854775807) (hk : (isPowB Q && isKindB kind) = false) (w : World) : Calls Try.prog 32 #[.int .i64 kind, .int .i64 Q] w fun e w' =>
    e = .returned (.tuple #[.pointer none, .int .i64 1]) ∧ w = w' := by
  cases hk2 : isKindB kind with
  | false => exact PNew_bad kind Q hk2 w
  | true =>
    rw [hk2, Bool.and_true] at hk
    have hKi := fun W => isKind_any kind W
    have hPa := fun W => isPage_any Q hq W
    rw [hk2] at hKi
    rw [hk] at hPa
    clear hk hk2
    go_enter Try.func32, Try.ntmps32
    go_wp2_with (first | (go_at_call 48; refine (hKi _).mono ?_; rintro e w1 ⟨rfl, rfl⟩) | (go_at_call 49; refine (hPa _).mono ?_; rintro e w1 ⟨rfl, rfl⟩) | fail)
    go_ret2
    exact ⟨rfl, rfl⟩
theorem PNew_sep {w0 w : World} {L : List Ent} {kind : Int} {P : Nat} (HK : W6K kind P) (hS : Sep w0 w L) : Calls Try.prog 32 #[.int .i64 kind, .int .i64 (P : Int)] w fun e w' =>
    ∃ p, e = .returned (.tuple #[.pointer (some ⟨p, 0, none⟩), .int .i64 0]) ∧ Sep w0 w' (pgE p kind P (sizeF (pcs []) : Nat) (.slice none 0 0) [] :: L) := by
  refine (PNew_ok kind P HK.kd HK.pw w).mono ?_
  rintro e w' ⟨p, rfl, hp, hA, hb⟩
  have h1 : Sep w0 w' (blkE p 89 [.int .i64 kind, .int .i64 (P : Int), .int .i64 8, .slice none 0 0] :: L) := hS.new hb hA.blk (fun g hg => by have hg' : g = p := hg; subst hg'; exact ⟨hp, hA.blk.lt⟩)
  exact ⟨p, rfl, Sep.pgClose (l := []) (Sep.sw1 (Sep.nilC h1))⟩
theorem XIn.old {w w1 : World} {x : CV} (hB : Below w.heap.size w w1) (hx : x.ok w) (s1 : x.c.key.length ≤ 140737488355328) (s2 : x.c.val.length ≤ 140737488355328) : XIn [oldE w1] x :=
  ⟨⟨oldE w1, by simp, fun _ h => (hx.k.below hB (Nat.le_refl _)).keep fun p hp => World.cell?_of_block (h p.block hp)⟩, ⟨oldE w1, by simp, fun _ h => (hx.v.below hB (Nat.le_refl _)).keep fun p hp => World.cell?_of_block (h p.block hp)⟩, hx.r1, hx.r2, hx.r3, s1, s2⟩
theorem W6At.belowO {pb k P : Nat} {kind : Int} {w0 w : World} (h : W6At pb kind P w0 w [oldE w0] k) : Below w0.heap.size w0 w := by
  obtain ⟨p, r, u, v, l, lv, cv, came, wv, want, pv, pics, hv, hS, -⟩ := h
  exact hS.belowOld (v := w0) (by simp)
set_option maxRecDepth 100000 in
set_option maxHeartbeats 32000000 in
theorem works_any (kind page : Int) (hpr : -9223372036854775808 ≤ page ∧ page ≤ 9223372036854775807) (v : Value) (l : List OpW) (w : World) (hl : RdOps w v l) (hn : l.length ≤ 1048576) (hsz : ∀ o ∈ l, o.x.c.key.length ≤ 1048576 ∧ o.x.c.val.length ≤ 1048576) :
    Calls Try.prog 9 #[.int .i64 kind, .int .i64 page, v] w fun e w' => e = .returned (.bool true) ∧ Below w.heap.size w w' := by
  obtain ⟨A, c, rfl, hlc, hcm, hcells⟩ := hl.form
  have hcm' : c ≤ 9223372036854775807 := hcm
  have HOK := Lib.hid hl.ok
  have HCE := Lib.hid hcells
  have HSZ := Lib.hid hsz
  clear hcm hl hcells hsz
  go_enter Try.func9, Try.ntmps9
  go_upto_region 4 with (first | (go_at_call 10; (with_reducible refine (awake_any _).mono ?_); rintro e w1 ⟨rfl, hB⟩) | fail)
  cases hnb : (isPowB page && isKindB kind) with
  | false =>
    have hN1 := PNew_bad2 kind page hpr hnb w1
    have hN2 := RNew_bad (w := w1) (kind := kind) page hnb
    clear hnb
    go_wp2_with (first
      | (go_at_call 32; (with_reducible refine hN1.mono ?_); rintro e w2 ⟨rfl, rfl⟩)
      | (go_at_call 33; (with_reducible refine hN2.mono ?_); rintro e w2 ⟨rfl, rfl⟩)
      | fail)
    go_ret
    exact ⟨rfl, hB⟩
  | true =>
    rw [Bool.and_eq_true] at hnb
    obtain ⟨P, rfl⟩ : ∃ P : Nat, page = (P : Int) := ⟨page.toNat, by have := isPowB_range hnb.1; omega⟩
    have HK : W6K kind P := ⟨hnb.2, hnb.1⟩
    have hN1 := PNew_sep HK (Sep.start w1)
    have hN2 := fun (W : World) (M : List Ent) (hS : Sep w1 W M) => RNew_ok hS HK.kd HK.pw
    clear hnb
    go_upto_region 6 with (first
      | (go_at_call 32; (with_reducible refine hN1.mono ?_); rintro e w2 ⟨p, rfl, hS2⟩)
      | (go_at_call 33; (with_reducible refine (hN2 _ _ hS2).mono ?_); rintro e w3 ⟨r, rfl, hS3⟩)
      | fail)
    have hS4 := hS3.alloc 66 [.pointer (some ⟨p, 0, none⟩), .pointer (some ⟨r, 0, none⟩), .slice none 0 0, .slice none 0 0, .slice none 0 0, .slice none 0 0]
    clear hN1 hN2 hS2 hS3
    go_upto_region 11 with (fail)
    generalize w3.alloc (.cells #[.pointer (some ⟨p, 0, none⟩), .pointer (some ⟨r, 0, none⟩), .slice none 0 0, .slice none 0 0, .slice none 0 0, .slice none 0 0] 66) = w4 at *
    generalize w3.heap.size = pb at *
    have hP4 : W6At pb kind P w1 w4 [oldE w1] 0 := by
      have e0 : Sep w1 w4 (csE (.slice none 0 0) [] :: csE (.slice none 0 0) [] :: ownE 27 1 (.slice none 0 0) 0 [] :: ownE 9 1 (.slice none 0 0) 0 [] :: allE [] :: blkE pb 66 [.pointer (some ⟨p, 0, none⟩), .pointer (some ⟨r, 0, none⟩), .slice none 0 0, .slice none 0 0, .slice none 0 0, .slice none 0 0] :: rpE r kind P (.slice none 0 0) [] :: pgE p kind P (sizeF (pcs []) : Nat) (.slice none 0 0) [] :: [oldE w1]) := by
        have h1 := Sep.pack (D := []) hS4
        have h2 := h1.cons (E := ownE 9 1 (.slice none 0 0) 0 []) (Own.nil w4 0 _ _) (fun g hg => by cases hg) (fun _ _ g hg => by cases hg)
        have h3 := h2.cons (E := ownE 27 1 (.slice none 0 0) 0 []) (Own.nil w4 0 _ _) (fun g hg => by cases hg) (fun _ _ g hg => by cases hg)
        have h4 := Sep.pack (D := ownE 32 5 (.slice none 0 0) 0 [] :: cellsE []) h3.nilC
        exact Sep.pack (D := ownE 32 5 (.slice none 0 0) 0 [] :: cellsE []) h4.nilC
      have e1 : Sep w1 w4 (w6P pb p r (.slice none 0 0) (.slice none 0 0) (.slice none 0 0) (.slice none 0 0) :: w6T kind P p r (.slice none 0 0) (.slice none 0 0) [] [] (.slice none 0 0) [] (.slice none 0 0) [] (.slice none 0 0) [] (.slice none 0 0) [oldE w1]) := Sep.pick (L := [_, _, _, _, _, _, _, _]) [5, 7, 6, 0, 1, 2, 3, 4] (by decide) rfl e0
      exact ⟨p, r, _, _, [], [], _, [], _, [], _, [], _, e1, ⟨by simp [RngC], by simp [RngC], rfl, ⟨List.Pairwise.nil, by simp [pcs], by show (8 : Nat) ≤ P; have := HK.p1; omega⟩, by simp [RngC], by simp [RngC], rfl, by simp, by simp, by simp, by simp [pcs]⟩⟩
    clear hS4
    go_wp2_with fail
    go_loopw [13] (fun i wr => ∃ k : Nat, k ≤ l.length ∧ i = .int .i64 (k : Int) ∧ W6At pb kind P w1 wr [oldE w1] k) (fun i _ => l.length - (intOf i).toNat)
    case atStart => exact ⟨0, Nat.zero_le _, rfl, hP4⟩
    case round =>
      clear hP4
      obtain ⟨k, hk, rfl, hP⟩ := hrel
      have hBr := hB.trans (hP.belowO.mono hB.size)
      by_cases hlt : k < l.length
      · have ik : (k : Int) < (l.length : Int) := by omega
        have HKL := Lib.hid hlt
        obtain ⟨ad, rfl, hcl⟩ := HCE.out k hlt
        have hoo := HOK.out _ (List.getElem_mem hlt)
        have hos := HSZ.out _ (List.getElem_mem hlt)
        have hcw : ∀ r u, l[k].cells[r]? = some u → wr.cell? (ad.add (k * 7 + r)) = some u := fun r u hu => by
          have h1 := hcl r u hu
          exact (hBr.cell (World.block_lt_of_cell? w _ h1)).trans h1
        clear hcl
        generalize l[k] = o at *
        obtain ⟨ok, oi, ox⟩ := o
        obtain ⟨hd, r0, r1⟩ := hoo
        dsimp only at hd r0 r1 hos
        have e0 := hcw 0 _ rfl
        have e1 := hcw 1 _ rfl
        have e2 := hcw 2 _ rfl
        have e3 := hcw 3 _ rfl
        have e4 := hcw 4 _ rfl
        have e5 := hcw 5 _ rfl
        have e6 := hcw 6 _ rfl
        have hpl := play_sep hP HK (by omega) ok oi r1 ox (XIn.old hB hd (by omega) (by omega))
        obtain ⟨KA, ka, VA, va, key, ck, val, pg, ct, rfl, -, -⟩ := CV.form hd
        rw [← add_of_add] at e0 e1 e2 e3 e4 e5 e6
        have f0 : wr.cell? (ad.add (k * 7)) = some (.int .i64 ok) := e0
        have f1 : wr.cell? ⟨(ad.add (k * 7)).block, (ad.add (k * 7)).off + 1, none⟩ = some (.int .i64 oi) := e1
        have f2 : wr.cell? ⟨(ad.add (k * 7)).block, (ad.add (k * 7)).off + 2, none⟩ = some (.slice KA key.length ka) := e2
        have f3 : wr.cell? ⟨(ad.add (k * 7)).block, (ad.add (k * 7)).off + 3, none⟩ = some (.int .i64 ck) := e3
        have f4 : wr.cell? ⟨(ad.add (k * 7)).block, (ad.add (k * 7)).off + 4, none⟩ = some (.slice VA val.length va) := e4
        have f5 : wr.cell? ⟨(ad.add (k * 7)).block, (ad.add (k * 7)).off + 5, none⟩ = some (.int .i64 pg) := e5
        have f6 : wr.cell? ⟨(ad.add (k * 7)).block, (ad.add (k * 7)).off + 6, none⟩ = some (.int .i64 ct) := e6
        unfold opV6 at hpl
        simp only at hpl
        clear e0 e1 e2 e3 e4 e5 e6 hcw hlt hP hd r0 r1 hos
        go_upto_region 15 with (first | (go_at_call 34; (with_reducible refine hpl.mono ?_); rintro e w3 ⟨rfl, hP3⟩) | fail)
        obtain ⟨p, r, u, v, l', lv, cv, came, wv, want, pv, pics, hv, hS, hb⟩ := hP3
        have HB := Lib.hid hb
        have hSd := hS.drew
        have k0 : w3.cell? ⟨pb, 0, none⟩ = some (.pointer (some ⟨p, 0, none⟩)) := OBlk.cell' (show OBlk w3 pb 66 [.pointer (some ⟨p, 0, none⟩), .pointer (some ⟨r, 0, none⟩), cv, wv, pv, hv] from hS.head) (j := 0) rfl
        have k1 : w3.cell? ⟨pb, 1, none⟩ = some (.pointer (some ⟨r, 0, none⟩)) := OBlk.cell' (show OBlk w3 pb 66 [.pointer (some ⟨p, 0, none⟩), .pointer (some ⟨r, 0, none⟩), cv, wv, pv, hv] from hS.head) (j := 1) rfl
        have hPg := (Sep.sw1 hSd).pgAt hb.rl
        have hRp := (Sep.sw2 hSd).rpAt hb.rv
        have c1 := PLen_any hPg
        have c2 := RLen_any hRp
        have c3 := PUsed_any hPg
        have c4 := RUsed_any hRp (by rw [hb.eq]; exact hb.wk) HK.p2
        have c5 := fun (W : World) (hW : Below w3.drew.heap.size w3.drew W) => PKind_any ((Sep.sw1 (hSd.below hW)).pgAt hb.rl)
        have hll : lv.length = l'.length := by have := congrArg List.length hb.eq; rw [pcs_length, pcs_length] at this; exact this
        rw [hb.eq] at c4
        rw [hll] at c2
        clear hb f0 f1 f2 f3 f4 f5 f6 hpl hPg hRp hll
        go_region_held3 (fun w' => w'.cell? ⟨pb, 0, none⟩ = some (.pointer (some ⟨p, 0, none⟩)) ∧ w'.cell? ⟨pb, 1, none⟩ = some (.pointer (some ⟨r, 0, none⟩)))
          (first
            | exact ⟨k0, k1⟩
            | exact ⟨(hw6.cell (World.block_lt_of_cell? w3 _ k0)).trans k0, (hw6.cell (World.block_lt_of_cell? w3 _ k1)).trans k1⟩)
          (first
            | (go_at_call 23; (with_reducible refine c1.mono ?_); rintro e w5 ⟨rfl, rfl⟩)
            | (go_at_call 35; (with_reducible refine c2.mono ?_); rintro e w5 ⟨rfl, rfl⟩)
            | (go_at_call 24; (with_reducible refine c3.mono ?_); rintro e w5 ⟨rfl, rfl⟩)
            | (go_at_call 36; (with_reducible refine c4.mono ?_); rintro e w6 ⟨rfl, hw6⟩)
            | (go_at_call 37; (with_reducible refine (c5 _ hw6).mono ?_); rintro e w7 ⟨rfl, rfl⟩)
            | fail)
        have HP5 : Hid (W6At pb kind P w1 w6 [oldE w1] (k + 1)) := Lib.hid ⟨p, r, u, v, l', lv, cv, came, wv, want, pv, pics, hv, hSd.below hw6, HB.out⟩
        clear hS hSd c1 c2 c3 c4 c5
        go_wp2_with fail
        go_roundw
        case rel => exact ⟨k + 1, HKL.out, by go_num, HP5.out⟩
        case measure => have := HKL.out; simp [intOf]; omega
      · obtain rfl : k = l.length := by omega
        have ik : ¬ (l.length : Int) < (l.length : Int) := by omega
        have hby := bytes_sep hP HK (by omega)
        have hO := fun (W : World) (hW : W6At pb kind P w1 W [oldE w1] (l.length + 1)) => owned_sep hW HK (by omega)
        clear hP hlt
        go_wp2_with (first
          | (go_at_call 38; (with_reducible refine hby.mono ?_); rintro e w7 ⟨rfl, hP7⟩)
          | (go_at_call 39; (with_reducible refine (hO _ hP7).mono ?_); rintro e w9 ⟨rfl, hS9⟩)
          | fail)
        go_ret
        exact ⟨rfl, hB.trans ((hS9.belowOld (v := w1) (by simp)).mono hB.size)⟩
end Go.Proofs.Ytonbcipofakpjaa

-- The bounds of an integer that came in; a row whose statement bears the bound on the bulk.
namespace Go.Proofs.Ytonbcipofakpjaa
open Go.RowKit Go.WideShapes Go.ChangeShapes
theorem wf_i64 {n : Int} (h : (Lit.int .i64 n).wf = true) : -9223372036854775808 ≤ n ∧ n ≤ 9223372036854775807 := by
  simp [Lit.wf, IntKind.min, IntKind.max, IntKind.signed, IntKind.bits] at h
  exact h
theorem wf_u64 {n : Int} (h : (Lit.int .u64 n).wf = true) : ∃ k : Nat, n = (k : Int) ∧ k < 18446744073709551616 := by
  simp [Lit.wf, IntKind.min, IntKind.max, IntKind.signed, IntKind.bits] at h
  exact ⟨n.toNat, by omega, by omega⟩
theorem wf_u32 {n : Int} (h : (Lit.int .u32 n).wf = true) : ∃ k : Nat, n = (k : Int) ∧ k < 4294967296 := by
  simp [Lit.wf, IntKind.min, IntKind.max, IntKind.signed, IntKind.bits] at h
  exact ⟨n.toNat, by omega, by omega⟩
end Go.Proofs.Ytonbcipofakpjaa

-- espalierlaw06.PlainWorks: the statement 'PlainWorksUptoSaid' is proved: whatever the input of bulk at most 1048576, the law returns true and the input reads as it did.
namespace Go.Proofs.Ytonbcipofakpjaa.plainWorks
open Go.ChangeShapes Go.WideShapes Go.ChangeAt Go.RowKit
theorem own : ownKnob Try.prog.godebug = none := by kernel_rfl
theorem laidOut : laidOutB Try.prog = true := by kernel_rfl
set_option maxRecDepth 100000 in
theorem lifted (os : Os) (started : os.Started) (H : Type) (enc : TypeId × Value → H) (F : Stop.Interp) :
    ReturnsInHanded {} Try.checked os 9 .any ((Rows.OpenSpec.upto Rows.plainWorksSpec).pre6 enc Try.prog Try.f9 Rows.plainWorksUptoRow.domain false) (((Rows.OpenSpec.upto Rows.plainWorksSpec).at F).post enc Try.prog Try.f9 false true false false) := by
  refine law_lifts_upto (s := Rows.plainWorksSpec) (C := Try.checked) (tb := 4) own started (by kernel_rfl) Try.func9
    (OpenSpec.witness (enc := enc) (C := Try.checked) (s := Rows.OpenSpec.upto Rows.plainWorksSpec) (k := Rows.uptoSmall) rfl false ⟨#[], #[.int .i64 0, .int .i64 0, .slice none 0 0], []⟩ 8 (by kernel_rfl) (by kernel_rfl) (by kernel_rfl)
      (x := ([.lit (.int .i64 0), .lit (.int .i64 0), .nil], [], [])) (by kernel_rfl) rfl (by kernel_rfl))
    rfl rfl Try.underlying4 laidOut (by kernel_rfl) (fun ds hd => ?_) ?_
  · match ds, hd with
    | [d0, d1, d2], _ => rfl
  · intro W base args ds p hval0 hA0 hsz0
    have hval : ∀ (j : Nat) t v, Try.f9.params[j]? = some t → args[j]? = some v → Value.okWide Try.prog W .any base t v := hval0
    have hA : DataW.TrodAll enc Try.prog W 0 (fun _ => true) true Try.f9.params.toList args.toList ds p := hA0
    have hk : Rows.uptoBulkAll ds ≤ 1048576 := hsz0
    clear hval0 hA0 hsz0
    rw [Try.params9] at hA hval
    obtain ⟨v0, v1, v2, d0, d1, d2, p0, p1, p2, rfl, rfl, rfl, h0, h1, h2⟩ := trodAll_three hA
    obtain ⟨n0, rfl, _, _, _⟩ := open_int Try.underlying3 (hval 0 _ v0 rfl rfl) h0
    obtain ⟨n1, rfl, _, _, hw1⟩ := open_int Try.underlying3 (hval 1 _ v1 rfl rfl) h1
    obtain ⟨l, hl, hn, hs⟩ := open_ops_upto (j := 2) (hval 2 _ v2 rfl rfl) h2 hk rfl
    exact works_any n0 n1 (wf_i64 hw1) v2 l W hl hn hs
theorem proved : Rows.PlainWorksUptoSaid :=
  OpenClaim.holds_of_cond 9 Try.f9 rfl rfl rfl rfl rfl rfl rfl ⟨rfl, rfl, rfl, rfl, rfl⟩ rfl rfl rfl rfl rfl (by kernel_rfl) Try.func9 (by kernel_rfl)
    (of_decide_eq_true (by kernel_rfl)) (by unfold Func.isWrapper; first | (rw [if_pos (by decide +kernel)]; kernel_rfl) | (rw [if_neg (by decide +kernel)]; exact ⟨rfl, rfl⟩))
    (fun os started H enc _ F => lifted os started H enc F)
end Go.Proofs.Ytonbcipofakpjaa.plainWorks
