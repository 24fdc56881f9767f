/- Texts joined: espalierlaw06.pair.play -/
import Derived.Test.YtonbcipofakpjaaQ16
-- espalierlaw06.pair.play: the walk.
namespace Go.Proofs.Ytonbcipofakpjaa
open Go.RowKit
theorem kind_ne {k m : Int} (h : k ≠ m) : (k == m) = false := beq_eq_false_iff_ne.2 h
theorem kind_eq {k m : Int} (h : k = m) : (k == m) = true := by rw [h]; simp
theorem RdIn.app {L1 L2 : List Ent} {v : Value} {l : List UInt8} (h : RdIn L2 v l) : RdIn (L1 ++ L2) v l := by obtain ⟨X, hX, h⟩ := h; exact ⟨X, List.mem_append_right _ hX, h⟩
theorem cellC_len {kind : Int} {P : Nat} {l : List PC} (h : Wk kind P l) (hP : P ≤ 65536) (i : Int) : (cellC l i).key.length ≤ 65536 ∧ (cellC l i).val.length ≤ 65536 := by
  unfold cellC
  split
  · simp
  · rename_i hin
    have hlt : i.toNat < l.length := by omega
    have e : l.getD i.toNat ⟨[], 0, [], 0, 0⟩ = l[i.toNat] := by simp [List.getD, hlt]
    rw [e]
    have hok := may_ok (h.may _ (List.getElem_mem hlt))
    have h1 := longF_le hok hP
    unfold longF at h1
    have h2 := hok.v0
    have h3 := hok.v1
    split at h1
    · omega
    · rename_i hk
      have h0 := hok.k0
      rw [(h3 hk).1]
      simp; omega
theorem csE_own {w0 w : World} {v : Value} {l : List CV} {L : List Ent} (h : Sep w0 w (csE v l :: L)) : Own w 0 32 5 v l.length (flatC l) := h.head.1 _ (List.mem_cons_self ..)
theorem csE_open2 {w0 w : World} {cv wv : Value} {came want : List CV} {L : List Ent} {a b c x1 x2 x3 x4 x5 x6 x7 x8 x9 : Ent} (h : Sep w0 w (csE cv came :: csE wv want :: a :: b :: c :: x1 :: x2 :: x3 :: x4 :: x5 :: x6 :: x7 :: x8 :: x9 :: L)) :
    Sep w0 w (ownE 32 5 cv came.length (flatC came) :: a :: b :: ownE 32 5 wv want.length (flatC want) :: c :: x1 :: x2 :: x3 :: x4 :: x5 :: x6 :: x7 :: x8 :: x9 :: (cellsE came ++ (cellsE want ++ L))) := by
  have h1 : Sep w0 w ((ownE 32 5 cv came.length (flatC came) :: cellsE came) ++ (csE wv want :: a :: b :: c :: x1 :: x2 :: x3 :: x4 :: x5 :: x6 :: x7 :: x8 :: x9 :: L)) := Sep.unpack h
  have h2 : Sep w0 w (csE wv want :: (ownE 32 5 cv came.length (flatC came) :: (cellsE came ++ (a :: b :: c :: x1 :: x2 :: x3 :: x4 :: x5 :: x6 :: x7 :: x8 :: x9 :: L)))) := h1.perm List.perm_middle
  have h3 : Sep w0 w ((ownE 32 5 wv want.length (flatC want) :: cellsE want) ++ (ownE 32 5 cv came.length (flatC came) :: (cellsE came ++ (a :: b :: c :: x1 :: x2 :: x3 :: x4 :: x5 :: x6 :: x7 :: x8 :: x9 :: L)))) := Sep.unpack h2
  refine h3.perm ?_
  have p1 : (cellsE came ++ (a :: b :: c :: x1 :: x2 :: x3 :: x4 :: x5 :: x6 :: x7 :: x8 :: x9 :: L)).Perm ([a, b, c, x1, x2, x3, x4, x5, x6, x7, x8, x9] ++ (cellsE came ++ L)) := List.perm_append_comm_assoc (cellsE came) [a, b, c, x1, x2, x3, x4, x5, x6, x7, x8, x9] L
  have p2 : ((ownE 32 5 wv want.length (flatC want) :: cellsE want) ++ (ownE 32 5 cv came.length (flatC came) :: ([a, b, c, x1, x2, x3, x4, x5, x6, x7, x8, x9] ++ (cellsE came ++ L)))).Perm (ownE 32 5 cv came.length (flatC came) :: ([a, b] ++ (ownE 32 5 wv want.length (flatC want) :: ([c, x1, x2, x3, x4, x5, x6, x7, x8, x9] ++ (cellsE came ++ (cellsE want ++ L)))))) := by
    refine (List.perm_middle).trans (List.Perm.cons _ ?_)
    refine (List.Perm.cons _ ?_).trans (List.perm_middle (l₁ := [a, b])).symm
    refine (List.perm_append_comm_assoc (cellsE want) [a, b, c, x1, x2, x3, x4, x5, x6, x7, x8, x9] (cellsE came ++ L)).trans ?_
    exact List.Perm.append_left _ (List.perm_append_comm_assoc (cellsE want) (cellsE came) L)
  exact (List.Perm.append_left _ (List.Perm.cons _ p1)).trans p2
theorem Sep.csSnocFar {w0 w : World} {v : Value} {l : List CV} {y : CV} {R : List Ent} (xs : List Ent) (h : Sep w0 w (ownE 32 5 v (l.length + 1) (flatC l ++ y.cells) :: bytesE y.kv y.c.key :: bytesE y.vv y.c.val :: (xs ++ (cellsE l ++ R)))) : Sep w0 w (csE v (l ++ [y]) :: (xs ++ R)) := by
  have e1 : flatC (l ++ [y]) = flatC l ++ y.cells := by rw [flatC_append]; simp [flatC]
  have e2 : cellsE (l ++ [y]) = cellsE l ++ [bytesE y.kv y.c.key, bytesE y.vv y.c.val] := by rw [cellsE_append]; rfl
  have e3 : (l ++ [y]).length = l.length + 1 := by simp
  unfold csE
  rw [e1, e2, e3]
  refine Sep.pack (D := ownE 32 5 v (l.length + 1) (flatC l ++ y.cells) :: (cellsE l ++ [bytesE y.kv y.c.key, bytesE y.vv y.c.val])) (h.perm (List.Perm.cons _ ?_))
  have e4 : (bytesE y.kv y.c.key :: bytesE y.vv y.c.val :: (xs ++ (cellsE l ++ R))) = (bytesE y.kv y.c.key :: bytesE y.vv y.c.val :: xs) ++ (cellsE l ++ R) := rfl
  rw [e4]
  refine (List.perm_append_comm_assoc (bytesE y.kv y.c.key :: bytesE y.vv y.c.val :: xs) (cellsE l) R).trans (List.Perm.of_eq ?_)
  show cellsE l ++ ((bytesE y.kv y.c.key :: bytesE y.vv y.c.val :: xs) ++ R) = (cellsE l ++ [bytesE y.kv y.c.key, bytesE y.vv y.c.val]) ++ (xs ++ R)
  rw [List.append_assoc]; rfl
theorem W6B.cell {k : Nat} {kind : Int} {P : Nat} {l lv came want : List CV} {pics : List (Value × List UInt8)} (h : W6B k kind P l lv came want pics) (y z : CV) (hy : RngY y.c) (hz : z.c = y.c) (hl : y.c.key.length ≤ 65536 ∧ y.c.val.length ≤ 65536) : W6B (k + 1) kind P l lv (came ++ [y]) (want ++ [z]) pics :=
  { h.mono with
    rc := fun x hx => by rcases List.mem_append.1 hx with hx | hx; exact h.rc x hx; obtain rfl := List.mem_singleton.1 hx; exact hy
    rw := fun x hx => by rcases List.mem_append.1 hx with hx | hx; exact h.rw x hx; obtain rfl := List.mem_singleton.1 hx; rw [hz]; exact hy
    cw := by rw [pcs_append, pcs_append, h.cw]; simp [pcs, hz]
    nc := by have := h.nc; rw [List.length_append, List.length_singleton]; omega
    cl := fun c hc => by
      rw [pcs_append] at hc
      rcases List.mem_append.1 hc with hc | hc
      · exact h.cl c hc
      · obtain rfl : c = y.c := by simpa [pcs] using hc
        exact hl }
theorem OwB_of {w0 w : World} {v : Value} {l : List UInt8} {L : List Ent} (h : Sep w0 w (bytesE v l :: L)) : OwB w 0 v l := h.head
def opV6 (k i : Int) (x : CV) : Value := .agg #[.int .i64 k, .int .i64 i, x.kv, .int .i64 x.c.kind, x.vv, .int .i64 x.c.page, .int .i64 x.c.count]
theorem W6At.drop {pb q P : Nat} {kind : Int} {w0 w : World} {E : Ent} {L : List Ent} (h : W6At pb kind P w0 w (E :: L) q) : W6At pb kind P w0 w L q := by
  obtain ⟨p, r, u, v, l, lv, cv, came, wv, want, pv, pics, hv, hS, hb⟩ := h
  exact ⟨p, r, u, v, l, lv, cv, came, wv, want, pv, pics, hv, Sep.pick (L := [_, _, _, _, _, _, _, _, _]) [0, 1, 2, 3, 4, 5, 6, 7] (by decide) rfl hS, hb⟩
theorem W6At.mono {pb q P : Nat} {kind : Int} {w0 w : World} {L : List Ent} (h : W6At pb kind P w0 w L q) : W6At pb kind P w0 w L (q + 1) := by
  obtain ⟨p, r, u, v, l, lv, cv, came, wv, want, pv, pics, hv, hS, hb⟩ := h
  exact ⟨p, r, u, v, l, lv, cv, came, wv, want, pv, pics, hv, hS, hb.mono⟩
set_option maxRecDepth 100000 in
set_option maxHeartbeats 16000000 in
theorem play_sep {w0 w : World} {pb q P : Nat} {kind : Int} {L : List Ent} (hP : W6At pb kind P w0 w L q) (HK : W6K kind P) (hq : q ≤ 5000000) (k i : Int) (hi : i64r i) (x : CV) (hx : XIn L x) :
    Calls Try.prog 34 #[.pointer (some ⟨pb, 0, none⟩), opV6 k i x] w fun e w' => e = .returned (.bool true) ∧ W6At pb kind P w0 w' L (q + 1) := by
  obtain ⟨p, r, u, v, l, lv, cv, came, wv, want, pv, pics, hv, hS, hb⟩ := hP
  have HB := Lib.hid hb
  have hx0 := hx.ok hS (fun E hE => by simp [hE])
  obtain ⟨KA, ka, VA, va, key, ck, val, pg, ct, rfl, -, -⟩ := CV.form hx0
  have HX := Lib.hid hx
  have hS1 : Sep w0 _ (blkE w.heap.size 69 [.int .i64 k, .int .i64 i, .slice KA key.length ka, .int .i64 ck, .slice VA val.length va, .int .i64 pg, .int .i64 ct] :: w6P pb p r cv wv pv hv :: w6T kind P p r u v l lv cv came wv want pv pics hv L) := hS.alloc 69 [.int .i64 k, .int .i64 i, .slice KA key.length ka, .int .i64 ck, .slice VA val.length va, .int .i64 pg, .int .i64 ct]
  unfold opV6
  simp only
  clear hb hx hx0 hS
  go_enter Try.func34, Try.ntmps34
  go_upto_region 1 with (fail)
  generalize w.alloc (.cells #[.int .i64 k, .int .i64 i, .slice KA key.length ka, .int .i64 ck, .slice VA val.length va, .int .i64 pg, .int .i64 ct] 69) = w1 at *
  obtain ⟨g, hg⟩ : ∃ g, w.heap.size = g := ⟨_, rfl⟩
  simp only [hg] at hS1 ⊢
  clear hg
  have hbx : OBlk w1 g 69 [.int .i64 k, .int .i64 i, .slice KA key.length ka, .int .i64 ck, .slice VA val.length va, .int .i64 pg, .int .i64 ct] := hS1.head
  have b0 := hbx.cell' (j := 0) rfl
  have b1 := hbx.cell' (j := 1) rfl
  have b2 := hbx.cell' (j := 2) rfl
  have b3 := hbx.cell' (j := 3) rfl
  have b4 := hbx.cell' (j := 4) rfl
  have b5 := hbx.cell' (j := 5) rfl
  have b6 := hbx.cell' (j := 6) rfl
  have hPat : W6At pb kind P w0 w1 (blkE g 69 [.int .i64 k, .int .i64 i, .slice KA key.length ka, .int .i64 ck, .slice VA val.length va, .int .i64 pg, .int .i64 ct] :: L) q := ⟨p, r, u, v, l, lv, cv, came, wv, want, pv, pics, hv, Sep.pick (L := [_, _, _, _, _, _, _, _, _]) [1, 2, 3, 4, 5, 6, 7, 8, 0] (by decide) rfl hS1, HB.out⟩
  have hXg : XIn (blkE g 69 [.int .i64 k, .int .i64 i, .slice KA key.length ka, .int .i64 ck, .slice VA val.length va, .int .i64 pg, .int .i64 ct] :: L) ⟨.slice KA key.length ka, .slice VA val.length va, ⟨key, ck, val, pg, ct⟩⟩ := XIn.app (L1 := [_]) HX.out
  go_upto_region 2 with (fail)
  by_cases k1 : k = 1
  · have e1 := kind_eq k1
    clear k1
    have hC := lent_sep hPat HK k i hi ⟨.slice KA key.length ka, .slice VA val.length va, ⟨key, ck, val, pg, ct⟩⟩ hXg
    unfold cellV at hC
    simp only at hC
    go_wp2_with (first
      | (go_at_call 62; (with_reducible refine hC.mono ?_); rintro e w2 ⟨rfl, hP2⟩)
      | fail)
    go_ret
    exact ⟨rfl, hP2.drop.mono⟩
  have e1 := kind_ne k1
  clear k1
  by_cases k2 : k = 2
  · have e2 := kind_eq k2
    clear k2
    have hC := lent_sep hPat HK k i hi ⟨.slice KA key.length ka, .slice VA val.length va, ⟨key, ck, val, pg, ct⟩⟩ hXg
    unfold cellV at hC
    simp only at hC
    go_wp2_with (first
      | (go_at_call 62; (with_reducible refine hC.mono ?_); rintro e w2 ⟨rfl, hP2⟩)
      | fail)
    go_ret
    exact ⟨rfl, hP2.drop.mono⟩
  have e2 := kind_ne k2
  clear k2
  by_cases k3 : k = 3
  · have e3 := kind_eq k3
    clear k3
    have hS4 : Sep w0 w1.drew (pgE p kind P (sizeF (pcs l) : Nat) u l :: w6P pb p r cv wv pv hv :: blkE g 69 [.int .i64 k, .int .i64 i, .slice KA key.length ka, .int .i64 ck, .slice VA val.length va, .int .i64 pg, .int .i64 ct] :: rpE r kind P v lv :: csE cv came :: csE wv want :: ownE 27 1 pv pics.length (pics.map Prod.fst) :: ownE 9 1 hv pics.length (pics.map fun p => strV p.2) :: allE (pics.map fun p => bytesE p.1 p.2) :: L) := (Sep.pick (L := [_, _, _]) [2, 1, 0] (by decide) rfl hS1).drew
    have cpb0 := OBlk.cell' (show OBlk w1.drew pb 66 [.pointer (some ⟨p, 0, none⟩), .pointer (some ⟨r, 0, none⟩), cv, wv, pv, hv] from hS4.tail.head) (j := 0) rfl
    have cg1 := OBlk.cell' (show OBlk w1.drew g 69 [.int .i64 k, .int .i64 i, .slice KA key.length ka, .int .i64 ck, .slice VA val.length va, .int .i64 pg, .int .i64 ct] from hS4.tail.tail.head) (j := 1) rfl
    have hC := PRemove_sep hS4 HB.out.rl HB.out.wk HK.p2 i hi
    clear b0 b1 b2 b3 b4 b5 b6 hbx hPat
    go_upto_region 6 with (fail)
    go_region_held3 (fun w' => w'.cell? ⟨pb, 0, none⟩ = some (.pointer (some ⟨p, 0, none⟩)) ∧ w'.cell? ⟨g, 1, none⟩ = some (.int .i64 i))
      (first | exact ⟨cpb0, cg1⟩ | exact ⟨OBlk.cell' (show OBlk w5 pb 66 [.pointer (some ⟨p, 0, none⟩), .pointer (some ⟨r, 0, none⟩), cv, wv, pv, hv] from hS5.tail.head) (j := 0) rfl, OBlk.cell' (show OBlk w5 g 69 [.int .i64 k, .int .i64 i, .slice KA key.length ka, .int .i64 ck, .slice VA val.length va, .int .i64 pg, .int .i64 ct] from hS5.tail.tail.head) (j := 1) rfl⟩)
      (first
        | (go_at_call 63; (with_reducible refine hC.mono ?_); rintro e w5 ⟨u5, l5, rfl, hl5, hr5, hS5⟩)
        | fail)
    clear hC hS4 cpb0 cg1 hS1
    have hS6 : Sep w0 w5.drew (rpE r kind P v lv :: w6P pb p r cv wv pv hv :: blkE g 69 [.int .i64 k, .int .i64 i, .slice KA key.length ka, .int .i64 ck, .slice VA val.length va, .int .i64 pg, .int .i64 ct] :: pgE p kind P (sizeF (pcs l5) : Nat) u5 l5 :: csE cv came :: csE wv want :: ownE 27 1 pv pics.length (pics.map Prod.fst) :: ownE 9 1 hv pics.length (pics.map fun p => strV p.2) :: allE (pics.map fun p => bytesE p.1 p.2) :: L) := (Sep.pick (L := [_, _, _, _]) [3, 1, 2, 0] (by decide) rfl hS5).drew
    have cpb1 := OBlk.cell' (show OBlk w5.drew pb 66 [.pointer (some ⟨p, 0, none⟩), .pointer (some ⟨r, 0, none⟩), cv, wv, pv, hv] from hS6.tail.head) (j := 1) rfl
    have cg1 := OBlk.cell' (show OBlk w5.drew g 69 [.int .i64 k, .int .i64 i, .slice KA key.length ka, .int .i64 ck, .slice VA val.length va, .int .i64 pg, .int .i64 ct] from hS6.tail.tail.head) (j := 1) rfl
    have hC := RRemove_sep hS6 HB.out.rv (by rw [HB.out.eq]; exact HB.out.wk) HK.p2 i hi
    rw [HB.out.eq] at hC
    go_upto_region 7 with (fail)
    go_region_held3 (fun w' => w'.cell? ⟨pb, 1, none⟩ = some (.pointer (some ⟨r, 0, none⟩)) ∧ w'.cell? ⟨g, 1, none⟩ = some (.int .i64 i))
      (first | exact ⟨cpb1, cg1⟩ | exact ⟨OBlk.cell' (show OBlk w7 pb 66 [.pointer (some ⟨p, 0, none⟩), .pointer (some ⟨r, 0, none⟩), cv, wv, pv, hv] from hS7.tail.head) (j := 1) rfl, OBlk.cell' (show OBlk w7 g 69 [.int .i64 k, .int .i64 i, .slice KA key.length ka, .int .i64 ck, .slice VA val.length va, .int .i64 pg, .int .i64 ct] from hS7.tail.tail.head) (j := 1) rfl⟩)
      (first
        | (go_at_call 64; (with_reducible refine hC.mono ?_); rintro e w7 ⟨v7, lv7, rfl, hlv7, hr7, hS7⟩)
        | fail)
    clear hC hS6 cpb1 cg1 hS5
    have hwk := HB.out.wk.del i
    rw [← hl5] at hwk hlv7
    have HBN := Lib.hid (HB.out.pages hr5 hr7 hlv7 hwk)
    clear hwk hlv7 hl5
    generalize remZ (pcs l) i = Z at *
    go_wp2_with fail
    go_ret
    exact ⟨rfl, p, r, u5, v7, l5, lv7, cv, came, wv, want, pv, pics, hv, Sep.pick (L := [_, _, _, _]) [1, 3, 0] (by decide) rfl hS7, HBN.out.mono⟩
  have e3 := kind_ne k3
  clear k3
  by_cases k4 : k = 4
  · have e4 := kind_eq k4
    clear k4
    have hcb := cellC_len HB.out.wk HK.p2 i
    have hR := fun (M : List Ent) (W : World) (hW : Sep w0 W (rpE r kind P v lv :: M)) => RCell_sep hW HB.out.rv (by rw [HB.out.eq]; exact HB.out.wk) HK.p2 i hi
    have hQ := fun (M : List Ent) (W : World) (hW : Sep w0 W (pgE p kind P (sizeF (pcs l) : Nat) u l :: M)) => PCell_sep hW HB.out.rl HB.out.wk HK.p2 i hi
    simp only [HB.out.eq] at hR
    generalize cellC (pcs l) i = C at *
    generalize cellZ (pcs l) i = Z at *
    have HR := Lib.hid hR
    have HQ := Lib.hid hQ
    have HCB := Lib.hid hcb
    clear hR hQ hcb b0 b1 b2 b3 b4 b5 b6 hbx hPat hXg
    have hS4 : Sep w0 w1.drew (pgE p kind P (sizeF (pcs l) : Nat) u l :: w6P pb p r cv wv pv hv :: blkE g 69 [.int .i64 k, .int .i64 i, .slice KA key.length ka, .int .i64 ck, .slice VA val.length va, .int .i64 pg, .int .i64 ct] :: rpE r kind P v lv :: csE cv came :: csE wv want :: ownE 27 1 pv pics.length (pics.map Prod.fst) :: ownE 9 1 hv pics.length (pics.map fun p => strV p.2) :: allE (pics.map fun p => bytesE p.1 p.2) :: L) := (Sep.pick (L := [_, _, _]) [2, 1, 0] (by decide) rfl hS1).drew
    have hS4b : Sep w0 (w1.drew.alloc (.cells #[.slice none 0 0, .int .i64 0, .slice none 0 0, .int .i64 0, .int .i64 0] 32)) (pgE p kind P (sizeF (pcs l) : Nat) u l :: blkE w1.heap.size 32 [.slice none 0 0, .int .i64 0, .slice none 0 0, .int .i64 0, .int .i64 0] :: w6P pb p r cv wv pv hv :: blkE g 69 [.int .i64 k, .int .i64 i, .slice KA key.length ka, .int .i64 ck, .slice VA val.length va, .int .i64 pg, .int .i64 ct] :: rpE r kind P v lv :: csE cv came :: csE wv want :: ownE 27 1 pv pics.length (pics.map Prod.fst) :: ownE 9 1 hv pics.length (pics.map fun p => strV p.2) :: allE (pics.map fun p => bytesE p.1 p.2) :: L) := Sep.sw1 (hS4.alloc 32 [.slice none 0 0, .int .i64 0, .slice none 0 0, .int .i64 0, .int .i64 0])
    have cpb : w1.cell? ⟨pb, 0, none⟩ = some (.pointer (some ⟨p, 0, none⟩)) := OBlk.cell' (show OBlk w1.drew pb 66 [.pointer (some ⟨p, 0, none⟩), .pointer (some ⟨r, 0, none⟩), cv, wv, pv, hv] from hS4.tail.head) (j := 0) rfl
    have cg1 : w1.cell? ⟨g, 1, none⟩ = some (.int .i64 i) := OBlk.cell' (show OBlk w1.drew g 69 [.int .i64 k, .int .i64 i, .slice KA key.length ka, .int .i64 ck, .slice VA val.length va, .int .i64 pg, .int .i64 ct] from hS4.tail.tail.head) (j := 1) rfl
    have cpbb : (w1.alloc (.cells #[.slice none 0 0, .int .i64 0, .slice none 0 0, .int .i64 0, .int .i64 0] 32)).cell? ⟨pb, 0, none⟩ = some (.pointer (some ⟨p, 0, none⟩)) := OBlk.cell' (show OBlk (w1.drew.alloc (.cells #[.slice none 0 0, .int .i64 0, .slice none 0 0, .int .i64 0, .int .i64 0] 32)) pb 66 [.pointer (some ⟨p, 0, none⟩), .pointer (some ⟨r, 0, none⟩), cv, wv, pv, hv] from hS4b.tail.tail.head) (j := 0) rfl
    have cg1b : (w1.alloc (.cells #[.slice none 0 0, .int .i64 0, .slice none 0 0, .int .i64 0, .int .i64 0] 32)).cell? ⟨g, 1, none⟩ = some (.int .i64 i) := OBlk.cell' (show OBlk (w1.drew.alloc (.cells #[.slice none 0 0, .int .i64 0, .slice none 0 0, .int .i64 0, .int .i64 0] 32)) g 69 [.int .i64 k, .int .i64 i, .slice KA key.length ka, .int .i64 ck, .slice VA val.length va, .int .i64 pg, .int .i64 ct] from hS4b.tail.tail.tail.head) (j := 1) rfl
    have hC := HQ.out _ _ hS4
    have hCb := HQ.out _ _ hS4b
    go_upto_region 9 with (fail)
    go_cut [6, 7] (fun c z wx => ∃ (gq : Nat) (y : CV), c = .pointer (some ⟨gq, 0, none⟩) ∧ z = .int .i64 Z ∧ y.c = C ∧ RngY C ∧ Sep w0 wx (blkE gq 32 y.cells :: bytesE y.kv y.c.key :: bytesE y.vv y.c.val :: pgE p kind P (sizeF (pcs l) : Nat) u l :: w6P pb p r cv wv pv hv :: blkE g 69 [.int .i64 k, .int .i64 i, .slice KA key.length ka, .int .i64 ck, .slice VA val.length va, .int .i64 pg, .int .i64 ct] :: rpE r kind P v lv :: csE cv came :: csE wv want :: ownE 27 1 pv pics.length (pics.map Prod.fst) :: ownE 9 1 hv pics.length (pics.map fun p => strV p.2) :: allE (pics.map fun p => bytesE p.1 p.2) :: L))
    case first =>
      go_region_law
        (first
          | (go_simp; go_at_call 65; (with_reducible refine hC.mono ?_); rintro e w5 ⟨⟨ykv, yvv, yc⟩, rfl, hyc, hry, hS5⟩; simp only at hyc; subst hyc; obtain ⟨yK, yk, rfl⟩ := Own.slice (show OwB w5 0 ykv yc.key from hS5.head); obtain ⟨yV, yv, rfl⟩ := Own.slice (show OwB w5 0 yvv yc.val from hS5.tail.head); unfold cellV; simp only at hS5 ⊢)
          | (go_simp; go_at_call 65; refine hCb.mono ?_; rintro e w5 ⟨⟨ykv, yvv, yc⟩, rfl, hyc, hry, hS5⟩; simp only at hyc; subst hyc; obtain ⟨yK, yk, rfl⟩ := Own.slice (show OwB w5 0 ykv yc.key from hS5.head); obtain ⟨yV, yv, rfl⟩ := Own.slice (show OwB w5 0 yvv yc.val from hS5.tail.head); unfold cellV; simp only at hS5 ⊢; obtain ⟨e0, e1, e2, e3, e4⟩ := cells5 (show OBlk w5 w1.heap.size 32 [.slice none 0 0, .int .i64 0, .slice none 0 0, .int .i64 0, .int .i64 0] from hS5.tail.tail.tail.head); obtain ⟨f0, f1, f2, f3, f4⟩ := froz5 (show OBlk w5 w1.heap.size 32 [.slice none 0 0, .int .i64 0, .slice none 0 0, .int .i64 0, .int .i64 0] from hS5.tail.tail.tail.head))
          | fail)
      all_goals
        go_wp2_with fail
        go_meet
        refine ⟨_, ⟨.slice yK yc.key.length yk, .slice yV yc.val.length yv, yc⟩, rfl, rfl, rfl, hry, ?_⟩
        show Sep w0 _ (blkE _ 32 [.slice yK yc.key.length yk, .int .i64 yc.kind, .slice yV yc.val.length yv, .int .i64 yc.page, .int .i64 yc.count] :: bytesE (.slice yK yc.key.length yk) yc.key :: bytesE (.slice yV yc.val.length yv) yc.val :: pgE p kind P (sizeF (pcs l) : Nat) u l :: w6P pb p r cv wv pv hv :: blkE g 69 [.int .i64 k, .int .i64 i, .slice KA key.length ka, .int .i64 ck, .slice VA val.length va, .int .i64 pg, .int .i64 ct] :: rpE r kind P v lv :: csE cv came :: csE wv want :: ownE 27 1 pv pics.length (pics.map Prod.fst) :: ownE 9 1 hv pics.length (pics.map fun p => strV p.2) :: allE (pics.map fun p => bytesE p.1 p.2) :: L)
        first
          | (with_reducible exact hS5.alloc 32 [.slice yK yc.key.length yk, .int .i64 yc.kind, .slice yV yc.val.length yv, .int .i64 yc.page, .int .i64 yc.count])
          | (with_reducible exact (Sep.sw3 hS5).set5 (.slice yK yc.key.length yk) (.int .i64 yc.kind) (.slice yV yc.val.length yv) (.int .i64 yc.page) (.int .i64 yc.count))
    case rest =>
      clear hC hCb cpb cg1 cpbb cg1b hS4b hS4 hS1
      obtain ⟨gb, ⟨ykv, yvv, yc⟩, rfl, rfl, hyc, hry, hS6⟩ := hcut
      simp only at hyc
      have HYC := Lib.hid hyc
      clear hyc
      have hS4 : Sep w0 wc.drew (rpE r kind P v lv :: w6P pb p r cv wv pv hv :: blkE g 69 [.int .i64 k, .int .i64 i, .slice KA key.length ka, .int .i64 ck, .slice VA val.length va, .int .i64 pg, .int .i64 ct] :: blkE gb 32 [ykv, .int .i64 yc.kind, yvv, .int .i64 yc.page, .int .i64 yc.count] :: bytesE ykv yc.key :: bytesE yvv yc.val :: pgE p kind P (sizeF (pcs l) : Nat) u l :: csE cv came :: csE wv want :: ownE 27 1 pv pics.length (pics.map Prod.fst) :: ownE 9 1 hv pics.length (pics.map fun p => strV p.2) :: allE (pics.map fun p => bytesE p.1 p.2) :: L) := (Sep.pick (L := [_, _, _, _, _, _, _]) [6, 4, 5, 0, 1, 2, 3] (by decide) rfl hS6).drew
      clear hS6
      have hS4b : Sep w0 (wc.drew.alloc (.cells #[.slice none 0 0, .int .i64 0, .slice none 0 0, .int .i64 0, .int .i64 0] 32)) (rpE r kind P v lv :: blkE wc.heap.size 32 [.slice none 0 0, .int .i64 0, .slice none 0 0, .int .i64 0, .int .i64 0] :: w6P pb p r cv wv pv hv :: blkE g 69 [.int .i64 k, .int .i64 i, .slice KA key.length ka, .int .i64 ck, .slice VA val.length va, .int .i64 pg, .int .i64 ct] :: blkE gb 32 [ykv, .int .i64 yc.kind, yvv, .int .i64 yc.page, .int .i64 yc.count] :: bytesE ykv yc.key :: bytesE yvv yc.val :: pgE p kind P (sizeF (pcs l) : Nat) u l :: csE cv came :: csE wv want :: ownE 27 1 pv pics.length (pics.map Prod.fst) :: ownE 9 1 hv pics.length (pics.map fun p => strV p.2) :: allE (pics.map fun p => bytesE p.1 p.2) :: L) := Sep.sw1 (hS4.alloc 32 [.slice none 0 0, .int .i64 0, .slice none 0 0, .int .i64 0, .int .i64 0])
      have cpb : wc.cell? ⟨pb, 1, none⟩ = some (.pointer (some ⟨r, 0, none⟩)) := OBlk.cell' (show OBlk wc.drew pb 66 [.pointer (some ⟨p, 0, none⟩), .pointer (some ⟨r, 0, none⟩), cv, wv, pv, hv] from hS4.tail.head) (j := 1) rfl
      have cg1 : wc.cell? ⟨g, 1, none⟩ = some (.int .i64 i) := OBlk.cell' (show OBlk wc.drew g 69 [.int .i64 k, .int .i64 i, .slice KA key.length ka, .int .i64 ck, .slice VA val.length va, .int .i64 pg, .int .i64 ct] from hS4.tail.tail.head) (j := 1) rfl
      have cpbb : (wc.alloc (.cells #[.slice none 0 0, .int .i64 0, .slice none 0 0, .int .i64 0, .int .i64 0] 32)).cell? ⟨pb, 1, none⟩ = some (.pointer (some ⟨r, 0, none⟩)) := OBlk.cell' (show OBlk (wc.drew.alloc (.cells #[.slice none 0 0, .int .i64 0, .slice none 0 0, .int .i64 0, .int .i64 0] 32)) pb 66 [.pointer (some ⟨p, 0, none⟩), .pointer (some ⟨r, 0, none⟩), cv, wv, pv, hv] from hS4b.tail.tail.head) (j := 1) rfl
      have cg1b : (wc.alloc (.cells #[.slice none 0 0, .int .i64 0, .slice none 0 0, .int .i64 0, .int .i64 0] 32)).cell? ⟨g, 1, none⟩ = some (.int .i64 i) := OBlk.cell' (show OBlk (wc.drew.alloc (.cells #[.slice none 0 0, .int .i64 0, .slice none 0 0, .int .i64 0, .int .i64 0] 32)) g 69 [.int .i64 k, .int .i64 i, .slice KA key.length ka, .int .i64 ck, .slice VA val.length va, .int .i64 pg, .int .i64 ct] from hS4b.tail.tail.tail.head) (j := 1) rfl
      have hC := HR.out _ _ hS4
      have hCb := HR.out _ _ hS4b
      go_upto_region 10 with (fail)
      go_cut [8, 9] (fun c z wx => ∃ (gq : Nat) (y : CV), c = .pointer (some ⟨gq, 0, none⟩) ∧ z = .int .i64 Z ∧ y.c = C ∧ RngY C ∧ Sep w0 wx (blkE gq 32 y.cells :: bytesE y.kv y.c.key :: bytesE y.vv y.c.val :: rpE r kind P v lv :: w6P pb p r cv wv pv hv :: blkE g 69 [.int .i64 k, .int .i64 i, .slice KA key.length ka, .int .i64 ck, .slice VA val.length va, .int .i64 pg, .int .i64 ct] :: blkE gb 32 [ykv, .int .i64 yc.kind, yvv, .int .i64 yc.page, .int .i64 yc.count] :: bytesE ykv yc.key :: bytesE yvv yc.val :: pgE p kind P (sizeF (pcs l) : Nat) u l :: csE cv came :: csE wv want :: ownE 27 1 pv pics.length (pics.map Prod.fst) :: ownE 9 1 hv pics.length (pics.map fun p => strV p.2) :: allE (pics.map fun p => bytesE p.1 p.2) :: L))
      case first =>
        go_region_law
          (first
            | (go_simp; go_at_call 66; (with_reducible refine hC.mono ?_); rintro e w5 ⟨⟨zkv, zvv, zc⟩, rfl, hyc, hry, hS5⟩; simp only at hyc; subst hyc; obtain ⟨zK, zk, rfl⟩ := Own.slice (show OwB w5 0 zkv zc.key from hS5.head); obtain ⟨zV, zv, rfl⟩ := Own.slice (show OwB w5 0 zvv zc.val from hS5.tail.head); unfold cellV; simp only at hS5 ⊢)
            | (go_simp; go_at_call 66; refine hCb.mono ?_; rintro e w5 ⟨⟨zkv, zvv, zc⟩, rfl, hyc, hry, hS5⟩; simp only at hyc; subst hyc; obtain ⟨zK, zk, rfl⟩ := Own.slice (show OwB w5 0 zkv zc.key from hS5.head); obtain ⟨zV, zv, rfl⟩ := Own.slice (show OwB w5 0 zvv zc.val from hS5.tail.head); unfold cellV; simp only at hS5 ⊢; obtain ⟨e0, e1, e2, e3, e4⟩ := cells5 (show OBlk w5 wc.heap.size 32 [.slice none 0 0, .int .i64 0, .slice none 0 0, .int .i64 0, .int .i64 0] from hS5.tail.tail.tail.head); obtain ⟨f0, f1, f2, f3, f4⟩ := froz5 (show OBlk w5 wc.heap.size 32 [.slice none 0 0, .int .i64 0, .slice none 0 0, .int .i64 0, .int .i64 0] from hS5.tail.tail.tail.head))
            | fail)
        all_goals
          go_wp2_with fail
          go_meet
          refine ⟨_, ⟨.slice zK zc.key.length zk, .slice zV zc.val.length zv, zc⟩, rfl, rfl, rfl, hry, ?_⟩
          show Sep w0 _ (blkE _ 32 [.slice zK zc.key.length zk, .int .i64 zc.kind, .slice zV zc.val.length zv, .int .i64 zc.page, .int .i64 zc.count] :: bytesE (.slice zK zc.key.length zk) zc.key :: bytesE (.slice zV zc.val.length zv) zc.val :: rpE r kind P v lv :: w6P pb p r cv wv pv hv :: blkE g 69 [.int .i64 k, .int .i64 i, .slice KA key.length ka, .int .i64 ck, .slice VA val.length va, .int .i64 pg, .int .i64 ct] :: blkE gb 32 [ykv, .int .i64 yc.kind, yvv, .int .i64 yc.page, .int .i64 yc.count] :: bytesE ykv yc.key :: bytesE yvv yc.val :: pgE p kind P (sizeF (pcs l) : Nat) u l :: csE cv came :: csE wv want :: ownE 27 1 pv pics.length (pics.map Prod.fst) :: ownE 9 1 hv pics.length (pics.map fun p => strV p.2) :: allE (pics.map fun p => bytesE p.1 p.2) :: L)
          first
            | (with_reducible exact hS5.alloc 32 [.slice zK zc.key.length zk, .int .i64 zc.kind, .slice zV zc.val.length zv, .int .i64 zc.page, .int .i64 zc.count])
            | (with_reducible exact (Sep.sw3 hS5).set5 (.slice zK zc.key.length zk) (.int .i64 zc.kind) (.slice zV zc.val.length zv) (.int .i64 zc.page) (.int .i64 zc.count))
      case rest =>
        clear hC hCb cpb cg1 cpbb cg1b hS4b hS4
        obtain ⟨gb2, ⟨zkv, zvv, zc⟩, rfl, rfl, hzc, hryz, hS6⟩ := hcut
        simp only at hzc
        have hyz : zc = yc := hzc.trans HYC.out.symm
        subst hyz
        rw [← hzc] at hryz HCB
        clear hzc
        have hS7 : Sep w0 wc (csE cv came :: csE wv want :: w6P pb p r cv wv pv hv :: blkE gb 32 [ykv, .int .i64 zc.kind, yvv, .int .i64 zc.page, .int .i64 zc.count] :: blkE gb2 32 [zkv, .int .i64 zc.kind, zvv, .int .i64 zc.page, .int .i64 zc.count] :: bytesE ykv zc.key :: bytesE yvv zc.val :: bytesE zkv zc.key :: bytesE zvv zc.val :: pgE p kind P (sizeF (pcs l) : Nat) u l :: rpE r kind P v lv :: ownE 27 1 pv pics.length (pics.map Prod.fst) :: ownE 9 1 hv pics.length (pics.map fun p => strV p.2) :: allE (pics.map fun p => bytesE p.1 p.2) :: L) := Sep.pick (L := [_, _, _, _, _, _, _, _, _, _, _, _]) [10, 11, 4, 6, 0, 7, 8, 1, 2, 9, 3] (by decide) rfl hS6
        clear hS6
        obtain ⟨yK, yk, rfl⟩ := Own.slice (show OwB wc 0 ykv zc.key from hS7.tail.tail.tail.tail.tail.head)
        obtain ⟨yV, yv, rfl⟩ := Own.slice (show OwB wc 0 yvv zc.val from hS7.tail.tail.tail.tail.tail.tail.head)
        obtain ⟨zK, zk, rfl⟩ := Own.slice (show OwB wc 0 zkv zc.key from hS7.tail.tail.tail.tail.tail.tail.tail.head)
        obtain ⟨zV, zv, rfl⟩ := Own.slice (show OwB wc 0 zvv zc.val from hS7.tail.tail.tail.tail.tail.tail.tail.tail.head)
        obtain ⟨CA, cc, rfl⟩ := Own.slice (csE_own hS7)
        obtain ⟨WA, wcc, rfl⟩ := Own.slice (csE_own hS7.tail)
        obtain ⟨i0, hi0, hz0, hz1, hz2⟩ := info_parts cell_info
        have hncame : came.length ≤ 5000000 := by have := HB.out.nc; omega
        have hnwant : want.length ≤ 5000000 := by have h1 := congrArg List.length HB.out.cw; rw [pcs_length, pcs_length] at h1; omega
        have hS8 : Sep w0 wc (ownE 32 5 (.slice CA came.length cc) came.length (flatC came) :: blkE pb 66 [.pointer (some ⟨p, 0, none⟩), .pointer (some ⟨r, 0, none⟩), .slice CA came.length cc, .slice WA want.length wcc, pv, hv] :: blkE gb 32 [.slice yK zc.key.length yk, .int .i64 zc.kind, .slice yV zc.val.length yv, .int .i64 zc.page, .int .i64 zc.count] :: ownE 32 5 (.slice WA want.length wcc) want.length (flatC want) :: blkE gb2 32 [.slice zK zc.key.length zk, .int .i64 zc.kind, .slice zV zc.val.length zv, .int .i64 zc.page, .int .i64 zc.count] :: bytesE (.slice yK zc.key.length yk) zc.key :: bytesE (.slice yV zc.val.length yv) zc.val :: bytesE (.slice zK zc.key.length zk) zc.key :: bytesE (.slice zV zc.val.length zv) zc.val :: pgE p kind P (sizeF (pcs l) : Nat) u l :: rpE r kind P v lv :: ownE 27 1 pv pics.length (pics.map Prod.fst) :: ownE 9 1 hv pics.length (pics.map fun p => strV p.2) :: allE (pics.map fun p => bytesE p.1 p.2) :: (cellsE came ++ (cellsE want ++ L))) := csE_open2 hS7
        clear hS7
        have hone : ∀ u ∈ ([.slice yK zc.key.length yk, .int .i64 zc.kind, .slice yV zc.val.length yv, .int .i64 zc.page, .int .i64 zc.count] : List Value), u.oneCell' = true := by simp [Value.oneCell']
        have HONE := Lib.hid hone
        clear hone
        have hbd : OBlk wc.drew pb 66 [.pointer (some ⟨p, 0, none⟩), .pointer (some ⟨r, 0, none⟩), .slice CA came.length cc, .slice WA want.length wcc, pv, hv] := hS8.drew.tail.head
        have hbo : OBlk wc.drew gb 32 [.slice yK zc.key.length yk, .int .i64 zc.kind, .slice yV zc.val.length yv, .int .i64 zc.page, .int .i64 zc.count] := hS8.drew.tail.tail.head
        have kf : wc.cell? ⟨pb, 2, none⟩ = some (.slice CA came.length cc) := hbd.cell' (j := 2) rfl
        have x0 : wc.cell? ⟨gb, 0, none⟩ = some (.slice yK zc.key.length yk) := hbo.cell' (j := 0) rfl
        have x1 : wc.cell? ⟨gb, 1, none⟩ = some (.int .i64 zc.kind) := hbo.cell' (j := 1) rfl
        have x2 : wc.cell? ⟨gb, 2, none⟩ = some (.slice yV zc.val.length yv) := hbo.cell' (j := 2) rfl
        have x3 : wc.cell? ⟨gb, 3, none⟩ = some (.int .i64 zc.page) := hbo.cell' (j := 3) rfl
        have x4 : wc.cell? ⟨gb, 4, none⟩ = some (.int .i64 zc.count) := hbo.cell' (j := 4) rfl
        have hSa := hS8.drew.alloc 32 [.slice yK zc.key.length yk, .int .i64 zc.kind, .slice yV zc.val.length yv, .int .i64 zc.page, .int .i64 zc.count]
        have kfa : (wc.alloc (.cells #[.slice yK zc.key.length yk, .int .i64 zc.kind, .slice yV zc.val.length yv, .int .i64 zc.page, .int .i64 zc.count] 32)).cell? ⟨pb, 2, none⟩ = some (.slice CA came.length cc) := (show OBlk (wc.drew.alloc (.cells #[.slice yK zc.key.length yk, .int .i64 zc.kind, .slice yV zc.val.length yv, .int .i64 zc.page, .int .i64 zc.count] 32)) pb 66 [.pointer (some ⟨p, 0, none⟩), .pointer (some ⟨r, 0, none⟩), .slice CA came.length cc, .slice WA want.length wcc, pv, hv] from hSa.tail.tail.head).cell' (j := 2) rfl
        have hwa : Own (wc.drew.alloc (.cells #[.slice yK zc.key.length yk, .int .i64 zc.kind, .slice yV zc.val.length yv, .int .i64 zc.page, .int .i64 zc.count] 32)) 0 32 5 (.slice CA came.length cc) came.length (flatC came) := hSa.tail.head
        have hr5 := Rd.five wc.drew (.slice yK zc.key.length yk) (.int .i64 zc.kind) (.slice yV zc.val.length yv) (.int .i64 zc.page) (.int .i64 zc.count) 32
        have HR5 := Lib.hid hr5
        have HWA := Lib.hid hwa
        have hSw : Sep w0 (wc.drew.alloc (.cells #[.slice yK zc.key.length yk, .int .i64 zc.kind, .slice yV zc.val.length yv, .int .i64 zc.page, .int .i64 zc.count] 32)) (ownE 32 5 (.slice CA came.length cc) came.length (flatC came) :: blkE pb 66 [.pointer (some ⟨p, 0, none⟩), .pointer (some ⟨r, 0, none⟩), .slice CA came.length cc, .slice WA want.length wcc, pv, hv] :: blkE gb 32 [.slice yK zc.key.length yk, .int .i64 zc.kind, .slice yV zc.val.length yv, .int .i64 zc.page, .int .i64 zc.count] :: ownE 32 5 (.slice WA want.length wcc) want.length (flatC want) :: blkE gb2 32 [.slice zK zc.key.length zk, .int .i64 zc.kind, .slice zV zc.val.length zv, .int .i64 zc.page, .int .i64 zc.count] :: bytesE (.slice yK zc.key.length yk) zc.key :: bytesE (.slice yV zc.val.length yv) zc.val :: bytesE (.slice zK zc.key.length zk) zc.key :: bytesE (.slice zV zc.val.length zv) zc.val :: pgE p kind P (sizeF (pcs l) : Nat) u l :: rpE r kind P v lv :: ownE 27 1 pv pics.length (pics.map Prod.fst) :: ownE 9 1 hv pics.length (pics.map fun p => strV p.2) :: allE (pics.map fun p => bytesE p.1 p.2) :: (cellsE came ++ (cellsE want ++ L))) := hSa.tail
        clear hbd hbo hSa hr5 hwa
        have HSW := Lib.hid hSw
        clear hSw
        go_upto_region 11 with (fail)
        go_cut [] (fun wx => ∃ V n, Sep w0 wx (blkE pb 66 [.pointer (some ⟨p, 0, none⟩), .pointer (some ⟨r, 0, none⟩), .slice V (came.length + 1) n, .slice WA want.length wcc, pv, hv] :: ownE 32 5 (.slice V (came.length + 1) n) (came.length + 1) (flatC came ++ [.slice yK zc.key.length yk, .int .i64 zc.kind, .slice yV zc.val.length yv, .int .i64 zc.page, .int .i64 zc.count]) :: blkE gb 32 [.slice yK zc.key.length yk, .int .i64 zc.kind, .slice yV zc.val.length yv, .int .i64 zc.page, .int .i64 zc.count] :: ownE 32 5 (.slice WA want.length wcc) want.length (flatC want) :: blkE gb2 32 [.slice zK zc.key.length zk, .int .i64 zc.kind, .slice zV zc.val.length zv, .int .i64 zc.page, .int .i64 zc.count] :: bytesE (.slice yK zc.key.length yk) zc.key :: bytesE (.slice yV zc.val.length yv) zc.val :: bytesE (.slice zK zc.key.length zk) zc.key :: bytesE (.slice zV zc.val.length zv) zc.val :: pgE p kind P (sizeF (pcs l) : Nat) u l :: rpE r kind P v lv :: ownE 27 1 pv pics.length (pics.map Prod.fst) :: ownE 9 1 hv pics.length (pics.map fun p => strV p.2) :: allE (pics.map fun p => bytesE p.1 p.2) :: (cellsE came ++ (cellsE want ++ L))))
        case first =>
          go_region_law
            (first
              | (refine step_append (by rfl) (.tmp 76) (.tmp 78) _ _ (by rfl) 0 32 i0 _ 5 72 Try.underlying25 hi0 hz0 hz1 hz2 rfl (.slice CA came.length cc) came.length _ (by simp [Act.eval, Act.put]) HWA.out (.slice (some ⟨wc.heap.size, 0, none⟩) 1 1) 1 [.slice yK zc.key.length yk, .int .i64 zc.kind, .slice yV zc.val.length yv, .int .i64 zc.page, .int .i64 zc.count] (by simp [Act.eval, Act.put]) (Rd.src _ Try.underlying25 (by omega) HR5.out HONE.out) (by omega) (by omega) (Nat.zero_le _) ?_; intro v8 w8 ho8 hg8 hk8; obtain ⟨V8, n8, rfl⟩ := Own.slice ho8; have hS8 := (HSW.out.appC ho8 hg8 (by rcases hk8 with e | e; exact .inl e; exact .inr ⟨_, e, Nat.le_refl _⟩)).sw1; have c5' := OBlk.cell' (show OBlk w8 pb 66 [.pointer (some ⟨p, 0, none⟩), .pointer (some ⟨r, 0, none⟩), .slice CA came.length cc, .slice WA want.length wcc, pv, hv] from hS8.head) (j := 2) rfl; have f5' := OBlk.frozen (show OBlk w8 pb 66 [.pointer (some ⟨p, 0, none⟩), .pointer (some ⟨r, 0, none⟩), .slice CA came.length cc, .slice WA want.length wcc, pv, hv] from hS8.head) (j := 2) (by simp))
              | fail)
          all_goals
            have hS9 := hS8.setCell 2 (.slice V8 (came.length + 1) n8)
            simp only [List.set_cons_succ, List.set_cons_zero] at hS9
            go_wp2_with fail
            go_meet
            exact ⟨V8, n8, hS9⟩
        case rest =>
          obtain ⟨CB, cd, hS8n⟩ := hcut
          clear kf x0 x1 x2 x3 x4 kfa HWA HR5 HSW hS8
          have hS9 : Sep w0 wc (ownE 32 5 (.slice WA want.length wcc) want.length (flatC want) :: blkE pb 66 [.pointer (some ⟨p, 0, none⟩), .pointer (some ⟨r, 0, none⟩), .slice CB (came.length + 1) cd, .slice WA want.length wcc, pv, hv] :: blkE gb2 32 [.slice zK zc.key.length zk, .int .i64 zc.kind, .slice zV zc.val.length zv, .int .i64 zc.page, .int .i64 zc.count] :: ownE 32 5 (.slice CB (came.length + 1) cd) (came.length + 1) (flatC came ++ [.slice yK zc.key.length yk, .int .i64 zc.kind, .slice yV zc.val.length yv, .int .i64 zc.page, .int .i64 zc.count]) :: blkE gb 32 [.slice yK zc.key.length yk, .int .i64 zc.kind, .slice yV zc.val.length yv, .int .i64 zc.page, .int .i64 zc.count] :: bytesE (.slice yK zc.key.length yk) zc.key :: bytesE (.slice yV zc.val.length yv) zc.val :: bytesE (.slice zK zc.key.length zk) zc.key :: bytesE (.slice zV zc.val.length zv) zc.val :: pgE p kind P (sizeF (pcs l) : Nat) u l :: rpE r kind P v lv :: ownE 27 1 pv pics.length (pics.map Prod.fst) :: ownE 9 1 hv pics.length (pics.map fun p => strV p.2) :: allE (pics.map fun p => bytesE p.1 p.2) :: (cellsE came ++ (cellsE want ++ L))) := Sep.pick (L := [_, _, _, _, _]) [3, 0, 4, 1, 2] (by decide) rfl hS8n
          clear hS8n HONE
          have hone : ∀ u ∈ ([.slice zK zc.key.length zk, .int .i64 zc.kind, .slice zV zc.val.length zv, .int .i64 zc.page, .int .i64 zc.count] : List Value), u.oneCell' = true := by simp [Value.oneCell']
          have HONE := Lib.hid hone
          clear hone
          have hbd : OBlk wc.drew pb 66 [.pointer (some ⟨p, 0, none⟩), .pointer (some ⟨r, 0, none⟩), .slice CB (came.length + 1) cd, .slice WA want.length wcc, pv, hv] := hS9.drew.tail.head
          have hbo : OBlk wc.drew gb2 32 [.slice zK zc.key.length zk, .int .i64 zc.kind, .slice zV zc.val.length zv, .int .i64 zc.page, .int .i64 zc.count] := hS9.drew.tail.tail.head
          have kf : wc.cell? ⟨pb, 3, none⟩ = some (.slice WA want.length wcc) := hbd.cell' (j := 3) rfl
          have x0 : wc.cell? ⟨gb2, 0, none⟩ = some (.slice zK zc.key.length zk) := hbo.cell' (j := 0) rfl
          have x1 : wc.cell? ⟨gb2, 1, none⟩ = some (.int .i64 zc.kind) := hbo.cell' (j := 1) rfl
          have x2 : wc.cell? ⟨gb2, 2, none⟩ = some (.slice zV zc.val.length zv) := hbo.cell' (j := 2) rfl
          have x3 : wc.cell? ⟨gb2, 3, none⟩ = some (.int .i64 zc.page) := hbo.cell' (j := 3) rfl
          have x4 : wc.cell? ⟨gb2, 4, none⟩ = some (.int .i64 zc.count) := hbo.cell' (j := 4) rfl
          have hSa := hS9.drew.alloc 32 [.slice zK zc.key.length zk, .int .i64 zc.kind, .slice zV zc.val.length zv, .int .i64 zc.page, .int .i64 zc.count]
          have kfa : (wc.alloc (.cells #[.slice zK zc.key.length zk, .int .i64 zc.kind, .slice zV zc.val.length zv, .int .i64 zc.page, .int .i64 zc.count] 32)).cell? ⟨pb, 3, none⟩ = some (.slice WA want.length wcc) := (show OBlk (wc.drew.alloc (.cells #[.slice zK zc.key.length zk, .int .i64 zc.kind, .slice zV zc.val.length zv, .int .i64 zc.page, .int .i64 zc.count] 32)) pb 66 [.pointer (some ⟨p, 0, none⟩), .pointer (some ⟨r, 0, none⟩), .slice CB (came.length + 1) cd, .slice WA want.length wcc, pv, hv] from hSa.tail.tail.head).cell' (j := 3) rfl
          have hwa : Own (wc.drew.alloc (.cells #[.slice zK zc.key.length zk, .int .i64 zc.kind, .slice zV zc.val.length zv, .int .i64 zc.page, .int .i64 zc.count] 32)) 0 32 5 (.slice WA want.length wcc) want.length (flatC want) := hSa.tail.head
          have hr5 := Rd.five wc.drew (.slice zK zc.key.length zk) (.int .i64 zc.kind) (.slice zV zc.val.length zv) (.int .i64 zc.page) (.int .i64 zc.count) 32
          have HR5 := Lib.hid hr5
          have HWA := Lib.hid hwa
          have hSw : Sep w0 (wc.drew.alloc (.cells #[.slice zK zc.key.length zk, .int .i64 zc.kind, .slice zV zc.val.length zv, .int .i64 zc.page, .int .i64 zc.count] 32)) (ownE 32 5 (.slice WA want.length wcc) want.length (flatC want) :: blkE pb 66 [.pointer (some ⟨p, 0, none⟩), .pointer (some ⟨r, 0, none⟩), .slice CB (came.length + 1) cd, .slice WA want.length wcc, pv, hv] :: blkE gb2 32 [.slice zK zc.key.length zk, .int .i64 zc.kind, .slice zV zc.val.length zv, .int .i64 zc.page, .int .i64 zc.count] :: ownE 32 5 (.slice CB (came.length + 1) cd) (came.length + 1) (flatC came ++ [.slice yK zc.key.length yk, .int .i64 zc.kind, .slice yV zc.val.length yv, .int .i64 zc.page, .int .i64 zc.count]) :: blkE gb 32 [.slice yK zc.key.length yk, .int .i64 zc.kind, .slice yV zc.val.length yv, .int .i64 zc.page, .int .i64 zc.count] :: bytesE (.slice yK zc.key.length yk) zc.key :: bytesE (.slice yV zc.val.length yv) zc.val :: bytesE (.slice zK zc.key.length zk) zc.key :: bytesE (.slice zV zc.val.length zv) zc.val :: pgE p kind P (sizeF (pcs l) : Nat) u l :: rpE r kind P v lv :: ownE 27 1 pv pics.length (pics.map Prod.fst) :: ownE 9 1 hv pics.length (pics.map fun p => strV p.2) :: allE (pics.map fun p => bytesE p.1 p.2) :: (cellsE came ++ (cellsE want ++ L))) := hSa.tail
          clear hbd hbo hSa hr5 hwa
          have HSW := Lib.hid hSw
          clear hSw
          go_upto_region 12 with (fail)
          go_cut [] (fun wx => ∃ V n, Sep w0 wx (blkE pb 66 [.pointer (some ⟨p, 0, none⟩), .pointer (some ⟨r, 0, none⟩), .slice CB (came.length + 1) cd, .slice V (want.length + 1) n, pv, hv] :: ownE 32 5 (.slice V (want.length + 1) n) (want.length + 1) (flatC want ++ [.slice zK zc.key.length zk, .int .i64 zc.kind, .slice zV zc.val.length zv, .int .i64 zc.page, .int .i64 zc.count]) :: blkE gb2 32 [.slice zK zc.key.length zk, .int .i64 zc.kind, .slice zV zc.val.length zv, .int .i64 zc.page, .int .i64 zc.count] :: ownE 32 5 (.slice CB (came.length + 1) cd) (came.length + 1) (flatC came ++ [.slice yK zc.key.length yk, .int .i64 zc.kind, .slice yV zc.val.length yv, .int .i64 zc.page, .int .i64 zc.count]) :: blkE gb 32 [.slice yK zc.key.length yk, .int .i64 zc.kind, .slice yV zc.val.length yv, .int .i64 zc.page, .int .i64 zc.count] :: bytesE (.slice yK zc.key.length yk) zc.key :: bytesE (.slice yV zc.val.length yv) zc.val :: bytesE (.slice zK zc.key.length zk) zc.key :: bytesE (.slice zV zc.val.length zv) zc.val :: pgE p kind P (sizeF (pcs l) : Nat) u l :: rpE r kind P v lv :: ownE 27 1 pv pics.length (pics.map Prod.fst) :: ownE 9 1 hv pics.length (pics.map fun p => strV p.2) :: allE (pics.map fun p => bytesE p.1 p.2) :: (cellsE came ++ (cellsE want ++ L))))
          case first =>
            go_region_law
              (first
                | (refine step_append (by rfl) (.tmp 86) (.tmp 88) _ _ (by rfl) 0 32 i0 _ 5 72 Try.underlying25 hi0 hz0 hz1 hz2 rfl (.slice WA want.length wcc) want.length _ (by simp [Act.eval, Act.put]) HWA.out (.slice (some ⟨wc.heap.size, 0, none⟩) 1 1) 1 [.slice zK zc.key.length zk, .int .i64 zc.kind, .slice zV zc.val.length zv, .int .i64 zc.page, .int .i64 zc.count] (by simp [Act.eval, Act.put]) (Rd.src _ Try.underlying25 (by omega) HR5.out HONE.out) (by omega) (by omega) (Nat.zero_le _) ?_; intro v8 w8 ho8 hg8 hk8; obtain ⟨V8, n8, rfl⟩ := Own.slice ho8; have hS8 := (HSW.out.appC ho8 hg8 (by rcases hk8 with e | e; exact .inl e; exact .inr ⟨_, e, Nat.le_refl _⟩)).sw1; have c5' := OBlk.cell' (show OBlk w8 pb 66 [.pointer (some ⟨p, 0, none⟩), .pointer (some ⟨r, 0, none⟩), .slice CB (came.length + 1) cd, .slice WA want.length wcc, pv, hv] from hS8.head) (j := 3) rfl; have f5' := OBlk.frozen (show OBlk w8 pb 66 [.pointer (some ⟨p, 0, none⟩), .pointer (some ⟨r, 0, none⟩), .slice CB (came.length + 1) cd, .slice WA want.length wcc, pv, hv] from hS8.head) (j := 3) (by simp))
                | fail)
            all_goals
              have hS9 := hS8.setCell 3 (.slice V8 (want.length + 1) n8)
              simp only [List.set_cons_succ, List.set_cons_zero] at hS9
              go_wp2_with fail
              go_meet
              exact ⟨V8, n8, hS9⟩
          case rest =>
            obtain ⟨WB, wd, hS9n⟩ := hcut
            clear kf x0 x1 x2 x3 x4 kfa HWA HR5 HSW hS9
            clear HONE
            have hbo : OBlk wc gb2 32 [.slice zK zc.key.length zk, .int .i64 zc.kind, .slice zV zc.val.length zv, .int .i64 zc.page, .int .i64 zc.count] := hS9n.tail.tail.head
            obtain ⟨x0, x1, x2, x3, x4⟩ := cells5 hbo
            have hbo2 : OBlk wc gb 32 [.slice yK zc.key.length yk, .int .i64 zc.kind, .slice yV zc.val.length yv, .int .i64 zc.page, .int .i64 zc.count] := hS9n.tail.tail.tail.tail.head
            obtain ⟨y0, y1, y2, y3, y4⟩ := cells5 hbo2
            have hyk : OwB wc 0 (.slice yK zc.key.length yk) zc.key := hS9n.tail.tail.tail.tail.tail.head
            have hyv : OwB wc 0 (.slice yV zc.val.length yv) zc.val := hS9n.tail.tail.tail.tail.tail.tail.head
            have hzk : OwB wc 0 (.slice zK zc.key.length zk) zc.key := hS9n.tail.tail.tail.tail.tail.tail.tail.head
            have hzv : OwB wc 0 (.slice zV zc.val.length zv) zc.val := hS9n.tail.tail.tail.tail.tail.tail.tail.tail.head
            have hsm := SameCell_eq ⟨.slice yK zc.key.length yk, .slice yV zc.val.length yv, zc⟩ ⟨.slice zK zc.key.length zk, .slice zV zc.val.length zv, zc⟩ wc ⟨hyk.rd, hyv.rd, hryz.1, hryz.2.1, hryz.2.2⟩ ⟨hzk.rd, hzv.rd, hryz.1, hryz.2.1, hryz.2.2⟩ rfl
            unfold cellV at hsm
            simp only at hsm
            clear hbo hbo2 hyk hyv hzk hzv
            go_wp2_with (first
              | (go_at_call 59; (with_reducible refine hsm.mono ?_); rintro e w9 ⟨rfl, hw9⟩)
              | fail)
            go_ret
            have hT := hS9n.below hw9
            have hT1 : Sep w0 w9 (ownE 32 5 (.slice CB (came.length + 1) cd) (came.length + 1) (flatC came ++ [.slice yK zc.key.length yk, .int .i64 zc.kind, .slice yV zc.val.length yv, .int .i64 zc.page, .int .i64 zc.count]) :: bytesE (.slice yK zc.key.length yk) zc.key :: bytesE (.slice yV zc.val.length yv) zc.val :: ownE 32 5 (.slice WB (want.length + 1) wd) (want.length + 1) (flatC want ++ [.slice zK zc.key.length zk, .int .i64 zc.kind, .slice zV zc.val.length zv, .int .i64 zc.page, .int .i64 zc.count]) :: bytesE (.slice zK zc.key.length zk) zc.key :: bytesE (.slice zV zc.val.length zv) zc.val :: blkE pb 66 [.pointer (some ⟨p, 0, none⟩), .pointer (some ⟨r, 0, none⟩), .slice CB (came.length + 1) cd, .slice WB (want.length + 1) wd, pv, hv] :: pgE p kind P (sizeF (pcs l) : Nat) u l :: rpE r kind P v lv :: ownE 27 1 pv pics.length (pics.map Prod.fst) :: ownE 9 1 hv pics.length (pics.map fun p => strV p.2) :: allE (pics.map fun p => bytesE p.1 p.2) :: (cellsE came ++ (cellsE want ++ L))) := Sep.pick (L := [_, _, _, _, _, _, _, _, _]) [3, 5, 6, 1, 7, 8, 0] (by decide) rfl hT
            have hT2 := Sep.csSnocFar (y := ⟨.slice yK zc.key.length yk, .slice yV zc.val.length yv, zc⟩) [_, _, _, _, _, _, _, _, _] hT1
            have hT3 : Sep w0 w9 (ownE 32 5 (.slice WB (want.length + 1) wd) (want.length + 1) (flatC want ++ [.slice zK zc.key.length zk, .int .i64 zc.kind, .slice zV zc.val.length zv, .int .i64 zc.page, .int .i64 zc.count]) :: bytesE (.slice zK zc.key.length zk) zc.key :: bytesE (.slice zV zc.val.length zv) zc.val :: csE (.slice CB (came.length + 1) cd) (came ++ [⟨.slice yK zc.key.length yk, .slice yV zc.val.length yv, zc⟩]) :: blkE pb 66 [.pointer (some ⟨p, 0, none⟩), .pointer (some ⟨r, 0, none⟩), .slice CB (came.length + 1) cd, .slice WB (want.length + 1) wd, pv, hv] :: pgE p kind P (sizeF (pcs l) : Nat) u l :: rpE r kind P v lv :: ownE 27 1 pv pics.length (pics.map Prod.fst) :: ownE 9 1 hv pics.length (pics.map fun p => strV p.2) :: allE (pics.map fun p => bytesE p.1 p.2) :: (cellsE want ++ L)) := Sep.pick (L := [_, _, _, _]) [1, 2, 3, 0] (by decide) rfl hT2
            have hT4 := Sep.csSnocFar (y := ⟨.slice zK zc.key.length zk, .slice zV zc.val.length zv, zc⟩) [_, _, _, _, _, _, _] hT3
            have hT5 : Sep w0 w9 (csE (.slice WB (want.length + 1) wd) (want ++ [⟨.slice zK zc.key.length zk, .slice zV zc.val.length zv, zc⟩]) :: csE (.slice CB (came.length + 1) cd) (came ++ [⟨.slice yK zc.key.length yk, .slice yV zc.val.length yv, zc⟩]) :: blkE pb 66 [.pointer (some ⟨p, 0, none⟩), .pointer (some ⟨r, 0, none⟩), .slice CB (came.length + 1) cd, .slice WB (want.length + 1) wd, pv, hv] :: pgE p kind P (sizeF (pcs l) : Nat) u l :: rpE r kind P v lv :: ownE 27 1 pv pics.length (pics.map Prod.fst) :: ownE 9 1 hv pics.length (pics.map fun p => strV p.2) :: allE (pics.map fun p => bytesE p.1 p.2) :: L) := hT4
            have hT6 : Sep w0 w9 (w6P pb p r (.slice CB (came.length + 1) cd) (.slice WB (want.length + 1) wd) pv hv :: w6T kind P p r u v l lv (.slice CB (came.length + 1) cd) (came ++ [⟨.slice yK zc.key.length yk, .slice yV zc.val.length yv, zc⟩]) (.slice WB (want.length + 1) wd) (want ++ [⟨.slice zK zc.key.length zk, .slice zV zc.val.length zv, zc⟩]) pv pics hv L) := Sep.pick (L := [_, _, _, _, _]) [2, 3, 4, 1, 0] (by decide) rfl hT5
            exact ⟨rfl, p, r, u, v, l, lv, .slice CB (came.length + 1) cd, came ++ [⟨.slice yK zc.key.length yk, .slice yV zc.val.length yv, zc⟩], .slice WB (want.length + 1) wd, want ++ [⟨.slice zK zc.key.length zk, .slice zV zc.val.length zv, zc⟩], pv, pics, hv, hT6, HB.out.cell _ _ hryz rfl HCB.out⟩
  have e4 := kind_ne k4
  clear k4
  by_cases k5 : k = 5
  · have e5 := kind_eq k5
    clear k5
    have hrk : RdB w1 (.slice KA key.length ka) key := (HX.out.ok hS1 (fun E hE => by simp [hE])).k
    have hLe := LentB_sep hS1 hrk HX.out.s1
    clear hrk
    go_upto_region 17 with (first
      | (go_at_call 26; (with_reducible refine hLe.mono ?_); rintro e w2 ⟨gk, rfl, hS2⟩)
      | fail)
    clear hLe b0 b1 b2 b3 b4 b5 b6 hbx hPat hS1
    have hS3 : Sep w0 w2 (pgE p kind P (sizeF (pcs l) : Nat) u l :: bytesE (.slice (some ⟨gk, 0, none⟩) (key.length + 9) (key.length + 9)) (key ++ marks9) :: blkE g 69 [.int .i64 k, .int .i64 i, .slice KA key.length ka, .int .i64 ck, .slice VA val.length va, .int .i64 pg, .int .i64 ct] :: w6P pb p r cv wv pv hv :: rpE r kind P v lv :: csE cv came :: csE wv want :: ownE 27 1 pv pics.length (pics.map Prod.fst) :: ownE 9 1 hv pics.length (pics.map fun p => strV p.2) :: allE (pics.map fun p => bytesE p.1 p.2) :: L) := Sep.pick (L := [_, _, _, _]) [3, 0, 1, 2] (by decide) rfl hS2
    have k0 := OBlk.cell' (show OBlk w2 pb 66 [.pointer (some ⟨p, 0, none⟩), .pointer (some ⟨r, 0, none⟩), cv, wv, pv, hv] from hS3.tail.tail.tail.head) (j := 0) rfl
    have hF := PFind_any (hS3.pgAt HB.out.rl) (.slice (some ⟨gk, 0, none⟩) key.length (key.length + 9)) key (lentC_rd0 hS3.tail.head rfl)
    go_upto_region 18 with (first
      | (go_at_call 25; (with_reducible refine hF.mono ?_); rintro e w4 ⟨rfl, hw4⟩)
      | fail)
    have hS4 := hS2.below hw4
    clear hF k0 hS2 hS3 hw4
    have c2 := OBlk.cell' (show OBlk w4 g 69 [.int .i64 k, .int .i64 i, .slice KA key.length ka, .int .i64 ck, .slice VA val.length va, .int .i64 pg, .int .i64 ct] from hS4.tail.head) (j := 2) rfl
    have hAs := AsLentB_sep (vb := .slice KA key.length ka) (l := key) (g := gk) (n := key.length) hS4 rfl (HX.out.ok hS4 (fun E hE => by simp [hE])).k HX.out.s1
    go_upto_region 19 with (first
      | (go_at_call 28; (with_reducible refine hAs.mono ?_); rintro e w5 ⟨rfl, hS5⟩)
      | fail)
    clear hAs hS4 c2
    have hS6 : Sep w0 w5.drew (rpE r kind P v lv :: blkE g 69 [.int .i64 k, .int .i64 i, .slice KA key.length ka, .int .i64 ck, .slice VA val.length va, .int .i64 pg, .int .i64 ct] :: w6P pb p r cv wv pv hv :: pgE p kind P (sizeF (pcs l) : Nat) u l :: csE cv came :: csE wv want :: ownE 27 1 pv pics.length (pics.map Prod.fst) :: ownE 9 1 hv pics.length (pics.map fun p => strV p.2) :: allE (pics.map fun p => bytesE p.1 p.2) :: L) := (Sep.pick (L := [_, _, _, _]) [3, 0, 1, 2] (by decide) rfl hS5).drew
    have cpb1 := OBlk.cell' (show OBlk w5.drew pb 66 [.pointer (some ⟨p, 0, none⟩), .pointer (some ⟨r, 0, none⟩), cv, wv, pv, hv] from hS6.tail.tail.head) (j := 1) rfl
    have cg2 := OBlk.cell' (show OBlk w5.drew g 69 [.int .i64 k, .int .i64 i, .slice KA key.length ka, .int .i64 ck, .slice VA val.length va, .int .i64 pg, .int .i64 ct] from hS6.tail.head) (j := 2) rfl
    have hC := RFind_sep hS6 HB.out.rv (by rw [HB.out.eq]; exact HB.out.wk) HK.p2 (.slice KA key.length ka) key ((RdIn.app (L1 := [_, _, _, _, _, _, _, _]) HX.out.k))
    rw [HB.out.eq] at hC
    go_region_held3 (fun w' => w'.cell? ⟨pb, 1, none⟩ = some (.pointer (some ⟨r, 0, none⟩)) ∧ w'.cell? ⟨g, 2, none⟩ = some (.slice KA key.length ka))
      (first | exact ⟨cpb1, cg2⟩ | exact ⟨OBlk.cell' (show OBlk w7 pb 66 [.pointer (some ⟨p, 0, none⟩), .pointer (some ⟨r, 0, none⟩), cv, wv, pv, hv] from hS7.tail.tail.head) (j := 1) rfl, OBlk.cell' (show OBlk w7 g 69 [.int .i64 k, .int .i64 i, .slice KA key.length ka, .int .i64 ck, .slice VA val.length va, .int .i64 pg, .int .i64 ct] from hS7.tail.head) (j := 2) rfl⟩)
      (first
        | (go_at_call 67; (with_reducible refine hC.mono ?_); rintro e w7 ⟨rfl, hS7⟩)
        | fail)
    clear hC hS6 cpb1 cg2 hS5
    have hfle := findF_le key (pcs l)
    rw [pcs_length] at hfle
    have hlen := HB.out.wk.len HK.p2
    rw [pcs_length] at hlen
    have hS8 : Sep w0 w7 (w6P pb p r cv wv pv hv :: w6T kind P p r u v l lv cv came wv want pv pics hv (blkE g 69 [.int .i64 k, .int .i64 i, .slice KA key.length ka, .int .i64 ck, .slice VA val.length va, .int .i64 pg, .int .i64 ct] :: L)) := Sep.pick (L := [_, _, _, _, _, _, _, _, _]) [2, 3, 0, 4, 5, 6, 7, 8, 1] (by decide) rfl hS7
    have hPat8 : W6At pb kind P w0 w7 (blkE g 69 [.int .i64 k, .int .i64 i, .slice KA key.length ka, .int .i64 ck, .slice VA val.length va, .int .i64 pg, .int .i64 ct] :: L) q := ⟨p, r, u, v, l, lv, cv, came, wv, want, pv, pics, hv, hS8, HB.out⟩
    have hbg : OBlk w7 g 69 [.int .i64 k, .int .i64 i, .slice KA key.length ka, .int .i64 ck, .slice VA val.length va, .int .i64 pg, .int .i64 ct] := hS7.tail.head
    have b0 := hbg.cell' (j := 0) rfl
    have b2 := hbg.cell' (j := 2) rfl
    have b3 := hbg.cell' (j := 3) rfl
    have b4 := hbg.cell' (j := 4) rfl
    have b5 := hbg.cell' (j := 5) rfl
    have b6 := hbg.cell' (j := 6) rfl
    generalize findF key (pcs l) = F at *
    generalize isF key (pcs l) = FB at *
    have hC := lent_sep hPat8 HK 1 (F : Int) ⟨by omega, by omega⟩ ⟨.slice KA key.length ka, .slice VA val.length va, ⟨key, ck, val, pg, ct⟩⟩ hXg
    unfold cellV at hC
    simp only at hC
    have hself : (FB == FB) = true := by simp
    go_wp2_with (first
      | (go_at_call 62; (with_reducible refine hC.mono ?_); rintro e w9 ⟨rfl, hP9⟩)
      | fail)
    go_ret
    first
      | exact ⟨rfl, hP9.drop.mono⟩
      | exact ⟨rfl, hPat8.drop.mono⟩
  have e5 := kind_ne k5
  clear k5
  by_cases k6 : k = 6
  · have e6 := kind_eq k6
    clear k6
    have hrk : RdB w1 (.slice KA key.length ka) key := (HX.out.ok hS1 (fun E hE => by simp [hE])).k
    have hLe := LentB_sep hS1 hrk HX.out.s1
    clear hrk
    go_upto_region 17 with (first
      | (go_at_call 26; (with_reducible refine hLe.mono ?_); rintro e w2 ⟨gk, rfl, hS2⟩)
      | fail)
    clear hLe b0 b1 b2 b3 b4 b5 b6 hbx hPat hS1
    have hS3 : Sep w0 w2 (pgE p kind P (sizeF (pcs l) : Nat) u l :: bytesE (.slice (some ⟨gk, 0, none⟩) (key.length + 9) (key.length + 9)) (key ++ marks9) :: blkE g 69 [.int .i64 k, .int .i64 i, .slice KA key.length ka, .int .i64 ck, .slice VA val.length va, .int .i64 pg, .int .i64 ct] :: w6P pb p r cv wv pv hv :: rpE r kind P v lv :: csE cv came :: csE wv want :: ownE 27 1 pv pics.length (pics.map Prod.fst) :: ownE 9 1 hv pics.length (pics.map fun p => strV p.2) :: allE (pics.map fun p => bytesE p.1 p.2) :: L) := Sep.pick (L := [_, _, _, _]) [3, 0, 1, 2] (by decide) rfl hS2
    have k0 := OBlk.cell' (show OBlk w2 pb 66 [.pointer (some ⟨p, 0, none⟩), .pointer (some ⟨r, 0, none⟩), cv, wv, pv, hv] from hS3.tail.tail.tail.head) (j := 0) rfl
    have hF := PFind_any (hS3.pgAt HB.out.rl) (.slice (some ⟨gk, 0, none⟩) key.length (key.length + 9)) key (lentC_rd0 hS3.tail.head rfl)
    go_upto_region 18 with (first
      | (go_at_call 25; (with_reducible refine hF.mono ?_); rintro e w4 ⟨rfl, hw4⟩)
      | fail)
    have hS4 := hS2.below hw4
    clear hF k0 hS2 hS3 hw4
    have c2 := OBlk.cell' (show OBlk w4 g 69 [.int .i64 k, .int .i64 i, .slice KA key.length ka, .int .i64 ck, .slice VA val.length va, .int .i64 pg, .int .i64 ct] from hS4.tail.head) (j := 2) rfl
    have hAs := AsLentB_sep (vb := .slice KA key.length ka) (l := key) (g := gk) (n := key.length) hS4 rfl (HX.out.ok hS4 (fun E hE => by simp [hE])).k HX.out.s1
    go_upto_region 19 with (first
      | (go_at_call 28; (with_reducible refine hAs.mono ?_); rintro e w5 ⟨rfl, hS5⟩)
      | fail)
    clear hAs hS4 c2
    have hS6 : Sep w0 w5.drew (rpE r kind P v lv :: blkE g 69 [.int .i64 k, .int .i64 i, .slice KA key.length ka, .int .i64 ck, .slice VA val.length va, .int .i64 pg, .int .i64 ct] :: w6P pb p r cv wv pv hv :: pgE p kind P (sizeF (pcs l) : Nat) u l :: csE cv came :: csE wv want :: ownE 27 1 pv pics.length (pics.map Prod.fst) :: ownE 9 1 hv pics.length (pics.map fun p => strV p.2) :: allE (pics.map fun p => bytesE p.1 p.2) :: L) := (Sep.pick (L := [_, _, _, _]) [3, 0, 1, 2] (by decide) rfl hS5).drew
    have cpb1 := OBlk.cell' (show OBlk w5.drew pb 66 [.pointer (some ⟨p, 0, none⟩), .pointer (some ⟨r, 0, none⟩), cv, wv, pv, hv] from hS6.tail.tail.head) (j := 1) rfl
    have cg2 := OBlk.cell' (show OBlk w5.drew g 69 [.int .i64 k, .int .i64 i, .slice KA key.length ka, .int .i64 ck, .slice VA val.length va, .int .i64 pg, .int .i64 ct] from hS6.tail.head) (j := 2) rfl
    have hC := RFind_sep hS6 HB.out.rv (by rw [HB.out.eq]; exact HB.out.wk) HK.p2 (.slice KA key.length ka) key ((RdIn.app (L1 := [_, _, _, _, _, _, _, _]) HX.out.k))
    rw [HB.out.eq] at hC
    go_region_held3 (fun w' => w'.cell? ⟨pb, 1, none⟩ = some (.pointer (some ⟨r, 0, none⟩)) ∧ w'.cell? ⟨g, 2, none⟩ = some (.slice KA key.length ka))
      (first | exact ⟨cpb1, cg2⟩ | exact ⟨OBlk.cell' (show OBlk w7 pb 66 [.pointer (some ⟨p, 0, none⟩), .pointer (some ⟨r, 0, none⟩), cv, wv, pv, hv] from hS7.tail.tail.head) (j := 1) rfl, OBlk.cell' (show OBlk w7 g 69 [.int .i64 k, .int .i64 i, .slice KA key.length ka, .int .i64 ck, .slice VA val.length va, .int .i64 pg, .int .i64 ct] from hS7.tail.head) (j := 2) rfl⟩)
      (first
        | (go_at_call 67; (with_reducible refine hC.mono ?_); rintro e w7 ⟨rfl, hS7⟩)
        | fail)
    clear hC hS6 cpb1 cg2 hS5
    have hfle := findF_le key (pcs l)
    rw [pcs_length] at hfle
    have hlen := HB.out.wk.len HK.p2
    rw [pcs_length] at hlen
    have hS8 : Sep w0 w7 (w6P pb p r cv wv pv hv :: w6T kind P p r u v l lv cv came wv want pv pics hv (blkE g 69 [.int .i64 k, .int .i64 i, .slice KA key.length ka, .int .i64 ck, .slice VA val.length va, .int .i64 pg, .int .i64 ct] :: L)) := Sep.pick (L := [_, _, _, _, _, _, _, _, _]) [2, 3, 0, 4, 5, 6, 7, 8, 1] (by decide) rfl hS7
    have hPat8 : W6At pb kind P w0 w7 (blkE g 69 [.int .i64 k, .int .i64 i, .slice KA key.length ka, .int .i64 ck, .slice VA val.length va, .int .i64 pg, .int .i64 ct] :: L) q := ⟨p, r, u, v, l, lv, cv, came, wv, want, pv, pics, hv, hS8, HB.out⟩
    have hbg : OBlk w7 g 69 [.int .i64 k, .int .i64 i, .slice KA key.length ka, .int .i64 ck, .slice VA val.length va, .int .i64 pg, .int .i64 ct] := hS7.tail.head
    have b0 := hbg.cell' (j := 0) rfl
    have b2 := hbg.cell' (j := 2) rfl
    have b3 := hbg.cell' (j := 3) rfl
    have b4 := hbg.cell' (j := 4) rfl
    have b5 := hbg.cell' (j := 5) rfl
    have b6 := hbg.cell' (j := 6) rfl
    generalize findF key (pcs l) = F at *
    generalize isF key (pcs l) = FB at *
    have hC := lent_sep hPat8 HK 1 (F : Int) ⟨by omega, by omega⟩ ⟨.slice KA key.length ka, .slice VA val.length va, ⟨key, ck, val, pg, ct⟩⟩ hXg
    unfold cellV at hC
    simp only at hC
    have hself : (FB == FB) = true := by simp
    go_wp2_with (first
      | (go_at_call 62; (with_reducible refine hC.mono ?_); rintro e w9 ⟨rfl, hP9⟩)
      | fail)
    go_ret
    first
      | exact ⟨rfl, hP9.drop.mono⟩
      | exact ⟨rfl, hPat8.drop.mono⟩
  have e6 := kind_ne k6
  clear k6
  by_cases k7 : k = 7
  · have e7 := kind_eq k7
    clear k7
    have hS4 : Sep w0 w1 (pgE p kind P (sizeF (pcs l) : Nat) u l :: w6P pb p r cv wv pv hv :: blkE g 69 [.int .i64 k, .int .i64 i, .slice KA key.length ka, .int .i64 ck, .slice VA val.length va, .int .i64 pg, .int .i64 ct] :: rpE r kind P v lv :: csE cv came :: csE wv want :: ownE 27 1 pv pics.length (pics.map Prod.fst) :: ownE 9 1 hv pics.length (pics.map fun p => strV p.2) :: allE (pics.map fun p => bytesE p.1 p.2) :: L) := Sep.pick (L := [_, _, _]) [2, 1, 0] (by decide) rfl hS1
    have k0 := OBlk.cell' (show OBlk w1 pb 66 [.pointer (some ⟨p, 0, none⟩), .pointer (some ⟨r, 0, none⟩), cv, wv, pv, hv] from hS4.tail.head) (j := 0) rfl
    have hC := PBytes_sep hS4 HB.out.rl HB.out.wk HK.kd HK.p1 HK.p2
    clear b0 b1 b2 b3 b4 b5 b6 hbx hPat hS1
    go_upto_region 25 with (first
      | (go_at_call 29; (with_reducible refine hC.mono ?_); rintro e w2 ⟨vz, rfl, hS2⟩)
      | fail)
    clear hC k0 hS4
    have hra : RdB w2 vz (laidF kind (pcs l) P) := OwB.rd (show OwB w2 0 vz (laidF kind (pcs l) P) from hS2.head)
    have hpln : isPln (laidF kind (pcs l) P) kind (pcs l) := by
      have hl := laidF_length (kind := kind) HB.out.wk.size
      refine ⟨by rw [hl]; exact HK.pw, HK.kd, by rw [hl]; exact HB.out.wk.enc, by rw [hl]⟩
    have hO : Calls Try.prog 21 #[vz] w2 fun e w' => ∃ p' u' l', e = .returned (.tuple #[.pointer (some ⟨p', 0, none⟩), .int .i64 0]) ∧ pcs l' = pcs l ∧ RngC l' ∧ Sep w0 w' (pgE p' kind P (sizeF (pcs l') : Nat) u' l' :: bytesE vz (laidF kind (pcs l) P) :: pgE p kind P (sizeF (pcs l) : Nat) u l :: w6P pb p r cv wv pv hv :: blkE g 69 [.int .i64 k, .int .i64 i, .slice KA key.length ka, .int .i64 ck, .slice VA val.length va, .int .i64 pg, .int .i64 ct] :: rpE r kind P v lv :: csE cv came :: csE wv want :: ownE 27 1 pv pics.length (pics.map Prod.fst) :: ownE 9 1 hv pics.length (pics.map fun p => strV p.2) :: allE (pics.map fun p => bytesE p.1 p.2) :: L) := by
      refine (POpen_sep hS2 hra).mono ?_
      rintro e w' (⟨kind', l', p', u', hy, hr', rfl, hS3⟩ | ⟨hn, -, -⟩)
      · obtain ⟨a1, a2⟩ := isPln_parse hy
        obtain ⟨b1, b2⟩ := isPln_parse hpln
        rw [a1] at b1
        injection b1 with b1
        rw [a2] at b2
        subst b2
        rw [laidF_length (kind := kind') HB.out.wk.size] at hS3
        exact ⟨p', u', l', rfl, b1, hr', hS3⟩
      · exact absurd hpln (hn _ _)
    obtain ⟨A1, d1, rfl, -⟩ := hra.form
    clear hra hpln
    go_upto_region 26 with (first
      | (go_at_call 21; (with_reducible refine hO.mono ?_); rintro e w3 ⟨p', u', l', rfl, hl', hr', hS3⟩)
      | fail)
    have k0 := OBlk.cell' (show OBlk w3 pb 66 [.pointer (some ⟨p, 0, none⟩), .pointer (some ⟨r, 0, none⟩), cv, wv, pv, hv] from hS3.tail.tail.tail.head) (j := 0) rfl
    have f0 := OBlk.frozen (show OBlk w3 pb 66 [.pointer (some ⟨p, 0, none⟩), .pointer (some ⟨r, 0, none⟩), cv, wv, pv, hv] from hS3.tail.tail.tail.head) (j := 0) (by simp)
    clear hO hS2
    go_wp2_with fail
    go_ret
    have hS5 := (Sep.sw3 hS3).setCell 0 (.pointer (some ⟨p', 0, none⟩))
    simp only [List.set_cons_succ, List.set_cons_zero] at hS5
    exact ⟨rfl, p', r, u', v, l', lv, cv, came, wv, want, pv, pics, hv, Sep.pick (L := [_, _, _, _, _, _]) [0, 1, 5] (by decide) rfl hS5, (HB.out.pages hr' HB.out.rv (by rw [HB.out.eq, hl']) (by rw [hl']; exact HB.out.wk)).mono⟩
  have e7 := kind_ne k7
  clear k7
  have hC := bytes_sep hPat HK hq
  go_wp2_with (first
    | (go_at_call 38; (with_reducible refine hC.mono ?_); rintro e w2 ⟨rfl, hP2⟩)
    | fail)
  go_ret
  exact ⟨rfl, hP2.drop⟩
end Go.Proofs.Ytonbcipofakpjaa
