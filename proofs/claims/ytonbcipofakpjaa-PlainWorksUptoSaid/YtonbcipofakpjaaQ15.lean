/- Texts joined: plain.Page.Cell, in words of pieces; espalierref06.Copied; the document's page as a piece; its with; espalierref06.Page.with; What the document's put tells, case by case; espalierref06.Page.put; The document's page; The document's page; The document's page -/
import Derived.Test.YtonbcipofakpjaaQ6
import Derived.Test.YtonbcipofakpjaaQ7
import Derived.Test.YtonbcipofakpjaaQ11
import Derived.Test.YtonbcipofakpjaaQ12
import Derived.Test.YtonbcipofakpjaaQ14
-- plain.Page.Cell, in words of pieces: the walk.
namespace Go.Proofs.Ytonbcipofakpjaa
open Go.RowKit
def RngY (c : PC) : Prop := i64r c.kind ∧ i64r c.page ∧ i64r c.count
/-- What Cell tells and leaves. -/
def CellPost (w0 : World) (L : List Ent) (z : Int) (c : PC) (e : Ending) (w' : World) : Prop :=
  ∃ y : CV, e = .returned (.tuple #[cellV y, .int .i64 z]) ∧ y.c = c ∧ RngY c ∧ Sep w0 w' (bytesE y.kv y.c.key :: bytesE y.vv y.c.val :: L)
theorem Sep.pushIn2 {w0 w : World} {a b c d : Ent} {T L : List Ent} (h : Sep w0 w (a :: b :: c :: d :: (T ++ L))) : Sep w0 w (a :: b :: (T ++ c :: d :: L)) := h.perm ((List.perm_append_comm_assoc [c, d] T L).cons _ |>.cons _)
set_option maxRecDepth 100000 in
set_option maxHeartbeats 600000 in
theorem PCell_sep {w0 w : World} {L : List Ent} {p P : Nat} {kind : Int} {u : Value} {l : List CV} (hS : Sep w0 w (pgE p kind P (sizeF (pcs l) : Nat) u l :: L)) (hr : RngC l) (hk : Wk kind P (pcs l)) (hP : P ≤ 65536) (i : Int) (hi64 : i64r i) :
    Calls Try.prog 65 #[.pointer (some ⟨p, 0, none⟩), .int .i64 i] w (CellPost w0 (pgE p kind P (sizeF (pcs l) : Nat) u l :: L) (cellZ (pcs l) i) (cellC (pcs l) i)) := by
  have hlen := hk.len hP
  rw [pcs_length] at hlen
  have hS1 := hS.pgOpen.alloc 32 [.slice none 0 0, .int .i64 0, .slice none 0 0, .int .i64 0, .int .i64 0]
  have hrd := hS1.openRd (u := u) (l := l) (by simp) (fun E hE => by simp [hE]) hr
  obtain ⟨U, uc, rfl, hm, hc⟩ := hrd.slice
  have hbp : OBlk _ p 89 [.int .i64 kind, .int .i64 (P : Int), .int .i64 (sizeF (pcs l) : Nat), .slice U l.length uc] := hS1.tail.head
  have hbr := hS1.blk
  obtain ⟨b0, b1, b2, b3⟩ := cells4 hbp
  obtain ⟨d0, d1, d2, d3, d4⟩ := cells5 hbr
  obtain ⟨f0, f1, f2, f3, f4⟩ := froz5 hbr
  by_cases hin : i < 0 ∨ (l.length : Int) ≤ i
  · have hz : cellZ (pcs l) i = 64 := by unfold cellZ; rw [if_pos (by rw [pcs_length]; exact hin)]
    have hz2 : cellC (pcs l) i = ⟨[], 0, [], 0, 0⟩ := by unfold cellC; rw [if_pos (by rw [pcs_length]; exact hin)]
    rw [hz, hz2]
    have hS2 := hS1
    clear hz hz2 hrd hbp hbr hS hS1
    have hfin : ∀ w', Sep w0 w' (blkE w.heap.size 32 [.slice none 0 0, .int .i64 0, .slice none 0 0, .int .i64 0, .int .i64 0] :: blkE p 89 [.int .i64 kind, .int .i64 (P : Int), .int .i64 (sizeF (pcs l) : Nat), .slice U l.length uc] :: ownE 32 5 (.slice U l.length uc) l.length (flatC l) :: (cellsE l ++ L)) →
        CellPost w0 (pgE p kind P (sizeF (pcs l) : Nat) (.slice U l.length uc) l :: L) 64 ⟨[], 0, [], 0, 0⟩ (.returned (.tuple #[.agg #[.slice none 0 0, .int .i64 0, .slice none 0 0, .int .i64 0, .int .i64 0], .int .i64 64])) w' := fun w' h =>
      ⟨⟨.slice none 0 0, .slice none 0 0, ⟨[], 0, [], 0, 0⟩⟩, rfl, rfl, (by simp [RngY, i64r]), (h.tail.pgClose.nil).nil⟩
    have HF := Lib.hid hfin
    have HS2 := Lib.hid hS2
    clear hfin hS2
    rcases hin with h | h
    · go_enter Try.func65, Try.ntmps65
      go_wp2_with fail
      have hS2 := HS2.out
      obtain ⟨e0, e1, e2, e3, e4⟩ := cells5 hS2.blk
      refine bodyPost_ret (v := .tuple #[.agg #[.slice none 0 0, .int .i64 0, .slice none 0 0, .int .i64 0, .int .i64 0], .int .i64 64]) ?_ rfl (HF.out _ hS2)
      simp [results, Try.results65, go_sem, e0, e1, e2, e3, e4]
    · have h' : ¬ i < 0 := by omega
      go_enter Try.func65, Try.ntmps65
      go_wp2_with fail
      have hS2 := HS2.out
      obtain ⟨e0, e1, e2, e3, e4⟩ := cells5 hS2.blk
      refine bodyPost_ret (v := .tuple #[.agg #[.slice none 0 0, .int .i64 0, .slice none 0 0, .int .i64 0, .int .i64 0], .int .i64 64]) ?_ rfl (HF.out _ hS2)
      simp [results, Try.results65, go_sem, e0, e1, e2, e3, e4]
  · obtain ⟨k, rfl⟩ : ∃ k : Nat, i = (k : Int) := ⟨i.toNat, by omega⟩
    have hkl : k < l.length := by omega
    have hkp : k < (pcs l).length := by rw [pcs_length]; exact hkl
    have hz : cellZ (pcs l) (k : Int) = 0 := by unfold cellZ; rw [if_neg (by rw [pcs_length]; exact hin)]
    have hz2 : cellC (pcs l) (k : Int) = l[k].c := by unfold cellC; rw [if_neg (by rw [pcs_length]; exact hin), ← pcs_at hkl]; simp [List.getD, hkp]
    rw [hz, hz2]
    have hok := okc_fit (may_ok (hk.may (l[k].c) (by rw [← pcs_at hkl]; exact List.getElem_mem hkp))) hP
    have hzx := hrd.ok _ (List.getElem_mem hkl)
    obtain ⟨ad, rfl, q0, q1, q2, q3, q4⟩ := hrd.at_ hkl
    have hrz : RngY l[k].c := hr _ (List.getElem_mem hkl)
    generalize l[k] = z at *
    have hO := own_sep hS1 z hzx (by omega) (by omega)
    have i1 : ¬ (k : Int) < 0 := by omega
    have i2 : ¬ (l.length : Int) ≤ (k : Int) := by omega
    have i2' : (k : Int) < (l.length : Int) := by omega
    clear hz hz2 hin hS hk hrd hkp hS1 hbp hbr
    obtain ⟨KB, kb, VB, vb, zkey, zck, zval, zpg, zct, rfl, -, -⟩ := CV.form hzx
    unfold cellV at hO
    simp only at hO hrz ⊢
    go_enter Try.func65, Try.ntmps65
    go_wp2_with (first
      | (go_at_call 71; (with_reducible refine hO.mono ?_); rintro e w6 ⟨⟨ykv, yvv, yc⟩, rfl, hyc, hS6⟩; simp only at hyc; subst hyc; obtain ⟨K2, kc, rfl⟩ := Own.slice (show OwB w6 0 ykv zkey from hS6.head); obtain ⟨V2, vc, rfl⟩ := Own.slice (show OwB w6 0 yvv zval from hS6.tail.head); have hB6 : OBlk w6 w.heap.size 32 [.slice none 0 0, .int .i64 0, .slice none 0 0, .int .i64 0, .int .i64 0] := hS6.tail.tail.head; obtain ⟨g0, g1, g2, g3, g4⟩ := cells5 hB6; obtain ⟨h0, h1, h2, h3, h4⟩ := froz5 hB6)
      | fail)
    have hS7 := (Sep.sw2 hS6).set5 (.slice K2 zkey.length kc) (.int .i64 zck) (.slice V2 zval.length vc) (.int .i64 zpg) (.int .i64 zct)
    obtain ⟨e0, e1, e2, e3, e4⟩ := cells5 hS7.blk
    refine bodyPost_ret (v := .tuple #[.agg #[.slice K2 zkey.length kc, .int .i64 zck, .slice V2 zval.length vc, .int .i64 zpg, .int .i64 zct], .int .i64 0]) ?_ rfl ⟨⟨.slice K2 zkey.length kc, .slice V2 zval.length vc, ⟨zkey, zck, zval, zpg, zct⟩⟩, rfl, rfl, hrz, ?_⟩
    · simp [results, Try.results65, go_sem, e0, e1, e2, e3, e4]
    · have hS8 : Sep w0 _ (blkE p 89 [.int .i64 kind, .int .i64 (P : Int), .int .i64 (sizeF (pcs l) : Nat), .slice (some ad) l.length uc] :: ownE 32 5 (.slice (some ad) l.length uc) l.length (flatC l) :: bytesE (.slice K2 zkey.length kc) zkey :: bytesE (.slice V2 zval.length vc) zval :: (cellsE l ++ L)) := Sep.pick (L := [_, _, _, _]) [2, 3, 0, 1] (by decide) rfl hS7.tail
      exact Sep.pick (L := [_, _, _]) [1, 2, 0] (by decide) rfl hS8.pushIn2.pgClose
end Go.Proofs.Ytonbcipofakpjaa

-- espalierref06.Copied; the document's page as a piece; its with: walks.
namespace Go.Proofs.Ytonbcipofakpjaa
open Go.RowKit
theorem Sep.lift2 {w0 w w' : World} {A B : Ent} {M L : List Ent} (hS : Sep w w' (A :: B :: M)) (hm : oldE w ∈ M) (h : Sep w0 w L) : Sep w0 w' (A :: B :: L) := by
  have hb : Below w.heap.size w w' := hS.belowOld (v := w) (by simp [hm])
  refine ((h.below hb).cons (E := B) hS.tail.head hS.tail.lt (fun X hX g hg hg2 => ?_)).cons (E := A) hS.head hS.lt (fun X hX g hg hg2 => ?_)
  · exact hS.tail.far hm g hg ((h.each X hX).2 g hg2)
  · rcases List.mem_cons.1 hX with rfl | hX
    · exact hS.far (List.mem_cons_self ..) g hg hg2
    · exact hS.far (List.mem_cons_of_mem _ hm) g hg ((h.each X hX).2 g hg2)
set_option maxRecDepth 100000 in
set_option maxHeartbeats 1000000 in
theorem Copied_sep {w0 w : World} {L : List Ent} (h : Sep w0 w L) (x : CV) (hx : x.ok w) (s1 : x.c.key.length ≤ 140737488355328) (s2 : x.c.val.length ≤ 140737488355328) :
    Calls Try.prog 88 #[cellV x] w fun e w' => ∃ y : CV, e = .returned (cellV y) ∧ y.c = x.c ∧ Sep w0 w' (bytesE y.kv y.c.key :: bytesE y.vv y.c.val :: L) := by
  obtain ⟨A, ca, B, cb, key, ck, val, pg, ct, rfl, hk1, hk2⟩ := CV.form hx
  have hxk : RdB w (.slice A key.length ca) key := hx.k
  have hxv : RdB w (.slice B val.length cb) val := hx.v
  have hS1 := (((Sep.start w).alloc 32 [.slice A key.length ca, .int .i64 ck, .slice B val.length cb, .int .i64 pg, .int .i64 ct])).alloc 32 [.slice none 0 0, .int .i64 0, .slice none 0 0, .int .i64 0, .int .i64 0]
  have hz1 : (w.alloc (.cells [.slice A key.length ca, .int .i64 ck, .slice B val.length cb, .int .i64 pg, .int .i64 ct].toArray 32)).heap.size = w.heap.size + 1 := World.size_alloc _ _
  rw [hz1] at hS1
  simp only at s1 s2
  unfold cellV
  go_enter Try.func88, Try.ntmps88
  go_upto_region 1 with (fail)
  have hm1 : oldE w ∈ [blkE (w.heap.size + 1) 32 [.slice none 0 0, .int .i64 0, .slice none 0 0, .int .i64 0, .int .i64 0], blkE w.heap.size 32 [.slice A key.length ca, .int .i64 ck, .slice B val.length cb, .int .i64 pg, .int .i64 ct], oldE w] := by simp
  generalize hW1 : (w.alloc (.cells #[.slice A key.length ca, .int .i64 ck, .slice B val.length cb, .int .i64 pg, .int .i64 ct] 32)).alloc (.cells #[.slice none 0 0, .int .i64 0, .slice none 0 0, .int .i64 0, .int .i64 0] 32) = w1 at *
  clear hW1 hz1
  have hkr := hS1.rd hm1 hxk
  have hC1 : OBlk w1 w.heap.size 32 [.slice A key.length ca, .int .i64 ck, .slice B val.length cb, .int .i64 pg, .int .i64 ct] := hS1.tail.head
  obtain ⟨c0, c1, c2, c3, c4⟩ := cells5 hC1
  go_upto_region 2 with (first
    | (at_builtin; refine wp_append_B rfl (.const (.slice none 0 0)) (.tmp 4) rfl 0 _ [] rfl (OwB.nil _ _) _ key rfl hkr (by simp; omega) (Nat.zero_le _) ?_; intro v2 w2 ho2 hg2 hk2; rw [List.nil_append] at ho2; obtain ⟨K2, kc2, hns2⟩ := Own.slice ho2; subst hns2; have hS2 := (hS1.nil).appended ho2 hg2 hk2; obtain ⟨e0, e1, e2, e3, e4⟩ := cells5 (show OBlk w2 w.heap.size 32 [.slice A key.length ca, .int .i64 ck, .slice B val.length cb, .int .i64 pg, .int .i64 ct] from hS2.tail.tail.head); obtain ⟨f0, f1, f2, f3, f4⟩ := froz5 (show OBlk w2 w.heap.size 32 [.slice A key.length ca, .int .i64 ck, .slice B val.length cb, .int .i64 pg, .int .i64 ct] from hS2.tail.tail.head))
    | fail)
  have hS3 : Sep w _ (blkE w.heap.size 32 [.slice K2 key.length kc2, .int .i64 ck, .slice B val.length cb, .int .i64 pg, .int .i64 ct] :: bytesE (.slice K2 key.length kc2) key :: blkE (w.heap.size + 1) 32 [.slice none 0 0, .int .i64 0, .slice none 0 0, .int .i64 0, .int .i64 0] :: [oldE w]) := (Sep.sw2 hS2).setCell 0 (.slice K2 key.length kc2)
  clear hS2 hS1 hC1 c0 c1 c2 c3 c4 e0 e1 e2 e3 e4 f0 f1 f2 f3 f4 hm1 hkr ho2 hg2 hk2
  generalize w2.setCell ⟨w.heap.size, 0, none⟩ (.slice K2 key.length kc2) = w3 at *
  have hvr := hS3.rd (v := w) (by simp) hxv
  obtain ⟨c0, c1, c2, c3, c4⟩ := cells5 hS3.blk
  go_upto_region 3 with (first
    | (at_builtin; refine wp_append_B rfl (.const (.slice none 0 0)) (.tmp 8) rfl 0 _ [] rfl (OwB.nil _ _) _ val rfl hvr (by simp; omega) (Nat.zero_le _) ?_; intro v4 w4 ho4 hg4 hk4; rw [List.nil_append] at ho4; obtain ⟨V4, vc4, hns4⟩ := Own.slice ho4; subst hns4; have hS4 := (hS3.nil).appended ho4 hg4 hk4; obtain ⟨e0, e1, e2, e3, e4⟩ := cells5 (show OBlk w4 w.heap.size 32 [.slice K2 key.length kc2, .int .i64 ck, .slice B val.length cb, .int .i64 pg, .int .i64 ct] from hS4.tail.head); obtain ⟨f0, f1, f2, f3, f4⟩ := froz5 (show OBlk w4 w.heap.size 32 [.slice K2 key.length kc2, .int .i64 ck, .slice B val.length cb, .int .i64 pg, .int .i64 ct] from hS4.tail.head))
    | fail)
  have hS5 : Sep w _ (blkE w.heap.size 32 [.slice K2 key.length kc2, .int .i64 ck, .slice V4 val.length vc4, .int .i64 pg, .int .i64 ct] :: bytesE (.slice V4 val.length vc4) val :: bytesE (.slice K2 key.length kc2) key :: blkE (w.heap.size + 1) 32 [.slice none 0 0, .int .i64 0, .slice none 0 0, .int .i64 0, .int .i64 0] :: [oldE w]) := (Sep.sw1 hS4).setCell 2 (.slice V4 val.length vc4)
  clear hS4 hS3 c0 c1 c2 c3 c4 e0 e1 e2 e3 e4 f0 f1 f2 f3 f4 hvr ho4 hg4 hk4
  generalize w4.setCell ⟨w.heap.size, 2, none⟩ (.slice V4 val.length vc4) = w5 at *
  obtain ⟨c0, c1, c2, c3, c4⟩ := cells5 hS5.blk
  have hR5 : OBlk w5 (w.heap.size + 1) 32 [.slice none 0 0, .int .i64 0, .slice none 0 0, .int .i64 0, .int .i64 0] := hS5.tail.tail.tail.head
  obtain ⟨r0, r1, r2, r3, r4⟩ := cells5 hR5
  obtain ⟨f0, f1, f2, f3, f4⟩ := froz5 hR5
  go_wp2_with fail
  have hS6 := (Sep.sw3 hS5).set5 (.slice K2 key.length kc2) (.int .i64 ck) (.slice V4 val.length vc4) (.int .i64 pg) (.int .i64 ct)
  obtain ⟨e0, e1, e2, e3, e4⟩ := cells5 hS6.blk
  refine bodyPost_ret (v := .agg #[.slice K2 key.length kc2, .int .i64 ck, .slice V4 val.length vc4, .int .i64 pg, .int .i64 ct]) ?_ rfl ⟨⟨.slice K2 key.length kc2, .slice V4 val.length vc4, ⟨key, ck, val, pg, ct⟩⟩, rfl, rfl, ?_⟩
  · simp [results, Try.results88, go_sem, e0, e1, e2, e3, e4]
  · exact Sep.lift2 (hS6.tail.tail.sw1) (List.mem_singleton.2 rfl) h
/-- The document's page. -/
def rpE (r : Nat) (kind : Int) (P : Nat) (v : Value) (l : List CV) : Ent := allE [blkE r 92 [.int .i64 kind, .int .i64 (P : Int), v], csE v l]
theorem Sep.rpOpen {w0 w : World} {L : List Ent} {p P : Nat} {kind : Int} {u : Value} {l : List CV} (h : Sep w0 w (rpE p kind P u l :: L)) :
    Sep w0 w (blkE p 92 [.int .i64 kind, .int .i64 (P : Int), u] :: ownE 32 5 u l.length (flatC l) :: (cellsE l ++ L)) := by
  have h1 : Sep w0 w (blkE p 92 [.int .i64 kind, .int .i64 (P : Int), u] :: csE u l :: L) := h.unpack
  exact (Sep.unpack (D := ownE 32 5 u l.length (flatC l) :: cellsE l) h1.sw1).perm List.perm_middle
theorem Sep.rpShut {w0 w : World} {L : List Ent} {p P : Nat} {kind : Int} {u : Value} {l : List CV} (h : Sep w0 w (blkE p 92 [.int .i64 kind, .int .i64 (P : Int), u] :: csE u l :: L)) : Sep w0 w (rpE p kind P u l :: L) := Sep.pack (D := [_, _]) h
theorem Sep.rpClose {w0 w : World} {L : List Ent} {p P : Nat} {kind : Int} {u : Value} {l : List CV} (h : Sep w0 w (blkE p 92 [.int .i64 kind, .int .i64 (P : Int), u] :: ownE 32 5 u l.length (flatC l) :: (cellsE l ++ L))) : Sep w0 w (rpE p kind P u l :: L) :=
  Sep.rpShut ((Sep.pack (D := ownE 32 5 u l.length (flatC l) :: cellsE l) (h.perm (List.perm_middle (l₁ := ownE 32 5 u l.length (flatC l) :: cellsE l)).symm)).sw1)
theorem cells3 {w : World} {g : Nat} {T : TypeId} {a0 a1 a2 : Value} (h : OBlk w g T [a0, a1, a2]) : w.cell? ⟨g, 0, none⟩ = some a0 ∧ w.cell? ⟨g, 1, none⟩ = some a1 ∧ w.cell? ⟨g, 2, none⟩ = some a2 := ⟨h.cell 0, h.cell 1, h.cell 2⟩
theorem Sep.appC {w0 w w' : World} {L : List Ent} {v v' : Value} {n m : Nat} {xs ys : List Value} (h : Sep w0 w (ownE 32 5 v n xs :: L)) (ho : Own w' 0 32 5 v' m ys) (hg : w.grownBy w' v.ownBlock) (hk : v'.ownBlock = v.ownBlock ∨ ∃ k, v'.ownBlock = some k ∧ w.heap.size ≤ k) : Sep w0 w' (ownE 32 5 v' m ys :: L) :=
  h.upd (Turn.of_grown hg (fun _ e => e)) ho (fun g hg' => ⟨by
    rcases hk with e | ⟨k, e, hk⟩
    · exact .inl (e.symm.trans hg' : v.ownBlock = some g)
    · right
      have := e.symm.trans hg'
      injection this with this
      omega, (Own.lt ho g hg').2⟩)
theorem Sep.nilC {w0 w : World} {L : List Ent} (h : Sep w0 w L) : Sep w0 w (ownE 32 5 (.slice none 0 0) 0 [] :: L) :=
  h.cons (Own.nil w 0 _ _) (fun g hg => by cases hg) (fun _ _ g hg => by cases hg)
end Go.Proofs.Ytonbcipofakpjaa

-- espalierref06.Page.with: the walk.
namespace Go.Proofs.Ytonbcipofakpjaa
open Go.RowKit
@[irreducible] def slX (U : Option Addr) (c lo : Nat) : Option Addr := if c = lo then U else U.map (·.add (lo * 5))
theorem slX_run (U : Option Addr) (n c lo : Nat) (h : lo ≤ n) (w : World) : (Instr.slice 25 (.slice U n c) (some (.int .i64 (lo : Int))) none none).run Try.prog w = .ok (.slice (slX U c lo) (n - lo) (c - lo)) w := by
  have := run_slice_l (P := Try.prog) w 25 U n c Cell_elem .i64 lo (by omega) (by omega)
  unfold slX
  rw [this, Cell_sizeOf]
  simp [Result.andThen, sliced]
theorem RdCs.cutX {w : World} {U : Option Addr} {n c lo : Nat} {l : List CV} (h : RdCs w (.slice U n c) l) (h1 : lo ≤ l.length) : RdCs w (.slice (slX U c lo) (l.length - lo) (c - lo)) (l.drop lo) := by
  have hr := h.cut h1 (Nat.le_refl _)
  rw [List.take_length] at hr
  unfold slX
  exact hr
set_option maxRecDepth 100000 in
set_option maxHeartbeats 2000000 in
theorem with_sep {w0 w : World} {L : List Ent} {r P : Nat} {kind : Int} {u : Value} {l : List CV} (hS : Sep w0 w (blkE r 92 [.int .i64 kind, .int .i64 (P : Int), u] :: ownE 32 5 u l.length (flatC l) :: (cellsE l ++ L))) (hr : RngC l) (hlen : l.length ≤ 32768) (x : CV) (hx : XIn L x) (i gone : Nat) (hi : i + gone ≤ l.length) :
    Calls Try.prog 96 #[.pointer (some ⟨r, 0, none⟩), .int .i64 (i : Int), .int .i64 (gone : Int), cellV x] w fun e w' => ∃ (v : Value) (y : CV), e = .returned v ∧ y.c = x.c ∧
      Sep w0 w' (bytesE y.kv y.c.key :: bytesE y.vv y.c.val :: ownE 32 5 v (l.take i ++ y :: l.drop (i + gone)).length (flatC (l.take i ++ y :: l.drop (i + gone))) :: blkE r 92 [.int .i64 kind, .int .i64 (P : Int), u] :: ownE 32 5 u l.length (flatC l) :: (cellsE l ++ L)) := by
  have hS1 := hS.alloc 32 [x.kv, .int .i64 x.c.kind, x.vv, .int .i64 x.c.page, .int .i64 x.c.count]
  have hx1 := hx.ok hS1 (fun E hE => by simp [hE])
  have hrd := hS1.openRd (u := u) (l := l) (by simp) (fun E hE => by simp [hE]) hr
  obtain ⟨U, uc, rfl, hm, hc⟩ := hrd.slice
  have hbp : OBlk _ r 92 [.int .i64 kind, .int .i64 (P : Int), .slice U l.length uc] := hS1.tail.head
  obtain ⟨b0, b1, b2⟩ := cells3 hbp
  obtain ⟨A1, c1, s1, hr1⟩ := hrd.run_h i (by omega)
  obtain ⟨A2, hA2⟩ : ∃ X, slX U uc (i + gone) = X := ⟨_, rfl⟩
  have s2 := fun W => slX_run U l.length uc (i + gone) hi W
  rw [hA2] at s2
  have HA2 := Lib.hid hA2
  clear hA2
  have hfl1 := flatC_one hrd.ok
  have hfl : ∀ v ∈ flatC l, v.oneCell' = true := hfl1
  have ht1 : (l.take i).length = i := by rw [List.length_take]; omega
  have hd1 : (l.drop (i + gone)).length = l.length - (i + gone) := List.length_drop
  have i3 : IntKind.i64.wrap ((i : Int) + (gone : Int)) = (i : Int) + (gone : Int) := by rw [IntKind.wrap_i64]; omega
  have s2' : ∀ W, (Instr.slice 25 (.slice U l.length uc) (some (.int .i64 ((i : Int) + (gone : Int)))) none none).run Try.prog W = .ok (.slice A2 (l.length - (i + gone)) (uc - (i + gone))) W := s2
  clear hS s2
  obtain ⟨KA, ka, VA, va, key, ck, val, pg, ct, rfl, -, -⟩ := CV.form hx1
  have HX := Lib.hid hx
  simp only at hS1 hx1
  have hrt := hr1.form
  rw [ht1] at hrt
  unfold cellV
  clear hx hrd hr1
  go_enter Try.func96, Try.ntmps96
  go_upto_region 2 with (fail)
  generalize hW1 : w.alloc (.cells #[.slice KA key.length ka, .int .i64 ck, .slice VA val.length va, .int .i64 pg, .int .i64 ct] 32) = w1 at *
  obtain ⟨bx, hbx⟩ : ∃ b, w.heap.size = b := ⟨_, rfl⟩
  rw [hbx] at hS1 ⊢
  clear hbx hW1
  go_upto_region 3 with (first
    | (at_builtin; refine wp_append_C rfl (.tmp 10) (.tmp 16) rfl 0 _ [] rfl (Own.nil _ _ _ _) (.slice A1 i c1) (l.take i) rfl (by rw [ht1]; exact hrt) (fun v hv => hfl v (by rw [flatC_take] at hv; exact List.mem_of_mem_take hv)) (by simp; omega) (Nat.zero_le _) ?_; intro v2 w2 ho2 hg2 hk2; rw [List.nil_append, ht1] at ho2; obtain ⟨B2, bc2, hns2⟩ := Own.slice ho2; subst hns2; have hS2 := (hS1.nilC).appC ho2 hg2 (by rcases hk2 with e | e; exact .inl e; exact .inr ⟨_, e, Nat.le_refl _⟩))
    | fail)
  clear hS1 ho2 hg2 hk2 b0 b1 b2 hbp hx1 hrt
  have hC2 : OBlk w2 bx 32 [.slice KA key.length ka, .int .i64 ck, .slice VA val.length va, .int .i64 pg, .int .i64 ct] := hS2.tail.head
  obtain ⟨c0, c1', c2', c3, c4⟩ := cells5 hC2
  have hC := Copied_sep hS2 _ (HX.out.ok hS2 (fun E hE => by simp [hE])) HX.out.s1 HX.out.s2
  unfold cellV at hC
  simp only at hC
  clear hC2
  go_upto_region 4 with (first
    | (go_at_call 88; (with_reducible refine hC.mono ?_); rintro e w3 ⟨⟨ykv, yvv, yc⟩, rfl, hyc, hS3⟩; simp only at hyc; subst hyc; obtain ⟨K2, kc, rfl⟩ := Own.slice (show OwB w3 0 ykv key from hS3.head); obtain ⟨V2, vc, rfl⟩ := Own.slice (show OwB w3 0 yvv val from hS3.tail.head); have hone := cells_one (x := ⟨.slice K2 key.length kc, .slice V2 val.length vc, ⟨key, ck, val, pg, ct⟩⟩) (show OwB w3 0 (.slice K2 key.length kc) key from hS3.head) (show OwB w3 0 (.slice V2 val.length vc) val from hS3.tail.head); have hfive := Rd.five w3 (.slice K2 key.length kc) (.int .i64 ck) (.slice V2 val.length vc) (.int .i64 pg) (.int .i64 ct) 32; have hS4 := hS3.alloc 32 [.slice K2 key.length kc, .int .i64 ck, .slice V2 val.length vc, .int .i64 pg, .int .i64 ct])
    | (at_builtin; refine wp_append_C rfl (.tmp 18) (.tmp 21) rfl 0 (.slice B2 i bc2) (l.take i) rfl (by rw [ht1]; exact hS4.of_mem (E := ownE 32 5 (.slice B2 i bc2) i (flatC (l.take i))) (by simp)) (.slice (some ⟨w3.heap.size, 0, none⟩) 1 1) [⟨.slice K2 key.length kc, .slice V2 val.length vc, ⟨key, ck, val, pg, ct⟩⟩] rfl hfive (by simpa [flatC] using hone) (by rw [ht1]; simp; omega) (Nat.zero_le _) ?_; intro v5 w5 ho5 hg5 hk5; rw [List.length_append, ht1, List.length_singleton] at ho5; obtain ⟨B5, bc5, hns5⟩ := Own.slice ho5; subst hns5; have hS5 := (Sep.sw3 hS4).appC ho5 hg5 (by rcases hk5 with e | e; exact .inl e; exact .inr ⟨_, e, Nat.le_refl _⟩))
    | fail)
  clear hS4 hS3 ho5 hg5 hk5 hC hfive hS2 c0 c1' c2' c3 c4
  have hrd5 := hS5.openRd (u := .slice U l.length uc) (l := l) (by simp) (fun E hE => by simp [hE]) hr
  have hB5 : OBlk w5 r 92 [.int .i64 kind, .int .i64 (P : Int), .slice U l.length uc] := hS5.of_mem (E := blkE r 92 [.int .i64 kind, .int .i64 (P : Int), .slice U l.length uc]) (by simp)
  obtain ⟨b0, b1, b2⟩ := cells3 hB5
  have hd5 := (hrd5.cutX hi).form
  rw [HA2.out] at hd5
  have hO5 : Own w5 0 32 5 (.slice B5 (i + 1) bc5) (l.take i ++ [(⟨.slice K2 key.length kc, .slice V2 val.length vc, ⟨key, ck, val, pg, ct⟩⟩ : CV)]).length (flatC (l.take i ++ [(⟨.slice K2 key.length kc, .slice V2 val.length vc, ⟨key, ck, val, pg, ct⟩⟩ : CV)])) := by
    rw [List.length_append, ht1, List.length_singleton]; exact hS5.head
  clear hrd5 hB5
  go_wp2_with (first
    | (at_builtin; refine wp_append_C rfl (.tmp 23) (.tmp 31) rfl 0 (.slice B5 (i + 1) bc5) (l.take i ++ [⟨.slice K2 key.length kc, .slice V2 val.length vc, ⟨key, ck, val, pg, ct⟩⟩]) rfl hO5 (.slice A2 (l.length - (i + gone)) (uc - (i + gone))) (l.drop (i + gone)) rfl hd5 (fun v hv => hfl v (by rw [flatC_drop] at hv; exact List.mem_of_mem_drop hv)) (by rw [List.length_append, ht1, hd1]; simp; omega) (Nat.zero_le _) ?_; intro v6 w6 ho6 hg6 hk6; have hS6 := hS5.appC ho6 hg6 (by rcases hk6 with e | e; exact .inl e; exact .inr ⟨_, e, Nat.le_refl _⟩))
    | fail)
  go_ret
  have e1 : (l.take i ++ [(⟨.slice K2 key.length kc, .slice V2 val.length vc, ⟨key, ck, val, pg, ct⟩⟩ : CV)]) ++ l.drop (i + gone) = l.take i ++ (⟨.slice K2 key.length kc, .slice V2 val.length vc, ⟨key, ck, val, pg, ct⟩⟩ : CV) :: l.drop (i + gone) := by simp
  rw [e1] at hS6
  exact ⟨v6, ⟨.slice K2 key.length kc, .slice V2 val.length vc, ⟨key, ck, val, pg, ct⟩⟩, rfl, rfl, Sep.pick (L := [_, _, _, _, _, _]) [2, 3, 0, 5] (by decide) rfl hS6⟩
end Go.Proofs.Ytonbcipofakpjaa

-- What the document's put tells, case by case: plain laws.
namespace Go.Proofs.Ytonbcipofakpjaa
theorem rises_iff {l : List PC} {i gone : Nat} {c : PC} (hs : Rising l) (hi : i + gone ≤ l.length) : Rising (withF l i gone c) ↔ ¬ (0 ≤ leftO l i c ∨ 0 ≤ rightO l (i + gone) c) := by
  rw [with_rises hs hi]
  constructor
  · rintro ⟨h1, h2⟩ h
    rcases h with h | h
    · unfold leftO at h
      split at h
      · rename_i hc; have := h1 hc.1; omega
      · omega
    · unfold rightO at h
      split at h
      · rename_i hc; have := h2 hc; omega
      · omega
  · intro h
    refine ⟨fun h1 => ?_, fun h1 => ?_⟩
    · have : ¬ 0 ≤ leftO l i c := fun e => h (.inl e)
      unfold leftO at this
      rw [dif_pos ⟨h1, by omega⟩] at this
      omega
    · have : ¬ 0 ≤ rightO l (i + gone) c := fun e => h (.inr e)
      unfold rightO at this
      rw [dif_pos h1] at this
      omega
section
variable {kind : Int} {P : Nat} {l : List PC} {i gone : Nat} {c : PC}
theorem put62 (h : mayP kind P c = false) : putE kind P l i gone c = 62 := if_pos h
theorem put63 (h : mayP kind P c = true) (hs : Rising l) (hi : i + gone ≤ l.length) (h2 : ¬ Rising (withF l i gone c)) : putE kind P l i gone c = 63 := by
  unfold putE
  rw [if_neg (by rw [h]; simp), if_pos (by rw [rises_iff hs hi] at h2; exact Classical.not_not.1 h2)]
theorem put61 (h : mayP kind P c = true) (hs : Rising l) (hi : i + gone ≤ l.length) (h2 : Rising (withF l i gone c)) (h3 : P < sizeF (withF l i gone c)) : putE kind P l i gone c = 61 := by
  unfold putE
  rw [if_neg (by rw [h]; simp), if_neg ((rises_iff hs hi).1 h2), if_pos h3]
theorem put0 (h : mayP kind P c = true) (hs : Rising l) (hi : i + gone ≤ l.length) (h2 : Rising (withF l i gone c)) (h3 : ¬ P < sizeF (withF l i gone c)) : putE kind P l i gone c = 0 := by
  unfold putE
  rw [if_neg (by rw [h]; simp), if_neg ((rises_iff hs hi).1 h2), if_neg h3]
theorem Wk.withLen (h : Wk kind P l) (hP : P ≤ 65536) (hi : i + gone ≤ l.length) : (withF l i gone c).length ≤ 32769 := by
  have := h.len hP
  unfold withF
  simp only [List.length_append, List.length_take, List.length_cons, List.length_drop]
  omega
end
end Go.Proofs.Ytonbcipofakpjaa

-- espalierref06.Page.put: the walk.
namespace Go.Proofs.Ytonbcipofakpjaa
open Go.RowKit
/-- What Insert, Set, Remove tell and leave. -/
def RpPost (w0 : World) (L : List Ent) (r P : Nat) (kind z : Int) (lp : List PC) (e : Ending) (w' : World) : Prop :=
  ∃ u' l', e = .returned (.int .i64 z) ∧ pcs l' = lp ∧ RngC l' ∧ Sep w0 w' (rpE r kind P u' l' :: L)
theorem Sep.csWith {w0 w : World} {L : List Ent} {v : Value} {l : List CV} {y : CV} {i gone N : Nat} (hg : gone ≤ 1) (hi : i + gone ≤ l.length) (hN : (l.take i ++ y :: l.drop (i + gone)).length = N)
    (h : Sep w0 w (bytesE y.kv y.c.key :: bytesE y.vv y.c.val :: ownE 32 5 v N (flatC (l.take i ++ y :: l.drop (i + gone))) :: (cellsE l ++ L))) : Sep w0 w (csE v (l.take i ++ y :: l.drop (i + gone)) :: L) := by
  rcases Nat.le_one_iff_eq_zero_or_eq_one.1 hg with rfl | rfl
  · exact Sep.csIns hN h
  · exact Sep.csSet hN (by omega) h
set_option maxRecDepth 100000 in
set_option maxHeartbeats 800000 in
theorem put_sep {w0 w : World} {L : List Ent} {r P : Nat} {kind : Int} {u : Value} {l : List CV} (hS : Sep w0 w (rpE r kind P u l :: L)) (hr : RngC l) (hk : Wk kind P (pcs l)) (hkd : kind = 2 ∨ kind = 3) (hP : P ≤ 65536) (x : CV) (hx : XIn L x) (i : Int) (hi64 : i64r i) (gone : Nat) (hg1 : gone ≤ 1) :
    Calls Try.prog 94 #[.pointer (some ⟨r, 0, none⟩), .int .i64 i, .int .i64 (gone : Int), cellV x] w (RpPost w0 L r P kind (insZ kind P (pcs l) i gone x.c) (insL kind P (pcs l) i gone x.c)) := by
  have hlen := hk.len hP
  rw [pcs_length] at hlen
  have hS0 := hS.rpOpen
  have hS1 := hS0.alloc 32 [x.kv, .int .i64 x.c.kind, x.vv, .int .i64 x.c.page, .int .i64 x.c.count]
  have hx1 := hx.ok hS1 (fun E hE => by simp [hE])
  have hrd := hS1.openRd (u := u) (l := l) (by simp) (fun E hE => by simp [hE]) hr
  obtain ⟨U, uc, rfl, hm, hc⟩ := hrd.slice
  have hbp : OBlk _ r 92 [.int .i64 kind, .int .i64 (P : Int), .slice U l.length uc] := hS1.tail.head
  obtain ⟨b0, b1, b2⟩ := cells3 hbp
  have i0 : IntKind.i64.wrap ((l.length : Int) - (gone : Int)) = (l.length : Int) - (gone : Int) := by rw [IntKind.wrap_i64]; omega
  by_cases hin : i < 0 ∨ (l.length : Int) - gone < i
  · have hz : insZ kind P (pcs l) i gone x.c = 64 := insZ_out (by rw [pcs_length]; omega)
    rw [hz]
    have HL2 : Hid (pcs l = insL kind P (pcs l) i gone x.c) := Lib.hid (by rw [insL_ne (by rw [hz]; omega)])
    have hS2 := hS1.tail
    clear hz hS1 hx1 hrd hbp hS hS0
    unfold cellV
    rcases hin with h | h
    · go_enter Try.func94, Try.ntmps94
      go_wp2_with fail
      go_ret
      exact ⟨_, l, rfl, HL2.out, hr, hS2.rpClose⟩
    · have h' : ¬ i < 0 := by omega
      go_enter Try.func94, Try.ntmps94
      go_wp2_with fail
      go_ret
      exact ⟨_, l, rfl, HL2.out, hr, hS2.rpClose⟩
  · obtain ⟨k, rfl⟩ : ∃ k : Nat, i = (k : Int) := ⟨i.toNat, by omega⟩
    have hkl : k + gone ≤ l.length := by omega
    have hkp : k + gone ≤ (pcs l).length := by rw [pcs_length]; exact hkl
    have hz : insZ kind P (pcs l) (k : Int) gone x.c = putE kind P (pcs l) k gone x.c := insZ_in hkp
    have HL2 : Hid (insZ kind P (pcs l) (k : Int) gone x.c ≠ 0 → pcs l = insL kind P (pcs l) (k : Int) gone x.c) := Lib.hid (fun e => by rw [insL_ne e])
    have HL3 : Hid (insZ kind P (pcs l) (k : Int) gone x.c = 0 → ∀ y : CV, y.c = x.c → pcs (l.take k ++ y :: l.drop (k + gone)) = insL kind P (pcs l) (k : Int) gone x.c) := Lib.hid (fun e y hy => by
      rw [insL_eq e, pcs_with l k gone y, hy]; rfl)
    have HW : ∀ y : CV, Hid (y.c = x.c → pcs (l.take k ++ y :: l.drop (k + gone)) = withF (pcs l) k gone x.c) := fun y => Lib.hid (fun hy => by rw [pcs_with, hy])
    have H62 : Hid (mayP kind P x.c = false → insZ kind P (pcs l) (k : Int) gone x.c = 62) := Lib.hid (fun h => by rw [hz]; exact put62 h)
    have H63 : Hid (mayP kind P x.c = true → ¬ Rising (withF (pcs l) k gone x.c) → insZ kind P (pcs l) (k : Int) gone x.c = 63) := Lib.hid (fun h h2 => by rw [hz]; exact put63 h hk.rise hkp h2)
    have H61 : Hid (mayP kind P x.c = true → Rising (withF (pcs l) k gone x.c) → P < sizeF (withF (pcs l) k gone x.c) → insZ kind P (pcs l) (k : Int) gone x.c = 61) := Lib.hid (fun h h2 h3 => by rw [hz]; exact put61 h hk.rise hkp h2 h3)
    have H0 : Hid (mayP kind P x.c = true → Rising (withF (pcs l) k gone x.c) → ¬ P < sizeF (withF (pcs l) k gone x.c) → insZ kind P (pcs l) (k : Int) gone x.c = 0) := Lib.hid (fun h h2 h3 => by rw [hz]; exact put0 h hk.rise hkp h2 h3)
    have HFIT : Hid (mayP kind P x.c = true → Fit (withF (pcs l) k gone x.c)) := Lib.hid (fun h => fit_of (P := P) (fun c hc => by
      unfold withF at hc
      rcases List.mem_append.1 hc with hc | hc
      · exact may_ok (hk.may c (List.mem_of_mem_take hc))
      · rcases List.mem_cons.1 hc with rfl | hc
        · exact may_ok h
        · exact may_ok (hk.may c (List.mem_of_mem_drop hc))) hP (by have := hk.withLen (i := k) (gone := gone) (c := x.c) hP hkp; omega))
    generalize insZ kind P (pcs l) (k : Int) gone x.c = Z at *
    generalize insL kind P (pcs l) (k : Int) gone x.c = lp at *
    have hma := fun W hW => RMay_any kind P hkd hP x W hW
    have i1 : ¬ (k : Int) < 0 := by omega
    have i2 : ¬ (l.length : Int) - (gone : Int) < (k : Int) := by omega
    have hwi := fun (W : World) (hW : Sep w0 W _) => with_sep (L := L) (P := P) (kind := kind) (r := r) (u := .slice U l.length uc) (l := l) hW hr hlen x hx k gone hkl
    clear hz hin hS hS0 hk hrd hkp
    obtain ⟨KA, ka, VA, va, key, ck, val, pg, ct, rfl, -, -⟩ := CV.form hx1
    simp only at hx1 hS1 HL3 HW H62 H63 H61 H0 HFIT hma hwi ⊢
    unfold cellV at hma hwi ⊢
    simp only at hma hwi ⊢
    have HMA := Lib.hid hma
    have HX := Lib.hid hx
    have HWI := Lib.hid hwi
    clear hma hx hwi
    obtain ⟨mB, hmB⟩ : ∃ q, mayP kind P ⟨key, ck, val, pg, ct⟩ = q := ⟨_, rfl⟩
    have hma1 := HMA.out _ hx1
    simp only [hmB] at H62 H63 H61 H0 HFIT HMA
    clear hmB hma1
    obtain ⟨c0, c1, c2, c3, c4⟩ := cells5 hS1.blk
    go_enter Try.func94, Try.ntmps94
    go_upto_region 3 with (fail)
    generalize hW1 : w.alloc (.cells #[.slice KA key.length ka, .int .i64 ck, .slice VA val.length va, .int .i64 pg, .int .i64 ct] 32) = w1 at *
    clear hW1
    have hC1 : OBlk w1 w.heap.size 32 [.slice KA key.length ka, .int .i64 ck, .slice VA val.length va, .int .i64 pg, .int .i64 ct] := hS1.head
    have hcl := hC1.lt
    have hpl := hbp.lt
    have hma2 : Calls Try.prog 43 #[.int .i64 kind, .int .i64 (P : Int), .agg #[.slice KA key.length ka, .int .i64 ck, .slice VA val.length va, .int .i64 pg, .int .i64 ct]] w1.drew fun e w' => e = .returned (.bool mB) ∧ Below w1.heap.size w1.drew w' := HMA.out _ (hx1.below ((Below.refl _ _).drew))
    go_cut [34] (fun s wx => s = .bool (!mB) ∧ Below w1.heap.size w1 wx)
    case first =>
      go_region_held3 (fun w' => w'.cell? ⟨w.heap.size, 0, none⟩ = some (.slice KA key.length ka) ∧ w'.cell? ⟨w.heap.size, 1, none⟩ = some (.int .i64 ck) ∧ w'.cell? ⟨w.heap.size, 2, none⟩ = some (.slice VA val.length va) ∧ w'.cell? ⟨w.heap.size, 3, none⟩ = some (.int .i64 pg) ∧ w'.cell? ⟨w.heap.size, 4, none⟩ = some (.int .i64 ct) ∧ w'.cell? ⟨r, 0, none⟩ = some (.int .i64 kind) ∧ w'.cell? ⟨r, 1, none⟩ = some (.int .i64 (P : Int)))
        (first
          | exact ⟨c0, c1, c2, c3, c4, b0, b1⟩
          | (obtain ⟨d0, d1, d2, d3, d4⟩ := cells5 (hC1.drew.below hw2 hcl); obtain ⟨f0, f1, _⟩ := cells3 (hbp.drew.below hw2 hpl); exact ⟨d0, d1, d2, d3, d4, f0, f1⟩))
        (first
          | (go_at_call 43; refine hma2.mono ?_; rintro e w2 ⟨rfl, hw2⟩)
          | fail)
      go_wp2_with fail
      go_meet
      exact ⟨rfl, (Below.refl _ _).drew.trans hw2⟩
    case rest =>
      obtain ⟨rfl, hw2⟩ := hcut
      have hS2 := hS1.below hw2
      clear hS1 hx1 hbp b0 b1 b2 c0 c1 c2 c3 c4 hC1 hcl hpl hw2 hma2
      cases mB with
      | false =>
        have e := H62.out rfl
        subst e
        go_wp2_with fail
        go_ret
        exact ⟨_, l, rfl, HL2.out (by omega), hr, hS2.tail.rpClose⟩
      | true =>
        have hC2 : OBlk wc w.heap.size 32 [.slice KA key.length ka, .int .i64 ck, .slice VA val.length va, .int .i64 pg, .int .i64 ct] := hS2.head
        obtain ⟨c0, c1, c2, c3, c4⟩ := cells5 hC2
        have hwi := HWI.out _ hS2.tail
        clear hC2
        go_upto_region 6 with (first
          | (go_at_call 96; (with_reducible refine hwi.mono ?_); rintro e w3 ⟨v3, ⟨ykv, yvv, yc⟩, rfl, hyc, hS3⟩; simp only at hyc; subst hyc)
          | fail)
        obtain ⟨l', hl'⟩ : ∃ q, l.take k ++ (⟨ykv, yvv, ⟨key, ck, val, pg, ct⟩⟩ : CV) :: l.drop (k + gone) = q := ⟨_, rfl⟩
        have hpl' := (HW ⟨ykv, yvv, ⟨key, ck, val, pg, ct⟩⟩).out rfl
        have hlp' : Hid (Z = 0 → pcs l' = lp) := Lib.hid (fun e => by rw [← hl']; exact HL3.out e ⟨ykv, yvv, ⟨key, ck, val, pg, ct⟩⟩ rfl)
        have hrng' : Hid (RngC l') := Lib.hid (by rw [← hl']; exact hr.with_ (y := ⟨ykv, yvv, ⟨key, ck, val, pg, ct⟩⟩) ⟨HX.out.r1, HX.out.r2, HX.out.r3⟩ _ _)
        have hN' : l'.length = l.length + 1 - gone := by rw [← hl']; simp only [List.length_append, List.length_cons, List.length_take, List.length_drop]; omega
        simp only [hl'] at hS3 hpl'
        have hrdl := hS3.openRd (u := .slice U l.length uc) (l := l) (by simp) (fun E hE => by simp [hE]) hr
        have hrd3 : RdCs w3 v3 l' := by
          refine ⟨(hS3.of_mem (E := ownE 32 5 v3 l'.length (flatC l')) (by simp) : Own w3 0 32 5 v3 l'.length (flatC l')).rd, fun z hz => ?_⟩
          rw [← hl'] at hz
          rcases List.mem_append.1 hz with hz | hz
          · exact hrdl.ok z (List.mem_of_mem_take hz)
          · rcases List.mem_cons.1 hz with rfl | hz
            · exact ⟨OwB.rd (show OwB w3 0 ykv key from hS3.head), OwB.rd (show OwB w3 0 yvv val from hS3.tail.head), HX.out.r1, HX.out.r2, HX.out.r3⟩
            · exact hrdl.ok z (List.mem_of_mem_drop hz)
        rw [← hpl'] at H63 H61 H0 HFIT
        have HLL := Lib.hid hl'
        clear hwi c0 c1 c2 c3 c4 hS2 HWI HMA HW H62 HL3 hl' hpl' hrdl HX
        obtain ⟨V3, vc3, rfl, hm3, hc3⟩ := hrd3.slice
        go_wp2_with fail
        go_loopw [10] (fun i wr => ∃ j : Nat, 1 ≤ j ∧ j ≤ l'.length ∧ i = .int .i64 (j : Int) ∧ Hid (∀ q (hq : q + 1 < j) (hql : q + 1 < (pcs l').length), ordC ((pcs l')[q]'(by omega)).key (pcs l')[q + 1].key < 0) ∧ Below w3.heap.size w3 wr) (fun i _ => l'.length - (intOf i).toNat)
        case atStart => exact ⟨1, by omega, by omega, rfl, Lib.hid (fun q hq => by omega), Below.refl _ _⟩
        case round =>
          obtain ⟨j, hj1, hj, rfl, HJ, hB⟩ := hrel
          obtain ⟨kk, rfl⟩ : ∃ kk, j = kk + 1 := ⟨j - 1, by omega⟩
          by_cases hlt : kk + 1 < l'.length
          · obtain ⟨ad, K, kc, rfl, q0, hkr⟩ := (hrd3.below hB).key_at (i := kk) (by omega)
            obtain ⟨_, K', kc', ea, q0', hkr'⟩ := (hrd3.below hB).key_at (i := kk + 1) hlt
            cases ea
            have hnx : Hid (ordC l'[kk].c.key l'[kk + 1].c.key < 0 → ∀ q (hq : q + 1 < kk + 1 + 1) (hql : q + 1 < (pcs l').length), ordC ((pcs l')[q]'(by omega)).key (pcs l')[q + 1].key < 0) := Lib.hid (fun ho q hq hql => by
              by_cases e : q = kk
              · subst e
                rw [pcs_at (by omega), pcs_at hlt]; exact ho
              · exact HJ.out q (by omega) hql)
            have hbad : Hid (¬ ordC l'[kk].c.key l'[kk + 1].c.key < 0 → ¬ Rising (pcs l')) := Lib.hid (fun ho h => ho (by
              have := (rising_adj _).1 h kk (by rw [pcs_length]; exact hlt)
              rw [pcs_at (by omega), pcs_at hlt] at this
              exact this))
            have j1 : (0 : Int) ≤ (kk : Int) := by omega
            have j2 : (kk : Int) < (l'.length : Int) := by omega
            have j3 : kk < l'.length := by omega
            have j4 : IntKind.i64.wrap (kk : Int) = (kk : Int) := by rw [IntKind.wrap_i64]; omega
            have j6 : (0 : Int) ≤ (kk : Int) + 1 := by omega
            have j7 : (kk : Int) + 1 < (l'.length : Int) := by omega
            have j8 : ((kk : Int) + 1).toNat = kk + 1 := by omega
            have j9 : IntKind.i64.wrap ((kk : Int) + 1) = (kk : Int) + 1 := by rw [IntKind.wrap_i64]; omega
            have s1 := fun n => strE hkr n
            have s2 := fun n => strE hkr' n
            have hbl0 := bytesLess_ord l'[kk].c.key l'[kk + 1].c.key
            generalize l'[kk].c.key = ka1 at *
            generalize l'[kk + 1].c.key = ka2 at *
            clear hkr hkr'
            by_cases hoc : ordC ka1 ka2 < 0
            · have hbl : Op.bytesLess ka1 ka2 = true := by rw [hbl0]; exact decide_eq_true hoc
              have HNX := Lib.hid (hnx.out hoc)
              clear hbl0 hoc hnx hbad HJ
              go_upto_region 9 with (fail)
              go_quiet (fail)
              go_wp2_with fail
              exact ⟨⟨kk + 1 + 1, by omega, by omega, by go_num, HNX, belowE hB _⟩, by simp [intOf]; omega⟩
            · have hbl : Op.bytesLess ka1 ka2 = false := by rw [hbl0]; exact decide_eq_false hoc
              have e := H63.out (by first | rfl | trivial) (hbad.out hoc)
              subst e
              have hSr := hS3.below hB
              clear hbl0 hoc hnx hbad HJ
              go_upto_region 9 with (fail)
              go_quiet (fail)
              go_wp2_with fail
              go_ret
              exact ⟨_, l, rfl, HL2.out (by omega), hr, (hSr.drewN _).tail.tail.tail.rpClose⟩
          · have hjl : l'.length = kk + 1 := by omega
            have hris : Rising (pcs l') := (rising_adj _).2 fun q hq => HJ.out q (by rw [pcs_length] at hq; omega) hq
            have HRI := Lib.hid hris
            have hfit := HFIT.out (by first | rfl | trivial)
            have hS4 := hS3.below hB
            have hB4 : OBlk wr r 92 [.int .i64 kind, .int .i64 (P : Int), .slice U l.length uc] := hS4.tail.tail.tail.head
            obtain ⟨b0, b1, b2⟩ := cells3 hB4
            have hpl := hB4.lt
            have hsz : Calls Try.prog 13 #[.int .i64 kind, .slice V3 l'.length vc3] wr.drew fun e w' => e = .returned (.int .i64 (sizeF (pcs l') : Nat)) ∧ Below wr.heap.size wr.drew w' := RSize_any kind _ l' wr.drew (hrd3.below (hB.drew)) hfit
            have HSZ := Lib.hid hsz
            have k1 : ¬ (kk : Int) + 1 < (l'.length : Int) := by omega
            have HJL := Lib.hid hjl
            clear hjl
            have HZ1 : Hid (P < sizeF (pcs l') → Z = 61) := Lib.hid (fun h => H61.out (by first | rfl | trivial) hris h)
            have HZ0 : Hid (¬ P < sizeF (pcs l') → Z = 0) := Lib.hid (fun h => H0.out (by first | rfl | trivial) hris h)
            generalize sizeF (pcs l') = sz at *
            clear HJ hris hfit hrd3 hB HFIT H63 H61 H0 hlt hS3 hsz hN'
            go_upto_region 11 with (fail)
            go_cut [70] (fun s wx => s = .bool (decide (P < sz)) ∧ Below wr.heap.size wr wx)
            case first =>
              go_region_held3 (fun w' => w'.cell? ⟨r, 0, none⟩ = some (.int .i64 kind) ∧ w'.cell? ⟨r, 1, none⟩ = some (.int .i64 (P : Int)))
                (first
                  | exact ⟨b0, b1⟩
                  | (obtain ⟨f0, f1, _⟩ := cells3 (hB4.drew.below hw5 hpl); exact ⟨f0, f1⟩))
                (first
                  | (go_at_call 13; refine HSZ.out.mono ?_; rintro e w5 ⟨rfl, hw5⟩)
                  | fail)
              go_wp2_with fail
              go_meet
              exact ⟨rfl, (Below.refl _ _).drew.trans hw5⟩
            case rest =>
              obtain ⟨rfl, hw5⟩ := hcut
              have hS5 := hS4.below hw5
              clear hS4 hB4 b0 b1 b2 hw5 hpl
              by_cases hz : P < sz
              · have e := HZ1.out hz
                subst e
                rw [show decide (P < sz) = true from decide_eq_true hz]
                clear hz
                go_wp2_with fail
                go_ret
                exact ⟨_, l, rfl, HL2.out (by omega), hr, hS5.tail.tail.tail.rpClose⟩
              · have e := HZ0.out hz
                subst e
                rw [show decide (P < sz) = false from decide_eq_false hz]
                clear hz
                have hB5 : OBlk wc r 92 [.int .i64 kind, .int .i64 (P : Int), .slice U l.length uc] := hS5.tail.tail.tail.head
                obtain ⟨b0, b1, b2⟩ := cells3 hB5
                have f2 := hB5.frozen (j := 2) (by simp)
                clear hB5
                go_wp2_with fail
                go_ret
                have hS6 := (Sep.sw3 hS5).setCell 2 (.slice V3 l'.length vc3)
                simp only [List.set_cons_succ, List.set_cons_zero] at hS6
                have hS7 : Sep w0 _ (bytesE ykv key :: bytesE yvv val :: ownE 32 5 (.slice V3 l'.length vc3) l'.length (flatC l') :: blkE r 92 [.int .i64 kind, .int .i64 (P : Int), .slice V3 l'.length vc3] :: (cellsE l ++ L)) := Sep.pick (L := [_, _, _, _, _]) [1, 2, 3, 0] (by decide) rfl hS6
                have hS8 := hS7.push3
                rw [← HLL.out] at hS8
                have hS9 := (Sep.csWith (y := ⟨ykv, yvv, ⟨key, ck, val, pg, ct⟩⟩) hg1 hkl rfl hS8).sw1
                rw [HLL.out] at hS9
                exact ⟨_, l', rfl, hlp'.out (by first | rfl | trivial), hrng'.out, hS9.rpShut⟩
end Go.Proofs.Ytonbcipofakpjaa

-- The document's page: Insert, Set, Remove: walks.
namespace Go.Proofs.Ytonbcipofakpjaa
open Go.RowKit
set_option maxRecDepth 100000 in
set_option maxHeartbeats 1000000 in
theorem RInsert_sep {w0 w : World} {L : List Ent} {r P : Nat} {kind : Int} {u : Value} {l : List CV} (hS : Sep w0 w (rpE r kind P u l :: L)) (hr : RngC l) (hk : Wk kind P (pcs l)) (hkd : kind = 2 ∨ kind = 3) (hP : P ≤ 65536) (x : CV) (hx : XIn L x) (i : Int) (hi64 : i64r i) :
    Calls Try.prog 86 #[.pointer (some ⟨r, 0, none⟩), .int .i64 i, cellV x] w (RpPost w0 L r P kind (insZ kind P (pcs l) i 0 x.c) (insL kind P (pcs l) i 0 x.c)) := by
  have hx0 := hx.ok hS (fun E hE => List.mem_cons_of_mem _ hE)
  have hS1 := hS.alloc 32 [x.kv, .int .i64 x.c.kind, x.vv, .int .i64 x.c.page, .int .i64 x.c.count]
  have hp := put_sep (Sep.sw1 hS1) hr hk hkd hP x (XIn.app (L1 := [_]) hx) i hi64 0 (by omega)
  obtain ⟨c0, c1, c2, c3, c4⟩ := cells5 hS1.blk
  clear hS
  obtain ⟨KA, ka, VA, va, key, ck, val, pg, ct, rfl, -, -⟩ := CV.form hx0
  clear hx hx0 hS1
  unfold cellV at hp ⊢
  simp only at hp ⊢
  go_enter Try.func86, Try.ntmps86
  go_wp2_with (first
    | (go_at_call 94; refine hp.mono ?_; rintro e w3 ⟨u', l', rfl, hl', hr', hS3⟩)
    | fail)
  go_ret
  exact ⟨u', l', rfl, hl', hr', Sep.tail hS3.sw1⟩
set_option maxRecDepth 100000 in
set_option maxHeartbeats 1000000 in
theorem RSet_sep {w0 w : World} {L : List Ent} {r P : Nat} {kind : Int} {u : Value} {l : List CV} (hS : Sep w0 w (rpE r kind P u l :: L)) (hr : RngC l) (hk : Wk kind P (pcs l)) (hkd : kind = 2 ∨ kind = 3) (hP : P ≤ 65536) (x : CV) (hx : XIn L x) (i : Int) (hi64 : i64r i) :
    Calls Try.prog 85 #[.pointer (some ⟨r, 0, none⟩), .int .i64 i, cellV x] w (RpPost w0 L r P kind (insZ kind P (pcs l) i 1 x.c) (insL kind P (pcs l) i 1 x.c)) := by
  have hx0 := hx.ok hS (fun E hE => List.mem_cons_of_mem _ hE)
  have hS1 := hS.alloc 32 [x.kv, .int .i64 x.c.kind, x.vv, .int .i64 x.c.page, .int .i64 x.c.count]
  have hp := put_sep (Sep.sw1 hS1) hr hk hkd hP x (XIn.app (L1 := [_]) hx) i hi64 1 (by omega)
  obtain ⟨c0, c1, c2, c3, c4⟩ := cells5 hS1.blk
  clear hS
  obtain ⟨KA, ka, VA, va, key, ck, val, pg, ct, rfl, -, -⟩ := CV.form hx0
  clear hx hx0 hS1
  unfold cellV at hp ⊢
  simp only at hp ⊢
  go_enter Try.func85, Try.ntmps85
  go_wp2_with (first
    | (go_at_call 94; refine hp.mono ?_; rintro e w3 ⟨u', l', rfl, hl', hr', hS3⟩)
    | fail)
  go_ret
  exact ⟨u', l', rfl, hl', hr', Sep.tail hS3.sw1⟩
set_option maxRecDepth 100000 in
set_option maxHeartbeats 1000000 in
theorem RRemove_sep {w0 w : World} {L : List Ent} {r P : Nat} {kind : Int} {u : Value} {l : List CV} (hS : Sep w0 w (rpE r kind P u l :: L)) (hr : RngC l) (hk : Wk kind P (pcs l)) (hP : P ≤ 65536) (i : Int) (hi64 : i64r i) :
    Calls Try.prog 64 #[.pointer (some ⟨r, 0, none⟩), .int .i64 i] w (RpPost w0 L r P kind (remZ (pcs l) i) (remL (pcs l) i)) := by
  have hlen := hk.len hP
  rw [pcs_length] at hlen
  have hS1 := hS.rpOpen
  have hrd := hS1.openRd (u := u) (l := l) (by simp) (fun E hE => by simp [hE]) hr
  obtain ⟨U, uc, rfl, hm, hc⟩ := hrd.slice
  have hbp : OBlk _ r 92 [.int .i64 kind, .int .i64 (P : Int), .slice U l.length uc] := hS1.head
  obtain ⟨b0, b1, b2⟩ := cells3 hbp
  by_cases hin : i < 0 ∨ (l.length : Int) ≤ i
  · have hz : remZ (pcs l) i = 64 := by unfold remZ; rw [if_pos (by rw [pcs_length]; exact hin)]
    rw [hz]
    have HL2 : Hid (pcs l = remL (pcs l) i) := Lib.hid (by unfold remL; rw [if_pos (by rw [pcs_length]; exact hin)])
    clear hz hrd hbp hS
    rcases hin with h | h
    · go_enter Try.func64, Try.ntmps64
      go_wp2_with fail
      go_ret
      exact ⟨_, l, rfl, HL2.out, hr, hS1.rpClose⟩
    · have h' : ¬ i < 0 := by omega
      go_enter Try.func64, Try.ntmps64
      go_wp2_with fail
      go_ret
      exact ⟨_, l, rfl, HL2.out, hr, hS1.rpClose⟩
  · obtain ⟨k, rfl⟩ : ∃ k : Nat, i = (k : Int) := ⟨i.toNat, by omega⟩
    have hkl : k < l.length := by omega
    have hz : remZ (pcs l) (k : Int) = 0 := by unfold remZ; rw [if_neg (by rw [pcs_length]; exact hin)]
    have HL2 : Hid (pcs (l.take k ++ l.drop (k + 1)) = remL (pcs l) (k : Int)) := Lib.hid (by unfold remL; rw [if_neg (by rw [pcs_length]; exact hin)]; exact pcs_rem l k)
    rw [hz]
    generalize remL (pcs l) (k : Int) = lp at *
    have i1 : ¬ (k : Int) < 0 := by omega
    have i2 : ¬ (l.length : Int) ≤ (k : Int) := by omega
    obtain ⟨A1, c1, s1, hr1⟩ := hrd.run_h k (by omega)
    obtain ⟨A2, hA2⟩ : ∃ X, slX U uc (k + 1) = X := ⟨_, rfl⟩
    have s2 := fun W => slX_run U l.length uc (k + 1) (by omega) W
    rw [hA2] at s2
    have s2' : ∀ W, (Instr.slice 25 (.slice U l.length uc) (some (.int .i64 ((k : Int) + 1))) none none).run Try.prog W = .ok (.slice A2 (l.length - (k + 1)) (uc - (k + 1))) W := s2
    have hfl : ∀ v ∈ flatC l, v.oneCell' = true := flatC_one hrd.ok
    have ht1 : (l.take k).length = k := by rw [List.length_take]; omega
    have hd1 : (l.drop (k + 1)).length = l.length - (k + 1) := List.length_drop
    have hrt := hr1.form
    rw [ht1] at hrt
    have i3 : IntKind.i64.wrap ((k : Int) + 1) = (k : Int) + 1 := by rw [IntKind.wrap_i64]; omega
    have HA2 := Lib.hid hA2
    clear hz hin hS hk hrd hr1 hA2 s2
    go_enter Try.func64, Try.ntmps64
    go_upto_region 5 with (first
      | (at_builtin; refine wp_append_C rfl (.tmp 17) (.tmp 23) rfl 0 _ [] rfl (Own.nil _ _ _ _) (.slice A1 k c1) (l.take k) rfl (by rw [ht1]; exact hrt) (fun v hv => hfl v (by rw [flatC_take] at hv; exact List.mem_of_mem_take hv)) (by simp; omega) (Nat.zero_le _) ?_; intro v2 w2 ho2 hg2 hk2; rw [List.nil_append, ht1] at ho2; obtain ⟨B2, bc2, hns2⟩ := Own.slice ho2; subst hns2; have hS2 := (hS1.nilC).appC ho2 hg2 (by rcases hk2 with e | e; exact .inl e; exact .inr ⟨_, e, Nat.le_refl _⟩))
      | fail)
    clear hS1 ho2 hg2 hk2 b0 b1 b2 hbp hrt
    have hrd5 := hS2.openRd (u := .slice U l.length uc) (l := l) (by simp) (fun E hE => by simp [hE]) hr
    have hB5 : OBlk w2 r 92 [.int .i64 kind, .int .i64 (P : Int), .slice U l.length uc] := hS2.tail.head
    obtain ⟨b0, b1, b2⟩ := cells3 hB5
    have hd5 := (hrd5.cutX (lo := k + 1) (by omega)).form
    rw [HA2.out] at hd5
    have hO5 : Own w2 0 32 5 (.slice B2 k bc2) (l.take k).length (flatC (l.take k)) := by rw [ht1]; exact hS2.head
    clear hrd5 hB5
    go_wp2_with (first
      | (at_builtin; refine wp_append_C rfl (.tmp 26) (.tmp 33) rfl 0 (.slice B2 k bc2) (l.take k) rfl hO5 (.slice A2 (l.length - (k + 1)) (uc - (k + 1))) (l.drop (k + 1)) rfl hd5 (fun v hv => hfl v (by rw [flatC_drop] at hv; exact List.mem_of_mem_drop hv)) (by rw [ht1, hd1]; omega) (Nat.zero_le _) ?_; intro v6 w6 ho6 hg6 hk6; have hS6 := hS2.appC ho6 hg6 (by rcases hk6 with e | e; exact .inl e; exact .inr ⟨_, e, Nat.le_refl _⟩); obtain ⟨B6, bc6, hns6⟩ := Own.slice ho6; subst hns6; have hlN : (l.take k ++ l.drop (k + 1)).length = l.length - 1 := (by simp only [List.length_append, ht1, hd1]; omega); rw [hlN] at hS6; have HLN := Lib.hid hlN; clear hlN; have hB6 : OBlk w6 r 92 [.int .i64 kind, .int .i64 (P : Int), .slice U l.length uc] := hS6.tail.head; obtain ⟨x0, x1, x2⟩ := cells3 hB6; have g2 := hB6.frozen (j := 2) (by simp); clear ho6)
      | fail)
    go_ret
    have hS8 := hS6.sw1.setCell 2 (.slice B6 (l.length - 1) bc6)
    simp only [List.set_cons_succ, List.set_cons_zero] at hS8
    have hS9 : Sep w0 _ (ownE 32 5 (.slice B6 (l.length - 1) bc6) (l.length - 1) (flatC (l.take k ++ l.drop (k + 1))) :: blkE r 92 [.int .i64 kind, .int .i64 (P : Int), .slice B6 (l.length - 1) bc6] :: (cellsE l ++ L)) := Sep.pick (L := [_, _, _]) [1, 0] (by decide) rfl hS8
    have e1 : k + (l.length - (k + 1)) = l.length - 1 := by omega
    refine ⟨.slice B6 (l.length - 1) bc6, l.take k ++ l.drop (k + 1), rfl, HL2.out, hr.rem _ _, ?_⟩
    have hfin := (Sep.csDel HLN.out hkl hS9.push1).sw1.rpShut
    first
      | exact hfin
      | (rw [e1]; exact hfin)
end Go.Proofs.Ytonbcipofakpjaa

-- The document's page: Cell: the walk.
namespace Go.Proofs.Ytonbcipofakpjaa
open Go.RowKit
set_option maxRecDepth 100000 in
set_option maxHeartbeats 600000 in
theorem RCell_sep {w0 w : World} {L : List Ent} {p P : Nat} {kind : Int} {u : Value} {l : List CV} (hS : Sep w0 w (rpE p kind P u l :: L)) (hr : RngC l) (hk : Wk kind P (pcs l)) (hP : P ≤ 65536) (i : Int) (hi64 : i64r i) :
    Calls Try.prog 66 #[.pointer (some ⟨p, 0, none⟩), .int .i64 i] w (CellPost w0 (rpE p kind P u l :: L) (cellZ (pcs l) i) (cellC (pcs l) i)) := by
  have hlen := hk.len hP
  rw [pcs_length] at hlen
  have hS1 := hS.rpOpen.alloc 32 [.slice none 0 0, .int .i64 0, .slice none 0 0, .int .i64 0, .int .i64 0]
  have hrd := hS1.openRd (u := u) (l := l) (by simp) (fun E hE => by simp [hE]) hr
  obtain ⟨U, uc, rfl, hm, hc⟩ := hrd.slice
  have hbp : OBlk _ p 92 [.int .i64 kind, .int .i64 (P : Int), .slice U l.length uc] := hS1.tail.head
  have hbr := hS1.blk
  obtain ⟨b0, b1, b2⟩ := cells3 hbp
  obtain ⟨d0, d1, d2, d3, d4⟩ := cells5 hbr
  obtain ⟨f0, f1, f2, f3, f4⟩ := froz5 hbr
  by_cases hin : i < 0 ∨ (l.length : Int) ≤ i
  · have hz : cellZ (pcs l) i = 64 := by unfold cellZ; rw [if_pos (by rw [pcs_length]; exact hin)]
    have hz2 : cellC (pcs l) i = ⟨[], 0, [], 0, 0⟩ := by unfold cellC; rw [if_pos (by rw [pcs_length]; exact hin)]
    rw [hz, hz2]
    have hS2 := hS1
    clear hz hz2 hrd hbp hbr hS hS1
    have hfin : ∀ w', Sep w0 w' (blkE w.heap.size 32 [.slice none 0 0, .int .i64 0, .slice none 0 0, .int .i64 0, .int .i64 0] :: blkE p 92 [.int .i64 kind, .int .i64 (P : Int), .slice U l.length uc] :: ownE 32 5 (.slice U l.length uc) l.length (flatC l) :: (cellsE l ++ L)) →
        CellPost w0 (rpE p kind P (.slice U l.length uc) l :: L) 64 ⟨[], 0, [], 0, 0⟩ (.returned (.tuple #[.agg #[.slice none 0 0, .int .i64 0, .slice none 0 0, .int .i64 0, .int .i64 0], .int .i64 64])) w' := fun w' h =>
      ⟨⟨.slice none 0 0, .slice none 0 0, ⟨[], 0, [], 0, 0⟩⟩, rfl, rfl, (by simp [RngY, i64r]), (h.tail.rpClose.nil).nil⟩
    have HF := Lib.hid hfin
    have HS2 := Lib.hid hS2
    clear hfin hS2
    rcases hin with h | h
    · go_enter Try.func66, Try.ntmps66
      go_wp2_with fail
      have hS2 := HS2.out
      obtain ⟨e0, e1, e2, e3, e4⟩ := cells5 hS2.blk
      refine bodyPost_ret (v := .tuple #[.agg #[.slice none 0 0, .int .i64 0, .slice none 0 0, .int .i64 0, .int .i64 0], .int .i64 64]) ?_ rfl (HF.out _ hS2)
      simp [results, Try.results66, go_sem, e0, e1, e2, e3, e4]
    · have h' : ¬ i < 0 := by omega
      go_enter Try.func66, Try.ntmps66
      go_wp2_with fail
      have hS2 := HS2.out
      obtain ⟨e0, e1, e2, e3, e4⟩ := cells5 hS2.blk
      refine bodyPost_ret (v := .tuple #[.agg #[.slice none 0 0, .int .i64 0, .slice none 0 0, .int .i64 0, .int .i64 0], .int .i64 64]) ?_ rfl (HF.out _ hS2)
      simp [results, Try.results66, go_sem, e0, e1, e2, e3, e4]
  · obtain ⟨k, rfl⟩ : ∃ k : Nat, i = (k : Int) := ⟨i.toNat, by omega⟩
    have hkl : k < l.length := by omega
    have hkp : k < (pcs l).length := by rw [pcs_length]; exact hkl
    have hz : cellZ (pcs l) (k : Int) = 0 := by unfold cellZ; rw [if_neg (by rw [pcs_length]; exact hin)]
    have hz2 : cellC (pcs l) (k : Int) = l[k].c := by unfold cellC; rw [if_neg (by rw [pcs_length]; exact hin), ← pcs_at hkl]; simp [List.getD, hkp]
    rw [hz, hz2]
    have hok := okc_fit (may_ok (hk.may (l[k].c) (by rw [← pcs_at hkl]; exact List.getElem_mem hkp))) hP
    have hzx := hrd.ok _ (List.getElem_mem hkl)
    obtain ⟨ad, rfl, q0, q1, q2, q3, q4⟩ := hrd.at_ hkl
    have hrz : RngY l[k].c := hr _ (List.getElem_mem hkl)
    generalize l[k] = z at *
    have hO := Copied_sep hS1 z hzx (by omega) (by omega)
    have i1 : ¬ (k : Int) < 0 := by omega
    have i2 : ¬ (l.length : Int) ≤ (k : Int) := by omega
    have i2' : (k : Int) < (l.length : Int) := by omega
    clear hz hz2 hin hS hk hrd hkp hS1 hbp hbr
    obtain ⟨KB, kb, VB, vb, zkey, zck, zval, zpg, zct, rfl, -, -⟩ := CV.form hzx
    unfold cellV at hO
    simp only at hO hrz ⊢
    go_enter Try.func66, Try.ntmps66
    go_wp2_with (first
      | (go_at_call 88; (with_reducible refine hO.mono ?_); rintro e w6 ⟨⟨ykv, yvv, yc⟩, rfl, hyc, hS6⟩; simp only at hyc; subst hyc; obtain ⟨K2, kc, rfl⟩ := Own.slice (show OwB w6 0 ykv zkey from hS6.head); obtain ⟨V2, vc, rfl⟩ := Own.slice (show OwB w6 0 yvv zval from hS6.tail.head); have hB6 : OBlk w6 w.heap.size 32 [.slice none 0 0, .int .i64 0, .slice none 0 0, .int .i64 0, .int .i64 0] := hS6.tail.tail.head; obtain ⟨g0, g1, g2, g3, g4⟩ := cells5 hB6; obtain ⟨h0, h1, h2, h3, h4⟩ := froz5 hB6)
      | fail)
    have hS7 := (Sep.sw2 hS6).set5 (.slice K2 zkey.length kc) (.int .i64 zck) (.slice V2 zval.length vc) (.int .i64 zpg) (.int .i64 zct)
    obtain ⟨e0, e1, e2, e3, e4⟩ := cells5 hS7.blk
    refine bodyPost_ret (v := .tuple #[.agg #[.slice K2 zkey.length kc, .int .i64 zck, .slice V2 zval.length vc, .int .i64 zpg, .int .i64 zct], .int .i64 0]) ?_ rfl ⟨⟨.slice K2 zkey.length kc, .slice V2 zval.length vc, ⟨zkey, zck, zval, zpg, zct⟩⟩, rfl, rfl, hrz, ?_⟩
    · simp [results, Try.results66, go_sem, e0, e1, e2, e3, e4]
    · have hS8 : Sep w0 _ (blkE p 92 [.int .i64 kind, .int .i64 (P : Int), .slice (some ad) l.length uc] :: ownE 32 5 (.slice (some ad) l.length uc) l.length (flatC l) :: bytesE (.slice K2 zkey.length kc) zkey :: bytesE (.slice V2 zval.length vc) zval :: (cellsE l ++ L)) := Sep.pick (L := [_, _, _, _]) [2, 3, 0, 1] (by decide) rfl hS7.tail
      exact Sep.pick (L := [_, _, _]) [1, 2, 0] (by decide) rfl hS8.pushIn2.rpClose
end Go.Proofs.Ytonbcipofakpjaa

-- The document's page: Find: the walk.
namespace Go.Proofs.Ytonbcipofakpjaa
open Go.RowKit
theorem count_step {key : List UInt8} {l : List PC} (hs : Rising l) {j : Nat} (hj : j < l.length) : min (j + 1) (findF key l) = if ordC l[j].key key < 0 then min j (findF key l) + 1 else min j (findF key l) := by
  by_cases h : j < findF key l
  · rw [if_pos (find_lt hj h)]; omega
  · rw [if_neg (find_ge hs hj (by omega))]; omega
set_option maxRecDepth 100000 in
set_option maxHeartbeats 1000000 in
theorem RFind_sep {w0 w : World} {L : List Ent} {r P : Nat} {kind : Int} {u : Value} {l : List CV} (hS : Sep w0 w (rpE r kind P u l :: L)) (hr : RngC l) (hk : Wk kind P (pcs l)) (hP : P ≤ 65536) (vk : Value) (key : List UInt8) (hvk : RdIn L vk key) :
    Calls Try.prog 67 #[.pointer (some ⟨r, 0, none⟩), vk] w fun e w' => e = .returned (.tuple #[.int .i64 (findF key (pcs l) : Nat), .bool (isF key (pcs l))]) ∧ Sep w0 w' (rpE r kind P u l :: L) := by
  have hlen := hk.len hP
  rw [pcs_length] at hlen
  have hS1 := hS.rpOpen
  have hrd := hS1.openRd (u := u) (l := l) (by simp) (fun E hE => by simp [hE]) hr
  obtain ⟨U, uc, rfl, hm, hc⟩ := hrd.slice
  have hkr : RdB w vk key := (hvk.cons (E := rpE r kind P (.slice U l.length uc) l)).elim fun E h => h.2 w (hS.of_mem h.1)
  obtain ⟨K, kc, rfl, hkm⟩ := hkr.form
  have hbp : OBlk w r 92 [.int .i64 kind, .int .i64 (P : Int), .slice U l.length uc] := hS1.head
  have hpl := hbp.lt
  have hfl := findF_le key (pcs l)
  rw [pcs_length] at hfl
  go_enter Try.func67, Try.ntmps67
  go_wp2_with fail
  go_loopw [6, 7] (fun a i wr => ∃ j : Nat, j ≤ l.length ∧ i = .int .i64 (j : Int) ∧ a = .int .i64 ((min j (findF key (pcs l)) : Nat) : Int) ∧ Below w.heap.size w wr) (fun _ i _ => l.length - (intOf i).toNat)
  case atStart => exact ⟨0, Nat.zero_le _, rfl, by rw [Nat.zero_min]; rfl, Below.refl _ _⟩
  case round =>
    obtain ⟨j, hj, rfl, rfl, hB⟩ := hrel
    obtain ⟨b0, b1, b2⟩ := cells3 (hbp.below hB hpl)
    by_cases hlt : j < l.length
    · have hlp : j < (pcs l).length := by rw [pcs_length]; exact hlt
      have hst := count_step (key := key) hk.rise hlp
      rw [pcs_at hlt] at hst
      obtain ⟨ad, K', kc', rfl, q0, hkr'⟩ := (hrd.below hB).key_at hlt
      have hkr2 := hkr.below hB (Nat.le_refl _)
      have j1 : (0 : Int) ≤ (j : Int) := by omega
      have j2 : (j : Int) < (l.length : Int) := by omega
      have s1 := fun n => strE hkr' n
      have s2 := fun n => strE hkr2 n
      have hbl0 := bytesLess_ord l[j].c.key key
      generalize l[j].c.key = ka1 at *
      generalize findF key (pcs l) = F at *
      have i7 : IntKind.i64.wrap (((min j F : Nat) : Int) + 1) = ((min j F : Nat) : Int) + 1 := by rw [IntKind.wrap_i64]; omega
      have HST := Lib.hid hst
      obtain ⟨m, hm9⟩ : ∃ m, min j F = m := ⟨_, rfl⟩
      rw [hm9] at i7
      simp only [hm9]
      have HM9 := Lib.hid hm9
      clear hkr' hkr2 hst hm9
      by_cases hoc : ordC ka1 key < 0
      · have hbl : Op.bytesLess ka1 key = true := by rw [hbl0]; exact decide_eq_true hoc
        have HE : Hid (min (j + 1) F = m + 1) := Lib.hid (by rw [HST.out, if_pos hoc, HM9.out])
        clear hbl0 hoc HST HM9
        go_upto_region 5 with (fail)
        go_quiet (fail)
        go_wp2_with fail
        go_roundw
        case rel => exact ⟨j + 1, by omega, by go_num, by rw [HE.out]; go_num, belowE hB _⟩
        case measure => simp [intOf]; omega
      · have hbl : Op.bytesLess ka1 key = false := by rw [hbl0]; exact decide_eq_false hoc
        have HE : Hid (min (j + 1) F = m) := Lib.hid (by rw [HST.out, if_neg hoc, HM9.out])
        clear hbl0 hoc HST HM9
        go_upto_region 5 with (fail)
        go_quiet (fail)
        go_wp2_with fail
        go_roundw
        case rel => exact ⟨j + 1, by omega, by go_num, by rw [HE.out], belowE hB _⟩
        case measure => simp [intOf]; omega
    · obtain rfl : j = l.length := by omega
      rw [Nat.min_eq_right hfl]
      have hSr := (hS.below hB)
      by_cases hf : findF key (pcs l) < l.length
      · have hfp : findF key (pcs l) < (pcs l).length := by rw [pcs_length]; exact hf
        have his : isF key (pcs l) = (l[findF key (pcs l)].c.key == key) := by
          unfold isF
          rw [List.getElem?_eq_getElem hfp, pcs_at hf]
          by_cases e : l[findF key (pcs l)].c.key = key
          · rw [e, decide_eq_true ⟨_, rfl, e⟩]; simp
          · rw [decide_eq_false (by rintro ⟨c, hc, h⟩; injection hc with hc; rw [← hc] at h; exact e h)]
            exact (beq_eq_false_iff_ne.2 e).symm
        have HIS := Lib.hid his
        clear his
        obtain ⟨ad, K', kc', rfl, q0, hkr'⟩ := (hrd.below hB).key_at hf
        have hkr2 := hkr.below hB (Nat.le_refl _)
        have s1 := fun n => strE hkr' n
        have s2 := fun n => strE hkr2 n
        generalize l[findF key (pcs l)].c.key = ka1 at *
        obtain ⟨F, hF⟩ : ∃ F, findF key (pcs l) = F := ⟨_, rfl⟩
        have HF := Lib.hid hF
        simp only [hF] at hf q0 ⊢
        clear hF
        have j1 : (0 : Int) ≤ (F : Int) := by omega
        have j2 : (F : Int) < (l.length : Int) := by omega
        clear hkr' hkr2
        go_upto_region 7 with (fail)
        go_quiet (fail)
        go_wp2_with fail
        go_ret2
        rw [HIS.out, HF.out]
        exact ⟨rfl, hSr.drewN _⟩
      · have hfe : findF key (pcs l) = l.length := by omega
        have his : isF key (pcs l) = false := by
          unfold isF
          rw [hfe, List.getElem?_eq_none (by rw [pcs_length]; omega)]
          simp
        have HIS := Lib.hid his
        have HFE := Lib.hid hfe
        rw [hfe]
        clear his hfe
        have j2 : ¬ (l.length : Int) < (l.length : Int) := by omega
        go_upto_region 7 with (fail)
        go_quiet (fail)
        go_wp2_with fail
        go_ret2
        rw [HIS.out, HFE.out]
        exact ⟨rfl, hSr.drewN _⟩
end Go.Proofs.Ytonbcipofakpjaa
