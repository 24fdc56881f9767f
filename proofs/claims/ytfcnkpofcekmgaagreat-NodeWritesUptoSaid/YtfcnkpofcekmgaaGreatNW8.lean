/- Texts joined: plain.Insert into a page that is empty, or beyond its end; The bulk of cells; espalierref06.SameCell, SameCells of cells that are the same.; Decode, Open, Bytes of a plain page, in the words of pieces.; espalierref06.May; espalierref01.Fixed, step, SumOf; espalierref06.bytesOf, Size; The page sizes as powers of two. -/
import Derived.Test.YtfcnkpofcekmgaaGreatNW1
import Derived.Test.YtfcnkpofcekmgaaGreatNW2
import Derived.Test.YtfcnkpofcekmgaaGreatNW3
import Derived.Test.YtfcnkpofcekmgaaGreatNW4
import Derived.Test.YtfcnkpofcekmgaaGreatNW5
import Derived.Test.YtfcnkpofcekmgaaGreatNW7
import Derived.Outline
-- plain.Insert into a page that is empty, or beyond its end: the walk.
namespace Go.Proofs.YtfcnkpofcekmgaaGreat
open Go.RowKit
end Go.Proofs.YtfcnkpofcekmgaaGreat

-- The bulk of cells; espalierref06.SameCell, SameCells of cells that are the same.
namespace Go.Proofs.YtfcnkpofcekmgaaGreat
open Go.RowKit
end Go.Proofs.YtfcnkpofcekmgaaGreat

-- Decode, Open, Bytes of a plain page, in the words of pieces.
namespace Go.Proofs.YtfcnkpofcekmgaaGreat
open Go.RowKit
/-- What is told of bytes. -/
def DecR (b : List UInt8) (kind : Int) (l : List PC) (e : Int) : Prop := (isPln b kind l ∧ e = 0) ∨ ((∀ k l', ¬ isPln b k l') ∧ kind = 0 ∧ l = [] ∧ e = 60)
theorem DecR.same {b : List UInt8} {k k' : Int} {l l' : List PC} {e e' : Int} (h : DecR b k l e) (h' : DecR b k' l' e') : k = k' ∧ l = l' ∧ e = e' := by
  rcases h with ⟨h1, rfl⟩ | ⟨h1, rfl, rfl, rfl⟩
  · rcases h' with ⟨h2, rfl⟩ | ⟨h2, _⟩
    · obtain ⟨a1, a2⟩ := isPln_parse h1
      obtain ⟨b1, b2⟩ := isPln_parse h2
      rw [a1] at b1
      injection b1 with b1
      exact ⟨a2.symm.trans b2, b1, rfl⟩
    · exact absurd h1 (h2 _ _)
  · rcases h' with ⟨h2, _⟩ | ⟨h2, rfl, rfl, rfl⟩
    · exact absurd h2 (h1 _ _)
    · exact ⟨rfl, rfl, rfl⟩
set_option maxRecDepth 100000 in
set_option maxHeartbeats 4000000 in
theorem PBytes_any (p : Nat) (kind : Int) (P : Nat) (used : Int) (u : Value) (l : List CV) (w : World) (hblk : OBlk w p 144 [.int .i64 kind, .int .i64 (P : Int), .int .i64 used, u]) (hrd : RdCs w u l) (hk : isKindB kind = true) (hP1 : 512 ≤ P) (hP : P ≤ 65536) (hok : ∀ c ∈ pcs l, OkC P c) (hsz : sizeF (pcs l) ≤ P) :
    Calls Tryz.prog 198 #[.pointer (some ⟨p, 0, none⟩)] w fun e w' => ∃ v, e = .returned v ∧ OwB w' w.heap.size v (laidF kind (pcs l) P) ∧ Below w.heap.size w w' := by
  have hla := fun nq => laid_any kind u l P hk hP1 hP (w.drewN nq) ⟨hrd.form, fun x hx => ⟨(hrd.ok x hx).k, (hrd.ok x hx).v, (hrd.ok x hx).r1, (hrd.ok x hx).r2, (hrd.ok x hx).r3⟩⟩ hok hsz
  have HLA := Lib.hid hla
  obtain ⟨b0, b1, b2, b3⟩ := cells4 hblk
  obtain ⟨A, c, rfl, _, _⟩ := hrd.slice
  have hll := laidF_length (kind := kind) hsz
  have HLL := Lib.hid hll
  clear hla hok hrd hll
  go_enter Tryz.func198, Tryz.ntmps198
  go_upto_region 1 with (fail)
  refine wp_region_dtail 12 (by kernel_rfl) (by kernel_rfl) ?_
  simp only [List.take_succ_cons, List.take_zero, List.drop_succ_cons, List.drop_zero]
  repeat (quiet_step (fail))
  refine wpQuiet_nil ?_
  rintro _ ⟨nq, rfl⟩
  go_wp2_with (first
    | (go_at_call 131; refine (HLA.out nq).mono ?_; rintro e w1 ⟨g, rfl, hg, ho, hb⟩)
    | fail)
  go_ret
  refine ⟨_, rfl, ?_, (below_drewN (Below.refl _ _) nq).trans hb⟩
  have := ho.owB' (base := w.heap.size) hg (by rw [HLL.out]; simp only [maxLen]; omega)
  rw [HLL.out] at this
  exact this
def pgE (p : Nat) (kind : Int) (P : Nat) (used : Int) (u : Value) (l : List CV) : Ent := allE [blkE p 144 [.int .i64 kind, .int .i64 (P : Int), .int .i64 used, u], csE u l]
set_option maxHeartbeats 4000000 in
theorem POpen_sep {w0 w : World} {L : List Ent} {v : Value} {b : List UInt8} (h : Sep w0 w L) (hv : RdB w v b) :
    Calls Tryz.prog 72 #[v] w fun e w' => (∃ (kind : Int) (l : List CV) (p : Nat) (u : Value), isPln b kind (pcs l) ∧ RngC l ∧ e = .returned (.tuple #[.pointer (some ⟨p, 0, none⟩), .int .i64 0]) ∧ Sep w0 w' (pgE p kind b.length (sizeF (pcs l) : Nat) u l :: L)) ∨
      ((∀ kind l, ¬ isPln b kind l) ∧ e = .returned (.tuple #[.pointer none, .int .i64 60]) ∧ Sep w0 w' L) := by
  have hd := PDecode_any v b w hv
  obtain ⟨A, c, rfl, hm⟩ := hv.form
  have HS := Lib.hid h
  clear h
  go_enter Tryz.func72, Tryz.ntmps72
  go_wp2_with fail
  refine hd.mono ?_
  rintro e w1 ⟨hw1, ⟨kind, l, u, hy, rfl, hO⟩ | ⟨hn, rfl⟩⟩
  · obtain ⟨B, cc, rfl⟩ := Own.slice hO.own
    have hsz : sizeF (pcs l) ≤ b.length := (encE_zero.1 hy.2.2.1).2
    have hP := (isPowB_range hy.1).2
    have hokc : ∀ c ∈ pcs l, OkC b.length c := fun c hc => may_ok (scan_may (encE_zero.1 hy.2.2.1).1 c hc)
    have hn : (pcs l).length ≤ 2000000000000 := by have := sizeF_eq (pcs l); omega
    have hS := Size_any kind _ l w1 hO.rd (fit_of hokc (by omega) hn)
    have HY := Lib.hid hy
    have hS1 := Sep.pack (D := ownE 43 5 (.slice B l.length cc) l.length (flatC l) :: cellsE l) (HS.out.cells hw1 hO)
    have HO := Lib.hid hO.rng
    clear hsz hokc hn hd hy hO
    go_wp2_with fail
    refine hS.mono ?_
    rintro e w2 ⟨rfl, hw2⟩
    have hS2 := (hS1.below hw2).alloc 144 [.int .i64 kind, .int .i64 (b.length : Int), .int .i64 (sizeF (pcs l) : Nat), .slice B l.length cc]
    clear hS1
    go_wp2_with fail
    go_ret2
    exact .inl ⟨kind, l, _, _, HY.out, HO.out, rfl, Sep.pack (D := [_, _]) hS2⟩
  · have HN := Lib.hid hn
    have hS1 := HS.out.below hw1
    clear hn hd
    go_wp2_with fail
    go_ret2
    exact .inr ⟨HN.out, rfl, hS1⟩
end Go.Proofs.YtfcnkpofcekmgaaGreat

-- espalierref06.May: the walk.
namespace Go.Proofs.YtfcnkpofcekmgaaGreat
open Go.RowKit
def numB (n : Int) : Bool := decide (2 ≤ n ∧ n < 65536)
set_option maxRecDepth 20000 in
theorem numbered_any (n : Int) (w : World) : Calls Tryz.prog 158 #[.int .i64 n] w fun e w' => e = .returned (.bool (numB n)) ∧ w = w' := by
  by_cases h1 : 2 ≤ n
  · by_cases h2 : n < 65536
    · have HV : Hid (numB n = true) := Lib.hid (decide_eq_true ⟨h1, h2⟩)
      go_enter Tryz.func158, Tryz.ntmps158
      go_wp2_with fail
      go_ret
      rw [HV.out]; exact ⟨rfl, rfl⟩
    · have HV : Hid (numB n = false) := Lib.hid (decide_eq_false (by omega))
      go_enter Tryz.func158, Tryz.ntmps158
      go_wp2_with fail
      go_ret
      rw [HV.out]; exact ⟨rfl, rfl⟩
  · have HV : Hid (numB n = false) := Lib.hid (decide_eq_false (by omega))
    go_enter Tryz.func158, Tryz.ntmps158
    go_wp2_with fail
    go_ret
    rw [HV.out]; exact ⟨rfl, rfl⟩
theorem numbered_any' (n : Int) (b : Bool) (w : World) (h : numB n = b) : Calls Tryz.prog 158 #[.int .i64 n] w fun e w' => e = .returned (.bool b) ∧ w' = w :=
  (numbered_any n w).mono fun e w' ⟨h1, h2⟩ => ⟨by rw [← h]; exact h1, h2.symm⟩
theorem MostKey_any' (P : Nat) (w : World) (hP : P ≤ 65536) : Calls Tryz.prog 157 #[.int .i64 (P : Int)] w fun e w' => e = .returned (.int .i64 ((P : Int) / 8)) ∧ w' = w := by
  go_enter Tryz.func157, Tryz.ntmps157
  go_wp2_with fail
  go_ret
  exact ⟨rfl, rfl⟩
theorem MostValue_any' (P : Nat) (w : World) (hP : P ≤ 65536) : Calls Tryz.prog 159 #[.int .i64 (P : Int)] w fun e w' => e = .returned (.int .i64 (3 * ((P : Int) / 16))) ∧ w' = w := by
  go_enter Tryz.func159, Tryz.ntmps159
  go_wp2_with fail
  go_ret
  exact ⟨rfl, rfl⟩
set_option maxRecDepth 100000 in
set_option maxHeartbeats 8000000 in
theorem RMay_any (kind : Int) (P : Nat) (hk : kind = 2 ∨ kind = 3) (hP : P ≤ 65536) (x : CV) (w : World) (hx : x.ok w) : Calls Tryz.prog 115 #[.int .i64 kind, .int .i64 (P : Int), cellV x] w fun e w' => e = .returned (.bool (mayP kind P x.c)) ∧ Below w.heap.size w w' := by
  obtain ⟨A, ca, B, cb, key, ck, val, pg, ct, rfl, _, _⟩ := CV.form hx
  have hA : Below w.heap.size w (w.alloc (.cells #[.slice A key.length ca, .int .i64 ck, .slice B val.length cb, .int .i64 pg, .int .i64 ct] 43)) := (Below.refl _ _).alloc (Nat.le_refl _) _
  obtain ⟨c0, c1, c2, c3, c4⟩ := cells5 (OBlk.new' w 43 [.slice A key.length ca, .int .i64 ck, .slice B val.length cb, .int .i64 pg, .int .i64 ct])
  unfold cellV
  clear hx
  go_enter Tryz.func115, Tryz.ntmps115
  go_upto_region 1 with (fail)
  generalize w.alloc (.cells #[.slice A key.length ca, .int .i64 ck, .slice B val.length cb, .int .i64 pg, .int .i64 ct] 43) = w0 at *
  by_cases b : P / 8 < key.length
  · have b1 : (P : Int) / 8 < (key.length : Int) := by omega
    have HV : Hid (mayP kind P ⟨key, ck, val, pg, ct⟩ = false) := Lib.hid (by unfold mayP; rw [if_pos (.inl b)])
    clear b hk
    go_quiet ((go_at_call 157; exact Calls.quiet_of_same (MostKey_any' P _ hP)))
    go_wp2_with fail
    go_ret
    rw [HV.out]
    exact ⟨rfl, below_drewN hA _⟩
  have b1 : ¬ (P : Int) / 8 < (key.length : Int) := by omega
  go_quiet ((go_at_call 157; exact Calls.quiet_of_same (MostKey_any' P _ hP)))
  have d0 : (w0.drewN nq).cell? ⟨w.heap.size, 0, none⟩ = some (.slice A key.length ca) := c0
  have d1 : (w0.drewN nq).cell? ⟨w.heap.size, 1, none⟩ = some (.int .i64 ck) := c1
  have d2 : (w0.drewN nq).cell? ⟨w.heap.size, 2, none⟩ = some (.slice B val.length cb) := c2
  have d3 : (w0.drewN nq).cell? ⟨w.heap.size, 3, none⟩ = some (.int .i64 pg) := c3
  have d4 : (w0.drewN nq).cell? ⟨w.heap.size, 4, none⟩ = some (.int .i64 ct) := c4
  have hB := below_drewN hA nq
  clear c0 c1 c2 c3 c4 hA
  generalize w0.drewN nq = w9 at *
  rcases hk with rfl | rfl
  · by_cases z : key.length = 0
    · have z1 : (key.length : Int) < 1 := by omega
      have HV : Hid (mayP 2 P ⟨key, ck, val, pg, ct⟩ = false) := Lib.hid (by unfold mayP; rw [if_pos (.inr (.inl ⟨rfl, z⟩))])
      clear z b
      go_wp2_with fail
      go_ret
      rw [HV.out]
      exact ⟨rfl, hB⟩
    · have z1 : ¬ (key.length : Int) < 1 := by omega
      by_cases k1 : ck = 1
      · have k10 : (ck == 1) = true := beq_iff_eq.2 k1
        subst k1
        clear k10
        by_cases v : val.length ≤ 3 * (P / 16)
        · have v0 : (val.length : Int) ≤ 3 * ((P : Int) / 16) := by omega
          have v1 : decide ((val.length : Int) ≤ 3 * ((P : Int) / 16)) = true := decide_eq_true (by omega)
          by_cases p : pg = 0
          · have p0 : (pg == 0) = true := beq_iff_eq.2 p
            by_cases c : ct = 0
            · have c0 : (ct == 0) = true := beq_iff_eq.2 c
              have HV : Hid (mayP 2 P ⟨key, 1, val, pg, ct⟩ = true) := Lib.hid (by unfold mayP childP thereP; dsimp only; (repeat' split) <;> first | rfl | (exfalso; omega) | exact decide_eq_true (by omega) | exact decide_eq_false (by omega))
              clear v p c
              go_upto_region 9 with (fail)
              go_quiet ((go_at_call 159; exact Calls.quiet_of_same (MostValue_any' P _ hP)))
              go_wp2_with fail
              go_ret
              rw [HV.out]
              exact ⟨rfl, below_drewN hB _⟩
            · have c0 : (ct == 0) = false := beq_eq_false_iff_ne.2 c
              have HV : Hid (mayP 2 P ⟨key, 1, val, pg, ct⟩ = false) := Lib.hid (by unfold mayP childP thereP; dsimp only; (repeat' split) <;> first | rfl | (exfalso; omega) | exact decide_eq_true (by omega) | exact decide_eq_false (by omega))
              clear v p c
              go_upto_region 9 with (fail)
              go_quiet ((go_at_call 159; exact Calls.quiet_of_same (MostValue_any' P _ hP)))
              go_wp2_with fail
              go_ret
              rw [HV.out]
              exact ⟨rfl, below_drewN hB _⟩
          · have p0 : (pg == 0) = false := beq_eq_false_iff_ne.2 p
            have HV : Hid (mayP 2 P ⟨key, 1, val, pg, ct⟩ = false) := Lib.hid (by unfold mayP childP thereP; dsimp only; (repeat' split) <;> first | rfl | (exfalso; omega) | exact decide_eq_true (by omega) | exact decide_eq_false (by omega))
            clear v p
            go_upto_region 9 with (fail)
            go_quiet ((go_at_call 159; exact Calls.quiet_of_same (MostValue_any' P _ hP)))
            go_wp2_with fail
            go_ret
            rw [HV.out]
            exact ⟨rfl, below_drewN hB _⟩
        · have v0 : ¬ (val.length : Int) ≤ 3 * ((P : Int) / 16) := by omega
          have v1 : decide ((val.length : Int) ≤ 3 * ((P : Int) / 16)) = false := decide_eq_false (by omega)
          have HV : Hid (mayP 2 P ⟨key, 1, val, pg, ct⟩ = false) := Lib.hid (by unfold mayP childP thereP; dsimp only; (repeat' split) <;> first | rfl | (exfalso; omega) | exact decide_eq_true (by omega) | exact decide_eq_false (by omega))
          clear v
          go_upto_region 9 with (fail)
          go_quiet ((go_at_call 159; exact Calls.quiet_of_same (MostValue_any' P _ hP)))
          go_wp2_with fail
          go_ret
          rw [HV.out]
          exact ⟨rfl, below_drewN hB _⟩
      · have k10 : (ck == 1) = false := beq_eq_false_iff_ne.2 k1
        by_cases k2 : ck = 2
        · have k20 : (ck == 2) = true := beq_iff_eq.2 k2
          subst k2
          clear k20 k10
          by_cases v : val.length = 0
          · have v0 : ((val.length : Int) == 0) = true := beq_iff_eq.2 (by omega)
            by_cases nb : 2 ≤ pg ∧ pg < 65536
            · have HNB : Hid (numB pg = true) := Lib.hid (decide_eq_true nb)
              by_cases g : ((3 * (P / 16) : Nat) : Int) < ct
              · have g0 : 3 * ((P : Int) / 16) < ct := by omega
                have g1 : decide (3 * ((P : Int) / 16) < ct) = true := decide_eq_true (by omega)
                by_cases h : ct ≤ 65536
                · have h0 : ct ≤ 65536 := by omega
                  have h1 : decide (ct ≤ 65536) = true := decide_eq_true (by omega)
                  have HV : Hid (mayP 2 P ⟨key, 2, val, pg, ct⟩ = true) := Lib.hid (by unfold mayP childP thereP; dsimp only; (repeat' split) <;> first | rfl | (exfalso; omega) | exact decide_eq_true (by omega) | exact decide_eq_false (by omega))
                  clear v nb g h
                  go_upto_region 11 with (fail)
                  go_quiet ((first | (go_at_call 159; exact Calls.quiet_of_same (MostValue_any' P _ hP)) | (go_at_call 158; exact Calls.quiet_of_same ((numbered_any' pg _ _ HNB.out)))))
                  go_wp2_with fail
                  go_ret
                  rw [HV.out]
                  exact ⟨rfl, below_drewN hB _⟩
                · have h0 : ¬ ct ≤ 65536 := by omega
                  have h1 : decide (ct ≤ 65536) = false := decide_eq_false (by omega)
                  have HV : Hid (mayP 2 P ⟨key, 2, val, pg, ct⟩ = false) := Lib.hid (by unfold mayP childP thereP; dsimp only; (repeat' split) <;> first | rfl | (exfalso; omega) | exact decide_eq_true (by omega) | exact decide_eq_false (by omega))
                  clear v nb g h
                  go_upto_region 11 with (fail)
                  go_quiet ((first | (go_at_call 159; exact Calls.quiet_of_same (MostValue_any' P _ hP)) | (go_at_call 158; exact Calls.quiet_of_same ((numbered_any' pg _ _ HNB.out)))))
                  go_wp2_with fail
                  go_ret
                  rw [HV.out]
                  exact ⟨rfl, below_drewN hB _⟩
              · have g0 : ¬ 3 * ((P : Int) / 16) < ct := by omega
                have g1 : decide (3 * ((P : Int) / 16) < ct) = false := decide_eq_false (by omega)
                have HV : Hid (mayP 2 P ⟨key, 2, val, pg, ct⟩ = false) := Lib.hid (by unfold mayP childP thereP; dsimp only; (repeat' split) <;> first | rfl | (exfalso; omega) | exact decide_eq_true (by omega) | exact decide_eq_false (by omega))
                clear v nb g
                go_upto_region 11 with (fail)
                go_quiet ((first | (go_at_call 159; exact Calls.quiet_of_same (MostValue_any' P _ hP)) | (go_at_call 158; exact Calls.quiet_of_same ((numbered_any' pg _ _ HNB.out)))))
                go_wp2_with fail
                go_ret
                rw [HV.out]
                exact ⟨rfl, below_drewN hB _⟩
            · have HNB : Hid (numB pg = false) := Lib.hid (decide_eq_false nb)
              have HV : Hid (mayP 2 P ⟨key, 2, val, pg, ct⟩ = false) := Lib.hid (by unfold mayP childP thereP; dsimp only; (repeat' split) <;> first | rfl | (exfalso; omega) | exact decide_eq_true (by omega) | exact decide_eq_false (by omega))
              clear v nb
              go_upto_region 11 with (fail)
              go_quiet ((first | (go_at_call 159; exact Calls.quiet_of_same (MostValue_any' P _ hP)) | (go_at_call 158; exact Calls.quiet_of_same ((numbered_any' pg _ _ HNB.out)))))
              go_wp2_with fail
              go_ret
              rw [HV.out]
              exact ⟨rfl, below_drewN hB _⟩
          · have v0 : ((val.length : Int) == 0) = false := beq_eq_false_iff_ne.2 (by omega)
            have HV : Hid (mayP 2 P ⟨key, 2, val, pg, ct⟩ = false) := Lib.hid (by unfold mayP childP thereP; dsimp only; (repeat' split) <;> first | rfl | (exfalso; omega) | exact decide_eq_true (by omega) | exact decide_eq_false (by omega))
            clear v
            go_upto_region 11 with (fail)
            go_quiet ((first | (go_at_call 159; exact Calls.quiet_of_same (MostValue_any' P _ hP)) | (go_at_call 158; exact Calls.quiet_of_same ((numbered_any' pg _ _ HNB.out)))))
            go_wp2_with fail
            go_ret
            rw [HV.out]
            exact ⟨rfl, below_drewN hB _⟩
        · have k20 : (ck == 2) = false := beq_eq_false_iff_ne.2 k2
          by_cases k4 : ck = 4
          · have k40 : (ck == 4) = true := beq_iff_eq.2 k4
            subst k4
            clear k40 k20 k10
            by_cases v : val.length = 0
            · have v0 : ((val.length : Int) == 0) = true := beq_iff_eq.2 (by omega)
              by_cases p : pg = 0
              · have p0 : (pg == 0) = true := beq_iff_eq.2 p
                by_cases c : ct = 0
                · have c0 : (ct == 0) = true := beq_iff_eq.2 c
                  have HV : Hid (mayP 2 P ⟨key, 4, val, pg, ct⟩ = true) := Lib.hid (by unfold mayP childP thereP; dsimp only; (repeat' split) <;> first | rfl | (exfalso; omega) | exact decide_eq_true (by omega) | exact decide_eq_false (by omega))
                  clear v p c
                  go_wp2_with fail
                  go_ret
                  rw [HV.out]
                  exact ⟨rfl, hB⟩
                · have c0 : (ct == 0) = false := beq_eq_false_iff_ne.2 c
                  have nb : ¬ (2 ≤ pg ∧ pg < 65536) := by omega
                  have HNB : Hid (numB pg = false) := Lib.hid (decide_eq_false nb)
                  have HV : Hid (mayP 2 P ⟨key, 4, val, pg, ct⟩ = false) := Lib.hid (by unfold mayP childP thereP; dsimp only; (repeat' split) <;> first | rfl | (exfalso; omega) | exact decide_eq_true (by omega) | exact decide_eq_false (by omega))
                  clear v p c nb
                  go_wp2_with (first | (go_at_call 158; refine (numbered_any pg _).mono ?_; rintro e w7 ⟨rfl, rfl⟩; rw [HNB.out]) | fail)
                  go_ret
                  rw [HV.out]
                  exact ⟨rfl, hB⟩
              · have p0 : (pg == 0) = false := beq_eq_false_iff_ne.2 p
                by_cases nb : 2 ≤ pg ∧ pg < 65536
                · have HNB : Hid (numB pg = true) := Lib.hid (decide_eq_true nb)
                  by_cases g : 1 ≤ ct
                  · have g0 : (1 : Int) ≤ ct := by omega
                    by_cases h : ct ≤ 1073741824
                    · have h0 : ct ≤ 1073741824 := by omega
                      have h1 : decide (ct ≤ 1073741824) = true := decide_eq_true (by omega)
                      have HV : Hid (mayP 2 P ⟨key, 4, val, pg, ct⟩ = true) := Lib.hid (by unfold mayP childP thereP; dsimp only; (repeat' split) <;> first | rfl | (exfalso; omega) | exact decide_eq_true (by omega) | exact decide_eq_false (by omega))
                      clear v p nb g h
                      go_wp2_with (first | (go_at_call 158; refine (numbered_any pg _).mono ?_; rintro e w7 ⟨rfl, rfl⟩; rw [HNB.out]) | fail)
                      go_ret
                      rw [HV.out]
                      exact ⟨rfl, hB⟩
                    · have h0 : ¬ ct ≤ 1073741824 := by omega
                      have h1 : decide (ct ≤ 1073741824) = false := decide_eq_false (by omega)
                      have HV : Hid (mayP 2 P ⟨key, 4, val, pg, ct⟩ = false) := Lib.hid (by unfold mayP childP thereP; dsimp only; (repeat' split) <;> first | rfl | (exfalso; omega) | exact decide_eq_true (by omega) | exact decide_eq_false (by omega))
                      clear v p nb g h
                      go_wp2_with (first | (go_at_call 158; refine (numbered_any pg _).mono ?_; rintro e w7 ⟨rfl, rfl⟩; rw [HNB.out]) | fail)
                      go_ret
                      rw [HV.out]
                      exact ⟨rfl, hB⟩
                  · have g0 : ¬ (1 : Int) ≤ ct := by omega
                    have HV : Hid (mayP 2 P ⟨key, 4, val, pg, ct⟩ = false) := Lib.hid (by unfold mayP childP thereP; dsimp only; (repeat' split) <;> first | rfl | (exfalso; omega) | exact decide_eq_true (by omega) | exact decide_eq_false (by omega))
                    clear v p nb g
                    go_wp2_with (first | (go_at_call 158; refine (numbered_any pg _).mono ?_; rintro e w7 ⟨rfl, rfl⟩; rw [HNB.out]) | fail)
                    go_ret
                    rw [HV.out]
                    exact ⟨rfl, hB⟩
                · have HNB : Hid (numB pg = false) := Lib.hid (decide_eq_false nb)
                  have HV : Hid (mayP 2 P ⟨key, 4, val, pg, ct⟩ = false) := Lib.hid (by unfold mayP childP thereP; dsimp only; (repeat' split) <;> first | rfl | (exfalso; omega) | exact decide_eq_true (by omega) | exact decide_eq_false (by omega))
                  clear v p nb
                  go_wp2_with (first | (go_at_call 158; refine (numbered_any pg _).mono ?_; rintro e w7 ⟨rfl, rfl⟩; rw [HNB.out]) | fail)
                  go_ret
                  rw [HV.out]
                  exact ⟨rfl, hB⟩
            · have v0 : ((val.length : Int) == 0) = false := beq_eq_false_iff_ne.2 (by omega)
              have HV : Hid (mayP 2 P ⟨key, 4, val, pg, ct⟩ = false) := Lib.hid (by unfold mayP childP thereP; dsimp only; (repeat' split) <;> first | rfl | (exfalso; omega) | exact decide_eq_true (by omega) | exact decide_eq_false (by omega))
              clear v
              go_wp2_with fail
              go_ret
              rw [HV.out]
              exact ⟨rfl, hB⟩
          · have k40 : (ck == 4) = false := beq_eq_false_iff_ne.2 k4
            have HV : Hid (mayP 2 P ⟨key, ck, val, pg, ct⟩ = false) := Lib.hid (by unfold mayP childP thereP; dsimp only; (repeat' split) <;> first | rfl | (exfalso; omega) | exact decide_eq_true (by omega) | exact decide_eq_false (by omega))
            clear k1 k2 k4
            go_wp2_with fail
            go_ret
            rw [HV.out]
            exact ⟨rfl, hB⟩
  · skip
    by_cases k : ck = 3
    · have k0 : (ck == 3) = true := beq_iff_eq.2 k
      by_cases v : val.length = 0
      · have v0 : ((val.length : Int) == 0) = true := beq_iff_eq.2 (by omega)
        by_cases nb : 2 ≤ pg ∧ pg < 65536
        · have HNB : Hid (numB pg = true) := Lib.hid (decide_eq_true nb)
          by_cases g : 1 ≤ ct
          · have g0 : (1 : Int) ≤ ct := by omega
            by_cases h : ct ≤ 1073741824
            · have h0 : ct ≤ 1073741824 := by omega
              have h1 : decide (ct ≤ 1073741824) = true := decide_eq_true (by omega)
              have HV : Hid (mayP 3 P ⟨key, ck, val, pg, ct⟩ = true) := Lib.hid (by unfold mayP childP thereP; dsimp only; (repeat' split) <;> first | rfl | (exfalso; omega) | exact decide_eq_true (by omega) | exact decide_eq_false (by omega))
              clear k v nb g h
              go_wp2_with (first | (go_at_call 158; refine (numbered_any pg _).mono ?_; rintro e w7 ⟨rfl, rfl⟩; rw [HNB.out]) | fail)
              go_ret
              rw [HV.out]
              exact ⟨rfl, hB⟩
            · have h0 : ¬ ct ≤ 1073741824 := by omega
              have h1 : decide (ct ≤ 1073741824) = false := decide_eq_false (by omega)
              have HV : Hid (mayP 3 P ⟨key, ck, val, pg, ct⟩ = false) := Lib.hid (by unfold mayP childP thereP; dsimp only; (repeat' split) <;> first | rfl | (exfalso; omega) | exact decide_eq_true (by omega) | exact decide_eq_false (by omega))
              clear k v nb g h
              go_wp2_with (first | (go_at_call 158; refine (numbered_any pg _).mono ?_; rintro e w7 ⟨rfl, rfl⟩; rw [HNB.out]) | fail)
              go_ret
              rw [HV.out]
              exact ⟨rfl, hB⟩
          · have g0 : ¬ (1 : Int) ≤ ct := by omega
            have HV : Hid (mayP 3 P ⟨key, ck, val, pg, ct⟩ = false) := Lib.hid (by unfold mayP childP thereP; dsimp only; (repeat' split) <;> first | rfl | (exfalso; omega) | exact decide_eq_true (by omega) | exact decide_eq_false (by omega))
            clear k v nb g
            go_wp2_with (first | (go_at_call 158; refine (numbered_any pg _).mono ?_; rintro e w7 ⟨rfl, rfl⟩; rw [HNB.out]) | fail)
            go_ret
            rw [HV.out]
            exact ⟨rfl, hB⟩
        · have HNB : Hid (numB pg = false) := Lib.hid (decide_eq_false nb)
          have HV : Hid (mayP 3 P ⟨key, ck, val, pg, ct⟩ = false) := Lib.hid (by unfold mayP childP thereP; dsimp only; (repeat' split) <;> first | rfl | (exfalso; omega) | exact decide_eq_true (by omega) | exact decide_eq_false (by omega))
          clear k v nb
          go_wp2_with (first | (go_at_call 158; refine (numbered_any pg _).mono ?_; rintro e w7 ⟨rfl, rfl⟩; rw [HNB.out]) | fail)
          go_ret
          rw [HV.out]
          exact ⟨rfl, hB⟩
      · have v0 : ((val.length : Int) == 0) = false := beq_eq_false_iff_ne.2 (by omega)
        have HV : Hid (mayP 3 P ⟨key, ck, val, pg, ct⟩ = false) := Lib.hid (by unfold mayP childP thereP; dsimp only; (repeat' split) <;> first | rfl | (exfalso; omega) | exact decide_eq_true (by omega) | exact decide_eq_false (by omega))
        clear k v
        go_wp2_with fail
        go_ret
        rw [HV.out]
        exact ⟨rfl, hB⟩
    · have k0 : (ck == 3) = false := beq_eq_false_iff_ne.2 k
      have HV : Hid (mayP 3 P ⟨key, ck, val, pg, ct⟩ = false) := Lib.hid (by unfold mayP childP thereP; dsimp only; (repeat' split) <;> first | rfl | (exfalso; omega) | exact decide_eq_true (by omega) | exact decide_eq_false (by omega))
      clear k
      go_wp2_with fail
      go_ret
      rw [HV.out]
      exact ⟨rfl, hB⟩
end Go.Proofs.YtfcnkpofcekmgaaGreat

-- espalierref01.Fixed, step, SumOf: walks.
namespace Go.Proofs.YtfcnkpofcekmgaaGreat
open Go.RowKit

/-! ### Fixed -/
theorem div_pow (n k : Nat) : n / 256 ^ k / 256 = n / 256 ^ (k + 1) := by rw [Nat.pow_succ, Nat.div_div_eq_div_mul]
set_option maxHeartbeats 400000 in
theorem RFixed_any (n : Nat) (hn : n < 18446744073709551616) (wd : Nat) (h1 : 1 ≤ wd) (h8 : wd ≤ 8) (w : World) :
    Calls Tryz.prog 117 #[.int .u64 n, .int .i64 wd] w fun e w' => ∃ v, e = .returned v ∧ OwB w' w.heap.size v (fixedF n wd) ∧ Below w.heap.size w w' := by
  have g1 : (1 : Int) ≤ (wd : Int) := by omega
  have g2 : (wd : Int) ≤ 8 := by omega
  go_enter Tryz.func117, Tryz.ntmps117
  go_wp2
  go_loopw [5, 6] (fun v i wr => ∃ (k : Nat), i = .int .i64 ((k : Int) - 1) ∧ k ≤ wd ∧ OwB wr w.heap.size v (fixedF (n / 256 ^ k) (wd - k)) ∧ Below w.heap.size w wr)
    (fun _ i _ => (intOf i + 1).toNat)
  case atStart => exact ⟨wd, rfl, Nat.le_refl _, by rw [Nat.sub_self]; exact OwB.nil _ _, Below.refl _ _⟩
  case round =>
    obtain ⟨k, rfl, hk, hown, hw⟩ := hrel
    rcases Nat.eq_zero_or_pos k with rfl | hpos
    · go_wp2
      go_ret
      rw [Nat.pow_zero, Nat.div_one, Nat.sub_zero] at hown
      exact ⟨_, rfl, hown, hw⟩
    · obtain ⟨k', rfl⟩ : ∃ k', k = k' + 1 := ⟨k - 1, by omega⟩
      have e1 : ((k' + 1 : Nat) : Int) - 1 = (k' : Int) := by omega
      rw [e1]
      have hfx : fixedF (n / 256 ^ k') (wd - k') = fixedF (n / 256 ^ (k' + 1)) (wd - (k' + 1)) ++ [UInt8.ofNat (n / 256 ^ k')] := by
        rw [← div_pow, show wd - k' = (wd - (k' + 1)) + 1 by omega]; rfl
      have HF := Lib.hid hfx
      clear hfx e1
      go_wp2
      obtain ⟨wo, rfl⟩ : ∃ wo : World, wo = wr := ⟨_, rfl⟩
      go_loop [7, 8] (fun m i => ∃ (j : Nat), i = .int .i64 (j : Int) ∧ j ≤ k' ∧ m = .int .u64 (n / 256 ^ j : Nat)) (fun _ i => k' - (intOf i).toNat)
      case atStart => exact ⟨0, rfl, Nat.zero_le _, by simp⟩
      case round =>
        obtain ⟨j, rfl, hj, rfl⟩ := hrel
        have hq : n / 256 ^ j < 18446744073709551616 := Nat.lt_of_le_of_lt (Nat.div_le_self _ _) hn
        by_cases hlt : j < k'
        · have HD := Lib.hid (div_pow n j)
          generalize n / 256 ^ j = q at *
          go_wp2
          go_round
          case rel => exact ⟨j + 1, by go_num, by omega, by rw [← HD.out]; go_num⟩
          case measure => simp [intOf]; omega
        · obtain rfl : j = k' := by omega
          have hlen := fixedF_length (n / 256 ^ (j + 1)) (wd - (j + 1))
          have hlen2 : (fixedF (n / 256 ^ (j + 1)) (wd - (j + 1))).length ≤ 8 := by omega
          generalize fixedF (n / 256 ^ (j + 1)) (wd - (j + 1)) = l at *
          generalize hqq : n / 256 ^ j = q at *
          have HQ := Lib.hid hqq
          clear hlen hqq
          go_wp2_with (first | (at_builtin; refine wp_append_B1 rfl (.tmp 30) (.tmp 34) rfl w.heap.size _ l rfl hown (UInt8.ofNat q) _ (congrArg (Value.int .u8) (u8_byte q).symm) 5 rfl (by omega) hw.size ?_; intro v1 w1 hown1 hg1 _hat1))
          go_roundw
          case rel =>
            rw [← HF.out, ← HQ.out] at hown1
            exact ⟨j, rfl, by omega, hown1, hw.grown hg1 hw.size (fun k hk => (hown.lt k hk).1)⟩
          case measure => simp [intOf]
theorem RFixed_4 (n : Nat) (hn : n < 18446744073709551616) (w : World) :
    Calls Tryz.prog 117 #[.int .u64 n, .int .i64 4] w fun e w' => ∃ v, e = .returned v ∧ OwB w' w.heap.size v (fixedF n 4) ∧ Below w.heap.size w w' :=
  RFixed_any n hn 4 (by omega) (by omega) w
set_option maxHeartbeats 400000 in
theorem step_any (r : Nat) (h : r < 4294967296) (x : UInt8) (w : World) :
    Calls Tryz.prog 160 #[.int .u32 r, .int .u8 (x.toNat : Int)] w fun e w' => e = .returned (.int .u32 (crcByte r x : Nat)) ∧ w = w' := by
  have hxb : x.toNat < 256 := x.toNat_lt
  have hx := u32_xor_nat r x.toNat h (by omega)
  have hy : r ^^^ x.toNat < 4294967296 := Nat.xor_lt_two_pow (n := 32) h (by omega)
  have HB : Hid (crcByte r x = crcN 8 (r ^^^ x.toNat)) := rfl
  generalize x.toNat = b at *
  generalize r ^^^ b = y at *
  go_enter Tryz.func160, Tryz.ntmps160
  go_wp2
  go_loop [5, 6] (fun q i => ∃ j : Nat, i = .int .i64 (j : Int) ∧ j ≤ 8 ∧ q = .int .u32 (crcN j y : Nat)) (fun _ i => 8 - (intOf i).toNat)
  case atStart => exact ⟨0, rfl, by omega, rfl⟩
  case round =>
    obtain ⟨j, rfl, hj, rfl⟩ := hrel
    by_cases hlt : j < 8
    · have hq := crcN_lt j y hy
      have hs : crcN (j + 1) y = crcBit (crcN j y) := crcN_add j 1 y
      have HS := Lib.hid hs
      clear hs
      generalize crcN j y = q at *
      by_cases hodd : q % 2 = 1
      · have e1 : ((q : Int) % 2 == 1) = true := by simp; omega
        have e2 : bits .xor .u32 ((q : Int) / 2) 2197175160 = (crcBit q : Nat) := by
          rw [crcBit, if_pos hodd]; exact u32_xor_nat (q / 2) 2197175160 (by omega) (by omega)
        clear hodd
        go_wp2
        go_round
        case rel => exact ⟨j + 1, by go_num, by omega, by rw [HS.out]⟩
        case measure => simp [intOf]; omega
      · have e1 : ((q : Int) % 2 == 1) = false := by simp; omega
        have e2 : Hid (crcBit q = q / 2) := by unfold crcBit; exact if_neg hodd
        clear hodd
        go_wp2
        go_round
        case rel => exact ⟨j + 1, by go_num, by omega, by rw [HS.out, e2.out]; go_num⟩
        case measure => simp [intOf]; omega
    · obtain rfl : j = 8 := by omega
      rw [← HB.out]
      go_wp2
      go_ret
      exact ⟨rfl, rfl⟩
end Go.Proofs.YtfcnkpofcekmgaaGreat

-- espalierref06.bytesOf, Size: walks.
namespace Go.Proofs.YtfcnkpofcekmgaaGreat
open Go.RowKit
theorem OwB.below2 {w w' : World} {b : Nat} {v : Value} {l : List UInt8} (h : OwB w b v l) (hb : Below w.heap.size w w') : OwB w' b v l := Own.below' h hb (Nat.le_refl _)
theorem RFixed_2 (n : Nat) (hn : n < 18446744073709551616) (w : World) : Calls Tryz.prog 117 #[.int .u64 n, .int .i64 2] w fun e w' => ∃ v, e = .returned v ∧ OwB w' w.heap.size v (fixedF n 2) ∧ Below w.heap.size w w' :=
  RFixed_any n hn 2 (by omega) (by omega) w
def BytesAt (w : World) (l : List UInt8) (e : Ending) (w' : World) : Prop := ∃ v, e = .returned v ∧ OwB w' w.heap.size v l ∧ Below w.heap.size w w'
set_option maxRecDepth 100000 in
set_option maxHeartbeats 8000000 in
theorem bytesOf_any (P : Nat) (hP : P ≤ 65536) (x : CV) (w : World) (hx : x.ok w) (hok : OkC P x.c) : Calls Tryz.prog 118 #[cellV x] w (BytesAt w (cellF x.c)) := by
  have k0 := hok.k0
  have kd := hok.kd
  have v0 := hok.v0
  have v1 := hok.v1
  obtain ⟨A, ca, B, cb, key, ck, val, pg, ct, rfl, _, _⟩ := CV.form hx
  have hxk : RdB w (.slice A key.length ca) key := hx.k
  have hxv : RdB w (.slice B val.length cb) val := hx.v
  simp only at k0 kd v0 v1
  have hA : Below w.heap.size w (w.alloc (.cells #[.slice A key.length ca, .int .i64 ck, .slice B val.length cb, .int .i64 pg, .int .i64 ct] 43)) := (Below.refl _ _).alloc (Nat.le_refl _) _
  have hcb := OBlk.new' w 43 [.slice A key.length ca, .int .i64 ck, .slice B val.length cb, .int .i64 pg, .int .i64 ct]
  unfold cellV
  clear hx hok
  go_enter Tryz.func118, Tryz.ntmps118
  go_upto_region 1 with (fail)
  generalize w.alloc (.cells #[.slice A key.length ca, .int .i64 ck, .slice B val.length cb, .int .i64 pg, .int .i64 ct] 43) = w0 at *
  obtain ⟨kn, rfl⟩ := Int.eq_ofNat_of_zero_le (show 0 ≤ ck by omega)
  have hkb : ((kn : Nat) : Int) % 256 = ((UInt8.ofNat kn).toNat : Int) := by rw [UInt8.toNat_ofNat']; omega
  have HKB := Lib.hid hkb
  have k1 := hcb.cell' (j := 1) rfl
  have kn4 : kn ≤ 4 := by omega
  have hkw : IntKind.u8.wrap (kn : Int) = (kn : Int) := by rw [IntKind.wrap_u8]; omega
  clear hkb
  go_upto_region 2 with (fail)
  have hkn : (kn : Int) = ((UInt8.ofNat kn).toNat : Int) := by rw [UInt8.toNat_ofNat']; omega
  have ho1 : OwB (w0.alloc (.cells #[.int .u8 (kn : Int)] 5)) w.heap.size (.slice (some ⟨w0.heap.size, 0, none⟩) 1 1) [UInt8.ofNat kn] := by
    have h := (OBlk.new' w0 5 (bvs [UInt8.ofNat kn])).owB' (base := w.heap.size) (m := [UInt8.ofNat kn]) hA.size (by simp [maxLen])
    have e : bvs [UInt8.ofNat kn] = [Value.int .u8 (kn : Int)] := by rw [hkn]; rfl
    rw [e] at h
    exact h
  have hb01 : Below w0.heap.size w0 (w0.alloc (.cells #[.int .u8 (kn : Int)] 5)) := (Below.refl _ _).alloc (Nat.le_refl _) _
  have hB1 := hA.trans (hb01.mono hA.size)
  have hcb1 := hcb.below hb01 hcb.lt
  clear hkn hb01 hcb k1
  generalize w0.alloc (.cells #[.int .u8 (kn : Int)] 5) = w1 at *
  generalize w0.heap.size = g1 at *
  have j0 := hcb1.cell' (j := 0) rfl
  have hwn : IntKind.u64.wrap (key.length : Int) = (key.length : Int) := IntWalk.u64_in _ (by omega)
  go_upto_region 3 with (first
    | (go_at_call 117; refine (RFixed_2 key.length (by omega) _).mono ?_; rintro e w2 ⟨v2, rfl, ho2, hb2⟩)
    | (at_builtin; refine wp_append_B rfl (.tmp 8) (.tmp 13) rfl w.heap.size _ _ rfl (ho1.below2 hb2) _ _ rfl ho2.rd (by simp [fixedF_length]) (Nat.le_trans hB1.size hb2.size) ?_; intro v3 w3 ho3 hg3 hk3)
    | fail)
  have hB2 := hB1.trans (hb2.mono hB1.size)
  have hB3 := hB2.grown hg3 hB2.size (fun k e => (Own.lt ho1 k e).1)
  have hl3 : ([UInt8.ofNat kn] ++ fixedF key.length 2).length = 3 := by simp [fixedF_length]
  obtain ⟨g3, c3, hv3⟩ := ho3.some' hl3 (by omega)
  subst hv3
  have hcb3 : OBlk w3 w.heap.size 43 _ := (hcb1.below hb2 hcb1.lt).grown hg3 (fun e => OwB.ne_blk (ho1.below2 hb2) (hcb1.below hb2 hcb1.lt) (by decide) e)
  clear hcb1 ho1 ho2 hb2 hg3 hk3 hB1 hB2 j0 hwn
  have j0 := hcb3.cell' (j := 0) rfl
  have hk3 := hxk.below hB3 (Nat.le_refl _)
  go_upto_region 4 with (first
    | (at_builtin; refine wp_append_B rfl (.tmp 15) (.tmp 17) rfl w.heap.size _ _ rfl ho3 _ _ rfl hk3 (by rw [hl3]; omega) hB3.size ?_; intro v4 w4 ho4 hg4 hk4)
    | fail)
  have hB4 := hB3.grown hg4 hB3.size (fun k e => (Own.lt ho3 k e).1)
  obtain ⟨n4, hl4⟩ : ∃ n, ([UInt8.ofNat kn] ++ fixedF key.length 2 ++ key).length = n := ⟨_, rfl⟩
  have hn4 : n4 = 3 + key.length := by rw [← hl4, List.length_append, hl3]
  obtain ⟨g4, c4, hv4⟩ := ho4.some' hl4 (by omega)
  subst hv4
  have hcb4 : OBlk w4 w.heap.size 43 _ := hcb3.grown hg4 (fun e => OwB.ne_blk ho3 hcb3 (by decide) e)
  clear hcb3 ho3 hk3 hg4 hk4 hB3 j0
  have j1 := hcb4.cell' (j := 1) rfl
  have j2 := hcb4.cell' (j := 2) rfl
  have j3 := hcb4.cell' (j := 3) rfl
  have j4 := hcb4.cell' (j := 4) rfl
  have HL4 := Lib.hid hl4
  have hn4' : n4 ≤ 140000 := by omega
  clear hl4 hn4
  by_cases hk1 : kn = 1
  · subst hk1
    obtain ⟨hv0, _, _⟩ := v0 rfl
    have HC : Hid (cellF ⟨key, ((1 : Nat) : Int), val, pg, ct⟩ = ([UInt8.ofNat 1] ++ fixedF key.length 2 ++ key) ++ fixedF val.length 2 ++ val) := Lib.hid (by simp [cellF, tailF])
    have hwn : IntKind.u64.wrap (val.length : Int) = (val.length : Int) := IntWalk.u64_in _ (by omega)
    have h11 : (((1 : Nat) : Int) == 1) = true := rfl
    clear v0 v1 kd
    go_upto_region 6 with (first
      | (go_at_call 117; refine (RFixed_2 val.length (by omega) _).mono ?_; rintro e w5 ⟨v5, rfl, ho5, hb5⟩)
      | (at_builtin; refine wp_append_B rfl (.tmp 22) (.tmp 27) rfl w.heap.size _ _ rfl (ho4.below2 hb5) _ _ rfl ho5.rd (by rw [HL4.out, fixedF_length]; omega) (Nat.le_trans hB4.size hb5.size) ?_; intro v6 w6 ho6 hg6 hk6)
      | fail)
    have hB5 := hB4.trans (hb5.mono hB4.size)
    have hB6 := hB5.grown hg6 hB5.size (fun k e => (Own.lt ho4 k e).1)
    have hl6 : ([UInt8.ofNat 1] ++ fixedF key.length 2 ++ key ++ fixedF val.length 2).length = n4 + 2 := by rw [List.length_append, HL4.out, fixedF_length]
    obtain ⟨g6, c6, hv6⟩ := ho6.some' hl6 (by omega)
    subst hv6
    have hcb6 : OBlk w6 w.heap.size 43 _ := (hcb4.below hb5 hcb4.lt).grown hg6 (fun e => OwB.ne_blk (ho4.below2 hb5) (hcb4.below hb5 hcb4.lt) (by decide) e)
    have hvr := hxv.below hB6 (Nat.le_refl _)
    clear hcb4 ho4 ho5 hb5 hg6 hk6 hB4 hB5 j1 j2 j3 j4
    have j2 := hcb6.cell' (j := 2) rfl
    go_wp2_with (first
      | (at_builtin; refine wp_append_B rfl (.tmp 29) (.tmp 31) rfl w.heap.size _ _ rfl ho6 _ _ rfl hvr (by rw [hl6]; omega) hB6.size ?_; intro v7 w7 ho7 hg7 hk7)
      | fail)
    go_ret
    rw [HC.out]
    exact ⟨v7, rfl, ho7, hB6.grown hg7 hB6.size (fun k e => (Own.lt ho6 k e).1)⟩
  · have hkf : ((kn : Int) == 1) = false := beq_eq_false_iff_ne.2 (by omega)
    obtain ⟨_, hp1, hp2, hc1, hc2⟩ := v1 (by omega)
    obtain ⟨pn, rfl⟩ := Int.eq_ofNat_of_zero_le hp1
    obtain ⟨cn, rfl⟩ := Int.eq_ofNat_of_zero_le hc1
    have HC : Hid (cellF ⟨key, (kn : Int), val, (pn : Int), (cn : Int)⟩ = ([UInt8.ofNat kn] ++ fixedF key.length 2 ++ key) ++ fixedF pn 4 ++ fixedF cn 4) := Lib.hid (by
      have hk2 : ¬ (kn : Int) = 1 := by omega
      simp [cellF, tailF, hk2, List.append_assoc])
    have hpw : IntKind.u64.wrap (pn : Int) = (pn : Int) := IntWalk.u64_in _ (by omega)
    have hcw : IntKind.u64.wrap (cn : Int) = (cn : Int) := IntWalk.u64_in _ (by omega)
    clear v0 v1 kd hk1
    go_upto_region 8 with (first
      | (go_at_call 117; refine (RFixed_4 pn (by omega) _).mono ?_; rintro e w5 ⟨v5, rfl, ho5, hb5⟩)
      | (at_builtin; refine wp_append_B rfl (.tmp 33) (.tmp 37) rfl w.heap.size _ _ rfl (ho4.below2 hb5) _ _ rfl ho5.rd (by rw [HL4.out, fixedF_length]; omega) (Nat.le_trans hB4.size hb5.size) ?_; intro v6 w6 ho6 hg6 hk6)
      | fail)
    have hB5 := hB4.trans (hb5.mono hB4.size)
    have hB6 := hB5.grown hg6 hB5.size (fun k e => (Own.lt ho4 k e).1)
    have hl6 : ([UInt8.ofNat kn] ++ fixedF key.length 2 ++ key ++ fixedF pn 4).length = n4 + 4 := by rw [List.length_append, HL4.out, fixedF_length]
    obtain ⟨g6, c6, hv6⟩ := ho6.some' hl6 (by omega)
    subst hv6
    have hcb6 : OBlk w6 w.heap.size 43 _ := (hcb4.below hb5 hcb4.lt).grown hg6 (fun e => OwB.ne_blk (ho4.below2 hb5) (hcb4.below hb5 hcb4.lt) (by decide) e)
    clear hcb4 ho4 ho5 hb5 hg6 hk6 hB4 hB5 j1 j2 j3 j4
    have j4 := hcb6.cell' (j := 4) rfl
    go_wp2_with (first
      | (go_at_call 117; refine (RFixed_4 cn (by omega) _).mono ?_; rintro e w7 ⟨v7, rfl, ho7, hb7⟩)
      | (at_builtin; refine wp_append_B rfl (.tmp 39) (.tmp 43) rfl w.heap.size _ _ rfl (ho6.below2 hb7) _ _ rfl ho7.rd (by rw [hl6, fixedF_length]; omega) (Nat.le_trans hB6.size hb7.size) ?_; intro v8 w8 ho8 hg8 hk8)
      | fail)
    go_ret
    rw [HC.out]
    exact ⟨v8, rfl, ho8, (hB6.trans (hb7.mono hB6.size)).grown hg8 (Nat.le_trans hB6.size hb7.size) (fun k e => (Own.lt ho6 k e).1)⟩
theorem sizeF_cell (c : PC) : 2 + longF c = if c.kind = 1 then 7 + c.key.length + c.val.length else 13 + c.key.length := by
  unfold longF; split <;> omega
set_option maxRecDepth 100000 in
set_option maxHeartbeats 4000000 in
theorem RSize_any (kind : Int) (v : Value) (l : List CV) (w : World) (hl : RdCs w v l) (hf : Fit (pcs l)) :
    Calls Tryz.prog 116 #[.int .i64 kind, v] w fun e w' => e = .returned (.int .i64 (sizeF (pcs l) : Nat)) ∧ Below w.heap.size w w' := by
  obtain ⟨A, c, rfl, hm, hc⟩ := hl.slice
  obtain ⟨hf1, hf2⟩ := hf
  have HF2 := Lib.hid hf2
  clear hf2
  go_enter Tryz.func116, Tryz.ntmps116
  go_wp2_with fail
  go_loopw [5, 6] (fun n i wr => ∃ k : Nat, k ≤ l.length ∧ i = .int .i64 (k : Int) ∧ n = .int .i64 (sizeF ((pcs l).take k) : Nat) ∧ Below w.heap.size w wr) (fun _ i _ => l.length - (intOf i).toNat)
  case atStart => exact ⟨0, Nat.zero_le _, rfl, rfl, Below.refl _ _⟩
  case round =>
    obtain ⟨k, hk, rfl, rfl, hB⟩ := hrel
    by_cases hlt : k < l.length
    · have ik : (k : Int) < (l.length : Int) := by omega
      have hS := sizeF_take (pcs l) (i := k) (by rw [pcs_length]; exact hlt)
      have hS1 := sizeF_take_le (pcs l) (k + 1)
      rw [pcs_at hlt, sizeF_cell] at hS
      have hmem : l[k].c ∈ pcs l := by rw [← pcs_at hlt]; exact List.getElem_mem _
      have hkv := HF2.out _ hmem
      obtain ⟨ad, rfl, c0, c1, c2, c3, c4⟩ := (hl.below hB).at_ hlt
      have hx := (hl.below hB).ok _ (List.getElem_mem hlt)
      generalize l[k] = x at *
      obtain ⟨A1, a1, B1, b1, key, ck, val, pg, ct, rfl, _, _⟩ := CV.form hx
      simp only at hS hkv
      have hAl : Below wr.heap.size wr (wr.alloc (.cells #[.slice A1 key.length a1, .int .i64 ck, .slice B1 val.length b1, .int .i64 pg, .int .i64 ct] 43)) := (Below.refl _ _).alloc (Nat.le_refl _) _
      have hB2 := hB.trans (hAl.mono hB.size)
      have hcb := OBlk.new' wr 43 [.slice A1 key.length a1, .int .i64 ck, .slice B1 val.length b1, .int .i64 pg, .int .i64 ct]
      clear hx hmem
      by_cases hk1 : ck = 1
      · subst hk1
        rw [if_pos rfl] at hS
        have HS := Lib.hid hS
        have hb1 : sizeF ((pcs l).take k) + 7 + key.length + val.length ≤ 4611686018427387904 := by omega
        clear hS hS1 hkv
        generalize sizeF ((pcs l).take k) = s at *
        have i1 : IntKind.i64.wrap ((s : Int) + 7) = (s : Int) + 7 := by rw [IntKind.wrap_i64]; omega
        have i2 : IntKind.i64.wrap ((s : Int) + 7 + (key.length : Int)) = (s : Int) + 7 + (key.length : Int) := by rw [IntKind.wrap_i64]; omega
        have i3 : IntKind.i64.wrap ((s : Int) + 7 + (key.length : Int) + (val.length : Int)) = (s : Int) + 7 + (key.length : Int) + (val.length : Int) := by rw [IntKind.wrap_i64]; omega
        go_upto_region 6 with (fail)
        generalize wr.alloc (.cells #[.slice A1 key.length a1, .int .i64 1, .slice B1 val.length b1, .int .i64 pg, .int .i64 ct] 43) = w2 at *
        obtain ⟨e0, e1, e2, _, _⟩ := cells5 hcb
        go_wp2_with fail
        exact ⟨⟨k + 1, by omega, by go_num, by rw [HS.out]; go_num, hB2⟩, by simp [intOf]; omega⟩
      · have hkf : (ck == 1) = false := beq_eq_false_iff_ne.2 hk1
        rw [if_neg hk1] at hS
        have HS := Lib.hid hS
        have hb1 : sizeF ((pcs l).take k) + 13 + key.length ≤ 4611686018427387904 := by omega
        clear hS hS1 hkv hk1
        generalize sizeF ((pcs l).take k) = s at *
        have i1 : IntKind.i64.wrap ((s : Int) + 13) = (s : Int) + 13 := by rw [IntKind.wrap_i64]; omega
        have i2 : IntKind.i64.wrap ((s : Int) + 13 + (key.length : Int)) = (s : Int) + 13 + (key.length : Int) := by rw [IntKind.wrap_i64]; omega
        go_upto_region 6 with (fail)
        generalize wr.alloc (.cells #[.slice A1 key.length a1, .int .i64 ck, .slice B1 val.length b1, .int .i64 pg, .int .i64 ct] 43) = w2 at *
        obtain ⟨e0, e1, e2, _, _⟩ := cells5 hcb
        go_wp2_with fail
        exact ⟨⟨k + 1, by omega, by go_num, by rw [HS.out]; go_num, hB2⟩, by simp [intOf]; omega⟩
    · obtain rfl : k = l.length := by omega
      have e : (pcs l).take l.length = pcs l := List.take_of_length_le (by rw [pcs_length]; omega)
      rw [e]
      go_wp2_with fail
      go_ret
      exact ⟨rfl, hB⟩
end Go.Proofs.YtfcnkpofcekmgaaGreat

-- The page sizes as powers of two.
namespace Go.Proofs.YtfcnkpofcekmgaaGreat
open Go.RowKit
def pw (j : Nat) : Int := 512 * 2 ^ j
theorem isPow_pw (p : Int) : isPow p ↔ ∃ j, j < 8 ∧ p = pw j := by
  unfold isPow pw
  constructor
  · rintro (h | h | h | h | h | h | h | h)
    · exact ⟨0, by omega, h⟩
    · exact ⟨1, by omega, h⟩
    · exact ⟨2, by omega, h⟩
    · exact ⟨3, by omega, h⟩
    · exact ⟨4, by omega, h⟩
    · exact ⟨5, by omega, h⟩
    · exact ⟨6, by omega, h⟩
    · exact ⟨7, by omega, h⟩
  · rintro ⟨j, hj, rfl⟩
    rcases (by omega : j = 0 ∨ j = 1 ∨ j = 2 ∨ j = 3 ∨ j = 4 ∨ j = 5 ∨ j = 6 ∨ j = 7) with rfl | rfl | rfl | rfl | rfl | rfl | rfl | rfl <;> simp
end Go.Proofs.YtfcnkpofcekmgaaGreat
