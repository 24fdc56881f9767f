/- espalierlaw07.PackedNumbers: the statement 'PackedNumbersSaid' is proved: the law returns true. -/
import Derived.Test.YtaniabhajngdeaaKN2
import Derived.Test.YtaniabhajngdeaaKN3
import Derived.Test.YtaniabhajngdeaaKN4
import Derived.Test.YtaniabhajngdeaaKN5
import Derived.Test.YtaniabhajngdeaaKN14
import Derived.Deep.RegionHeld3
import Derived.Lib.SlBytesConst
import Derived.Below
import Derived.ChangeSame
import Derived.WalkKit
import Derived.ProofKit
import Derived.OpenShut
import Derived.SizedLaws
import Derived.Carry
import Derived.Lib.SmallJoins
import Derived.WideKeyArgs
import Derived.Test.YtaniabhajngdeaaRows
-- espalierref07.Same, SameAll: walks.
namespace Go.Proofs.Ytaniabhajngdeaa
open Go.RowKit
def sameB (a b : PC) : Bool := (a.key == b.key) && ((a.val == b.val) && ((a.kind == b.kind) && ((a.page == b.page) && (a.count == b.count))))
theorem sameB_iff {a b : PC} : sameB a b = true ↔ a = b := by
  obtain ⟨k, kd, v, p, c⟩ := a
  obtain ⟨k', kd', v', p', c'⟩ := b
  unfold sameB
  simp only [Bool.and_eq_true, beq_iff_eq]
  constructor
  · rintro ⟨rfl, rfl, rfl, rfl, rfl⟩; rfl
  · intro h; injection h with h1 h2 h3 h4 h5; exact ⟨h1, h3, h2, h4, h5⟩
def sameAllB : List PC → List PC → Bool
  | [], [] => true
  | a :: x, b :: y => sameB a b && sameAllB x y
  | _, _ => false
theorem sameAllB_iff : ∀ {x y : List PC}, sameAllB x y = true ↔ x = y
  | [], [] => by simp [sameAllB]
  | [], _ :: _ => by simp [sameAllB]
  | _ :: _, [] => by simp [sameAllB]
  | a :: x, b :: y => by simp [sameAllB, sameB_iff, sameAllB_iff]
set_option maxRecDepth 100000 in
set_option maxHeartbeats 2000000 in
theorem RKSame_any (x y : CV) (w : World) (hx : x.ok w) (hy : y.ok w) :
    Calls Try.prog 65 #[cellV x, cellV y] w fun e w' => e = .returned (.bool (sameB x.c y.c)) ∧ Below w.heap.size w w' := by
  obtain ⟨A, ca, B, cb, key, ck, val, pg, ct, rfl, -, -⟩ := CV.form hx
  obtain ⟨A', ca', B', cb', key', ck', val', pg', ct', rfl, -, -⟩ := CV.form hy
  have hA : Below w.heap.size w ((w.alloc (.cells #[.slice A key.length ca, .int .i64 ck, .slice B val.length cb, .int .i64 pg, .int .i64 ct] 50)).alloc (.cells #[.slice A' key'.length ca', .int .i64 ck', .slice B' val'.length cb', .int .i64 pg', .int .i64 ct'] 50)) := ((Below.refl _ _).alloc (Nat.le_refl _) _).alloc (by simp) _
  have hC := (OBlk.new' w 50 [.slice A key.length ca, .int .i64 ck, .slice B val.length cb, .int .i64 pg, .int .i64 ct]).alloc (.cells #[.slice A' key'.length ca', .int .i64 ck', .slice B' val'.length cb', .int .i64 pg', .int .i64 ct'] 50)
  have hD := OBlk.new' (w.alloc (.cells #[.slice A key.length ca, .int .i64 ck, .slice B val.length cb, .int .i64 pg, .int .i64 ct] 50)) 50 [.slice A' key'.length ca', .int .i64 ck', .slice B' val'.length cb', .int .i64 pg', .int .i64 ct']
  rw [World.size_alloc] at hD
  have q1 := run_B_string (hx.below hA).k
  have q2 := run_B_string (hy.below hA).k
  have q3 := run_B_string (hx.below hA).v
  have q4 := run_B_string (hy.below hA).v
  unfold cellV
  simp only at q1 q2 q3 q4 ⊢
  have HV : Hid (sameB ⟨key, ck, val, pg, ct⟩ ⟨key', ck', val', pg', ct'⟩ = ((key == key') && ((val == val') && ((ck == ck') && ((pg == pg') && (ct == ct')))))) := Lib.hid rfl
  generalize sameB ⟨key, ck, val, pg, ct⟩ ⟨key', ck', val', pg', ct'⟩ = V at *
  clear hx hy
  go_enter Try.func65, Try.ntmps65
  go_upto_region 1 with (fail)
  generalize ((w.alloc (.cells #[.slice A key.length ca, .int .i64 ck, .slice B val.length cb, .int .i64 pg, .int .i64 ct] 50)).alloc (.cells #[.slice A' key'.length ca', .int .i64 ck', .slice B' val'.length cb', .int .i64 pg', .int .i64 ct'] 50)) = w1 at *
  obtain ⟨c0, c1, c2, c3, c4⟩ := cells5 hC
  obtain ⟨d0, d1, d2, d3, d4⟩ := cells5 hD
  cases h1 : (key == key') with
  | false =>
    have HV2 : Hid (V = false) := Lib.hid (by rw [HV.out, h1]; rfl)
    go_wp2_with fail
    go_ret
    rw [HV2.out]
    exact ⟨rfl, hA⟩
  | true =>
    cases h2 : (val == val') with
    | false =>
      have HV2 : Hid (V = false) := Lib.hid (by rw [HV.out, h1, h2]; rfl)
      go_wp2_with fail
      go_ret
      rw [HV2.out]
      exact ⟨rfl, hA⟩
    | true =>
      cases h3 : (ck == ck') with
      | false =>
        have HV2 : Hid (V = false) := Lib.hid (by rw [HV.out, h1, h2, h3]; rfl)
        go_wp2_with fail
        go_ret
        rw [HV2.out]
        exact ⟨rfl, hA⟩
      | true =>
        cases h4 : (pg == pg') with
        | false =>
          have HV2 : Hid (V = false) := Lib.hid (by rw [HV.out, h1, h2, h3, h4]; rfl)
          go_wp2_with fail
          go_ret
          rw [HV2.out]
          exact ⟨rfl, hA⟩
        | true =>
          have HV2 : Hid (V = (ct == ct')) := Lib.hid (by rw [HV.out, h1, h2, h3, h4]; rfl)
          go_wp2_with fail
          go_ret
          rw [HV2.out]
          exact ⟨rfl, hA⟩
theorem sameAllB_len : ∀ {x y : List PC}, x.length ≠ y.length → sameAllB x y = false
  | [], [], h => absurd rfl h
  | [], _ :: _, _ => rfl
  | _ :: _, [], _ => rfl
  | a :: x, b :: y, h => by
    have : x.length ≠ y.length := fun e => h (by simp [e])
    rw [sameAllB, sameAllB_len this, Bool.and_false]
set_option maxRecDepth 100000 in
set_option maxHeartbeats 2000000 in
theorem RKSameAll_any (u v : Value) (l m : List CV) (w : World) (hu : RdCs w u l) (hv : RdCs w v m) :
    Calls Try.prog 22 #[u, v] w fun e w' => e = .returned (.bool (sameAllB (pcs l) (pcs m))) ∧ Below w.heap.size w w' := by
  obtain ⟨A, c, rfl, hm, hc⟩ := hu.slice
  obtain ⟨B, d, rfl, hm2, hc2⟩ := hv.slice
  by_cases hl : l.length = m.length
  · have e1 : ((l.length : Int) != (m.length : Int)) = false := by simp [hl]
    rw [← hl] at hv hm2
    have HL := Lib.hid hl
    rw [← hl]
    clear hl
    rw [← HL.out] at e1
    obtain ⟨V, hV⟩ : ∃ V, sameAllB (pcs l) (pcs m) = V := ⟨_, rfl⟩
    rw [hV]
    have HV := Lib.hid hV
    clear hV
    go_enter Try.func22, Try.ntmps22
    go_wp2_with fail
    go_loopw [5] (fun i wr => ∃ k : Nat, k ≤ l.length ∧ i = .int .i64 (k : Int) ∧ Hid (sameAllB (pcs l) (pcs m) = sameAllB ((pcs l).drop k) ((pcs m).drop k)) ∧ Below w.heap.size w wr) (fun i _ => l.length - (intOf i).toNat)
    case atStart => exact ⟨0, Nat.zero_le _, rfl, Lib.hid rfl, Below.refl _ _⟩
    case round =>
      obtain ⟨k, hk, rfl, HS, hB⟩ := hrel
      by_cases hlt : k < l.length
      · have hlt2 : k < m.length := by rw [← HL.out]; exact hlt
        have ik : (k : Int) < (l.length : Int) := by omega
        have j1 : (0 : Int) ≤ (k : Int) := by omega
        have hst : sameAllB ((pcs l).drop k) ((pcs m).drop k) = (sameB l[k].c m[k].c && sameAllB ((pcs l).drop (k + 1)) ((pcs m).drop (k + 1))) := by
          rw [List.drop_eq_getElem_cons (show k < (pcs l).length by rw [pcs_length]; exact hlt), List.drop_eq_getElem_cons (show k < (pcs m).length by rw [pcs_length]; exact hlt2), sameAllB, pcs_at hlt, pcs_at hlt2]
        have HST := Lib.hid hst
        obtain ⟨ad, rfl, a0, a1, a2, a3, a4⟩ := (hu.below hB).at_ hlt
        obtain ⟨bd, rfl, b0, b1, b2, b3, b4⟩ := (hv.below hB).at_ hlt2
        have hx := (hu.below hB).ok _ (List.getElem_mem hlt)
        have hy := (hv.below hB).ok _ (List.getElem_mem hlt2)
        have hsm := RKSame_any l[k] m[k] wr.drew (hx.below ((Below.refl _ _).drew)) (hy.below ((Below.refl _ _).drew))
        clear hst
        generalize l[k] = x at *
        generalize m[k] = y at *
        obtain ⟨A1, p1, B1, q1, key, ck, val, pg, ct, rfl, -, -⟩ := CV.form hx
        obtain ⟨A2, p2, B2, q2, key', ck', val', pg', ct', rfl, -, -⟩ := CV.form hy
        unfold cellV at hsm
        simp only at hsm
        generalize sameB ⟨key, ck, val, pg, ct⟩ ⟨key', ck', val', pg', ct'⟩ = V1 at *
        go_upto_region 6 with (fail)
        go_cut [6] (fun s wx => s = .bool V1 ∧ Below w.heap.size w wx)
        case first =>
          go_region_held3 (fun w' => w'.cell? (ad.add (k * 5)) = some (.slice A1 key.length p1) ∧ w'.cell? ⟨(ad.add (k * 5)).block, (ad.add (k * 5)).off + 1, none⟩ = some (.int .i64 ck) ∧ w'.cell? ⟨(ad.add (k * 5)).block, (ad.add (k * 5)).off + 2, none⟩ = some (.slice B1 val.length q1) ∧ w'.cell? ⟨(ad.add (k * 5)).block, (ad.add (k * 5)).off + 3, none⟩ = some (.int .i64 pg) ∧ w'.cell? ⟨(ad.add (k * 5)).block, (ad.add (k * 5)).off + 4, none⟩ = some (.int .i64 ct) ∧
              w'.cell? (bd.add (k * 5)) = some (.slice A2 key'.length p2) ∧ w'.cell? ⟨(bd.add (k * 5)).block, (bd.add (k * 5)).off + 1, none⟩ = some (.int .i64 ck') ∧ w'.cell? ⟨(bd.add (k * 5)).block, (bd.add (k * 5)).off + 2, none⟩ = some (.slice B2 val'.length q2) ∧ w'.cell? ⟨(bd.add (k * 5)).block, (bd.add (k * 5)).off + 3, none⟩ = some (.int .i64 pg') ∧ w'.cell? ⟨(bd.add (k * 5)).block, (bd.add (k * 5)).off + 4, none⟩ = some (.int .i64 ct'))
            (first | exact ⟨a0, a1, a2, a3, a4, b0, b1, b2, b3, b4⟩ | (refine ⟨?_, ?_, ?_, ?_, ?_, ?_, ?_, ?_, ?_, ?_⟩ <;> (refine (hw2.cell (World.block_lt_of_cell? wr.drew _ (by assumption))).trans ?_; assumption)))
            (first
              | (go_at_call 65; refine hsm.mono ?_; rintro e w2 ⟨rfl, hw2⟩)
              | fail)
          go_wp2_with fail
          go_meet
          exact ⟨rfl, hB.drew.trans (hw2.mono hB.size)⟩
        case rest =>
          obtain ⟨rfl, hB2⟩ := hcut
          cases V1 with
          | true =>
            have HS2 : Hid (sameAllB (pcs l) (pcs m) = sameAllB ((pcs l).drop (k + 1)) ((pcs m).drop (k + 1))) := Lib.hid (by rw [HS.out, HST.out, Bool.true_and])
            go_wp2_with fail
            go_roundw
            case rel => exact ⟨k + 1, by omega, by go_num, HS2, hB2⟩
            case measure => simp [intOf]; omega
          | false =>
            have HV2 : Hid (V = false) := Lib.hid (by rw [← HV.out, HS.out, HST.out, Bool.false_and])
            go_wp2_with fail
            go_ret
            rw [HV2.out]
            exact ⟨rfl, hB2⟩
      · obtain rfl : k = l.length := by omega
        have HV2 : Hid (V = true) := Lib.hid (by rw [← HV.out, HS.out, List.drop_of_length_le (by rw [pcs_length]; omega), List.drop_of_length_le (by rw [pcs_length, ← HL.out]; omega)]; rfl)
        go_wp2_with fail
        go_ret
        rw [HV2.out]
        exact ⟨rfl, hB⟩
  · have e1 : ((l.length : Int) != (m.length : Int)) = true := by simp only [bne, beq_eq_false_iff_ne.2 (show (l.length : Int) ≠ (m.length : Int) by omega)]; rfl
    rw [sameAllB_len (by rw [pcs_length, pcs_length]; exact hl)]
    clear hl
    go_enter Try.func22, Try.ntmps22
    go_wp2_with fail
    go_ret
    exact ⟨rfl, Below.refl _ _⟩
end Go.Proofs.Ytaniabhajngdeaa

-- Bytes made of a constant.
namespace Go.Proofs.Ytaniabhajngdeaa
open Go.RowKit
theorem conv_id (w : World) (C : Array Value) (n c g : Nat) (hg : g = w.heap.size) : (convert 29 29 (.slice (some ⟨g, 0, none⟩) n c)).run Try.prog (w.alloc (.cells C 5)) = .ok (.slice (some ⟨g, 0, none⟩) n c) (w.alloc (.cells C 5 (C.size, C.size + 1))) := by
  subst hg; exact Lib.run_convert_bytes_const w _ _ C n c Try.underlying29 Try.underlying5
theorem RdB.litm (w : World) (l : List UInt8) (cells : Array Value) (T : TypeId) (fr : Nat × Nat) (n : Nat) (h : cells = (bvs l).toArray) (hn : l.length = n) (hm : n ≤ maxLen) : RdB (w.alloc (.cells cells T fr)) (.slice (some ⟨w.heap.size, 0, none⟩) n n) l := by
  subst h; subst hn
  refine ⟨_, _, rfl, Nat.le_refl _, hm, fun j hj => ⟨_, rfl, ?_⟩⟩
  rw [add_row, Nat.zero_add, World.cell?_alloc_mark]
  have := bvs_get' l j hj
  simpa using this
end Go.Proofs.Ytaniabhajngdeaa

-- espalierlaw07.live: the walk.
namespace Go.Proofs.Ytaniabhajngdeaa
open Go.RowKit
/-- Bytes of a block, as they are read. -/
def litE (g n : Nat) (l : List UInt8) : Ent :=
  ⟨fun b => b = g, fun w => RdB w (.slice (some ⟨g, 0, none⟩) n n) l, fun {w w'} h k => by
    obtain ⟨A, c, hv, h1, h2, h3⟩ := k
    refine ⟨A, c, hv, h1, h2, fun j hj => ?_⟩
    obtain ⟨ad, hA, hc⟩ := h3 j hj
    refine ⟨ad, hA, ?_⟩
    obtain rfl : (⟨g, 0, none⟩ : Addr) = ad := by
      injection hv with hv1
      rw [← hv1] at hA
      injection hA
    rw [add_row] at hc ⊢
    rw [World.cell?_of_block (h g rfl)]
    exact hc⟩
theorem Sep.lit {w0 w : World} {L : List Ent} (h : Sep w0 w L) (l : List UInt8) (cells : Array Value) (T : TypeId) (fr : Nat × Nat) (n : Nat) (hc : cells = (bvs l).toArray) (hn : l.length = n) (hm : n ≤ maxLen) : Sep w0 (w.alloc (.cells cells T fr)) (litE w.heap.size n l :: L) :=
  h.new ((Below.refl _ _).alloc (Nat.le_refl _) _) (RdB.litm w l cells T fr n hc hn hm) (fun g hg => by have hg' : g = w.heap.size := hg; rw [World.size_alloc]; omega)
theorem two_rd (W : World) (x y : CV) (hx : x.ok W) (hy : y.ok W) : RdCs (W.alloc (.cells #[x.kv, .int .i64 x.c.kind, x.vv, .int .i64 x.c.page, .int .i64 x.c.count, y.kv, .int .i64 y.c.kind, y.vv, .int .i64 y.c.page, .int .i64 y.c.count] 50)) (.slice (some ⟨W.heap.size, 0, none⟩) 2 2) [x, y] := by
  have hb : Below W.heap.size W (W.alloc (.cells #[x.kv, .int .i64 x.c.kind, x.vv, .int .i64 x.c.page, .int .i64 x.c.count, y.kv, .int .i64 y.c.kind, y.vv, .int .i64 y.c.page, .int .i64 y.c.count] 50)) := (Below.refl _ _).alloc (Nat.le_refl _) _
  have ho := OBlk.new' W 50 [x.kv, .int .i64 x.c.kind, x.vv, .int .i64 x.c.page, .int .i64 x.c.count, y.kv, .int .i64 y.c.kind, y.vv, .int .i64 y.c.page, .int .i64 y.c.count]
  refine ⟨⟨rfl, _, 2, rfl, Nat.le_refl _, by decide, fun j u hj => ⟨_, rfl, ?_⟩⟩, fun z hz => ?_⟩
  · rw [add_row, Nat.zero_add, ho.cell]; exact hj
  · simp only [List.mem_cons, List.not_mem_nil, or_false] at hz
    rcases hz with rfl | rfl
    · exact hx.below hb
    · exact hy.below hb
theorem Sep.rdC7 {w0 w v : World} {L : List Ent} {x : Value} {l : List CV} (h : Sep w0 w L) (hm : oldE v ∈ L) (hr : RdCs v x l) : RdCs w x l :=
  ⟨hr.form.keep (h.old_cell hm), fun y hy => { hr.ok y hy with k := h.rd hm (hr.ok y hy).k, v := h.rd hm (hr.ok y hy).v }⟩
theorem PgK.lit {w0 w : World} {L : List Ent} {p P : Nat} {kind : Int} {s : KP} (h : PgK w0 w L p P kind s) (l : List UInt8) (cells : Array Value) (T : TypeId) (fr : Nat × Nat) (n : Nat) (hc : cells = (bvs l).toArray) (hn : l.length = n) (hm : n ≤ maxLen) : PgK w0 (w.alloc (.cells cells T fr)) (litE w.heap.size n l :: L) p P kind s := by
  obtain ⟨u, pv, lp, h1, h2, h3⟩ := h
  exact ⟨u, pv, lp, h1, h2, (h3.lit l cells T fr n hc hn hm).sw1⟩
theorem KEnc0 (W : World) (v : Value) (xs : List CV) (hx : pcs xs = [kA, kB]) (h : RdCs W v xs) : Calls Try.prog 16 #[.int .i64 2, v, .int .i64 512] W fun e w' => ∃ g, e = .returned (.tuple #[.slice (some ⟨g, 0, none⟩) 512 512, .int .i64 0]) ∧ W.heap.size ≤ g ∧ OBlk w' g 5 (bvs (laidK 2 [kA, kB] 512)) ∧ Below W.heap.size W w' := by
  have hl : xs.length = 2 := by rw [← pcs_length, hx]; rfl
  refine (KEncode_any 2 v xs 512 (by unfold i64r; omega) W h (by omega)).mono fun e w' hh => ?_
  rw [hx] at hh
  obtain ⟨hb, ⟨hf, _⟩ | ⟨_, ⟨hne, _⟩ | ⟨_, g, he, hg, ho⟩⟩⟩ := hh
  · exact absurd hf (by decide)
  · exact absurd kAB_enc hne
  · exact ⟨g, he, hg, ho, hb⟩
theorem KDec0 {w0 W : World} {L : List Ent} (hS : Sep w0 W L) (v : Value) (h : RdB W v (laidK 2 [kA, kB] 512)) : Calls Try.prog 21 #[v] W fun e w' => ∃ A c l, e = .returned (.tuple #[.int .i64 2, .slice A 2 c, .int .i64 0]) ∧ pcs l = [kA, kB] ∧ RngC l ∧ Sep w0 w' (csE (.slice A 2 c) l :: L) := by
  refine (KDecode_any v _ W h).mono fun e w' hh => ?_
  rcases hh with ⟨kind, l, u, hp, rfl, hr, hs⟩ | ⟨hn, -, -⟩
  · obtain ⟨rfl, hl⟩ := kAB_only hp
    have hl1 : l.length = 2 := by rw [← pcs_length, hl]; rfl
    have hO : Own w' 0 50 5 u l.length (flatC l) := hs.head.1 _ (List.mem_cons_self ..)
    obtain ⟨A, c, rfl⟩ := Own.slice hO
    have h1 := Sep.lift1 hs (List.mem_cons_self ..) hS
    rw [hl1] at h1 ⊢
    exact ⟨A, c, l, rfl, hl, hr, h1⟩
  · exact absurd kAB_pk (hn _ _)
theorem KOpen0 {w0 W : World} {L : List Ent} (hS : Sep w0 W L) (v : Value) (h : RdB W v (laidK 2 [kA, kB] 512)) : Calls Try.prog 25 #[v] W fun e w' => ∃ p, e = .returned (.tuple #[.pointer (some ⟨p, 0, none⟩), .int .i64 0]) ∧ PgK w0 w' L p 512 2 (tidyP 2 [kA, kB]) := by
  refine (KOpen_sep hS v _ h).mono fun e w' hh => ?_
  rcases hh with ⟨p, kind, l, hp, rfl, hP⟩ | ⟨hn, -, -⟩
  · obtain ⟨rfl, rfl⟩ := kAB_only hp
    rw [kAB_len] at hP
    exact ⟨p, rfl, hP⟩
  · exact absurd kAB_pk (hn _ _)
theorem KSize0 (W : World) (v : Value) (xs : List CV) (hx : pcs xs = [kA, kB]) (h : RdCs W v xs) : Calls Try.prog 13 #[.int .i64 2, v] W fun e w' => e = .returned (.int .i64 26) ∧ Below W.heap.size W w' := by
  have := KSize_any 2 v xs W h (by rw [hx]; decide)
  rw [hx, kAB_size] at this
  exact this
theorem KInv0 : KInv 2 512 (tidyP 2 [kA, kB]) := by
  have h := open_inv kAB_pk
  rw [kAB_len] at h
  exact h
theorem kC_in (M : List Ent) (g : Nat) (hm : litE g 1 [98] ∈ M) : XIn M ⟨.slice (some ⟨g, 0, none⟩) 1 1, .slice none 0 0, kC⟩ :=
  ⟨⟨_, hm, fun w h => h⟩, ⟨_, hm, fun w _ => RdB.nil⟩, by show i64r 1; unfold i64r; omega, by show i64r 0; unfold i64r; omega, by show i64r 0; unfold i64r; omega, by show 1 ≤ 140737488355328; omega, by show 0 ≤ 140737488355328; omega⟩
theorem KIns0 {w0 W : World} {L : List Ent} {p g : Nat} (hP : PgK w0 W L p 512 2 (tidyP 2 [kA, kB])) (hm : litE g 1 [98] ∈ L) : Calls Try.prog 33 #[.pointer (some ⟨p, 0, none⟩), .int .i64 2, .agg #[.slice (some ⟨g, 0, none⟩) 1 1, .int .i64 1, .slice none 0 0, .int .i64 0, .int .i64 0]] W fun e w' => e = .returned (.int .i64 0) ∧ PgK w0 w' L p 512 2 (insKS 2 512 (tidyP 2 [kA, kB]) 2 0 kC) := by
  have := KInsert_sep hP KInv0 (.inl rfl) (by omega) ⟨.slice (some ⟨g, 0, none⟩) 1 1, .slice none 0 0, kC⟩ (kC_in L g hm) 2 (by unfold i64r; omega)
  refine this.mono ?_
  rintro e w' ⟨rfl, h⟩
  refine ⟨?_, h⟩
  show Ending.returned (.int .i64 (insKZ 2 512 [kA, kB] 2 0 kC)) = _
  rw [kABC_put]
theorem KFind0 {w0 W : World} {L : List Ent} {p : Nat} (hP : PgK w0 W L p 512 2 (insKS 2 512 (tidyP 2 [kA, kB]) 2 0 kC)) (vk : Value) (hk : RdB W vk [97, 99]) :
    Calls Try.prog 41 #[.pointer (some ⟨p, 0, none⟩), vk] W fun e w' => e = .returned (.tuple #[.int .i64 1, .bool true]) ∧ Below W.heap.size W w' := by
  obtain ⟨u, pv, l, h1, h2, h3⟩ := hP
  rw [kABC_l] at h1
  have hr : Rising (pcs l) := by rw [h1, ← kABC_l]; exact (KInv0.ins 2 (by omega) kC).rise
  have := KFind_any (h3.kAt h2) hr (by rw [← pcs_length, h1]; decide) vk [97, 99] hk
  rw [h1, kABC_find.1, kABC_find.2] at this
  exact this
theorem KLen0 {w0 W : World} {L : List Ent} {p : Nat} (hP : PgK w0 W L p 512 2 (insKS 2 512 (tidyP 2 [kA, kB]) 2 0 kC)) :
    Calls Try.prog 29 #[.pointer (some ⟨p, 0, none⟩)] W fun e w' => e = .returned (.int .i64 3) ∧ W = w' := by
  obtain ⟨u, pv, l, h1, h2, h3⟩ := hP
  rw [kABC_l] at h1
  have := KLen_any (h3.kAt h2)
  rw [show l.length = 3 by rw [← pcs_length, h1]; rfl] at this
  exact this
set_option maxRecDepth 100000 in
set_option maxHeartbeats 8000000 in
theorem live_any (w : World) : Calls Try.prog 10 #[] w fun e w' => e = .returned (.bool true) ∧ Below w.heap.size w w' := by
  have kc := fun (w : World) (C : Array Value) (n c g : Nat) (hg : g = w.heap.size) => conv_id w C n c g hg
  go_enter Try.func10, Try.ntmps10
  go_upto_region 2 with (fail)
  have hS4 := ((((Sep.start w).lit [97, 98] #[.int .u8 97, .int .u8 98] 5 (2, 3) 2 rfl rfl (by decide)).lit [120] #[.int .u8 120] 5 (1, 2) 1 rfl rfl (by decide)).lit [97, 99] #[.int .u8 97, .int .u8 99] 5 (2, 3) 2 rfl rfl (by decide)).lit [121, 122] #[.int .u8 121, .int .u8 122] 5 (2, 3) 2 rfl rfl (by decide)
  have hz4 : ((((w.alloc (.cells #[.int .u8 97, .int .u8 98] 5 (2, 3))).alloc (.cells #[.int .u8 120] 5 (1, 2))).alloc (.cells #[.int .u8 97, .int .u8 99] 5 (2, 3))).alloc (.cells #[.int .u8 121, .int .u8 122] 5 (2, 3))).heap.size = w.heap.size + 1 + 1 + 1 + 1 := by simp
  simp only [World.size_alloc] at hS4
  rw [← hz4]
  generalize ((((w.alloc (.cells #[.int .u8 97, .int .u8 98] 5 (2, 3))).alloc (.cells #[.int .u8 120] 5 (1, 2))).alloc (.cells #[.int .u8 97, .int .u8 99] 5 (2, 3))).alloc (.cells #[.int .u8 121, .int .u8 122] 5 (2, 3))) = w4 at *
  have hxA : CV.ok w4 ⟨.slice (some ⟨w.heap.size, 0, none⟩) 2 2, .slice (some ⟨w.heap.size + 1, 0, none⟩) 1 1, kA⟩ := { k := hS4.of_mem (E := litE w.heap.size 2 [97, 98]) (by simp), v := hS4.of_mem (E := litE (w.heap.size + 1) 1 [120]) (by simp), r1 := show i64r 1 by unfold i64r; omega, r2 := show i64r 0 by unfold i64r; omega, r3 := show i64r 0 by unfold i64r; omega }
  have hxB : CV.ok w4 ⟨.slice (some ⟨w.heap.size + 1 + 1, 0, none⟩) 2 2, .slice (some ⟨w.heap.size + 1 + 1 + 1, 0, none⟩) 2 2, kB⟩ := { k := hS4.of_mem (E := litE (w.heap.size + 1 + 1) 2 [97, 99]) (by simp), v := hS4.of_mem (E := litE (w.heap.size + 1 + 1 + 1) 2 [121, 122]) (by simp), r1 := show i64r 1 by unfold i64r; omega, r2 := show i64r 0 by unfold i64r; omega, r3 := show i64r 0 by unfold i64r; omega }
  have hrd5 : RdCs (w4.alloc (.cells #[.slice (some ⟨w.heap.size, 0, none⟩) 2 2, .int .i64 1, .slice (some ⟨w.heap.size + 1, 0, none⟩) 1 1, .int .i64 0, .int .i64 0, .slice (some ⟨w.heap.size + 1 + 1, 0, none⟩) 2 2, .int .i64 1, .slice (some ⟨w.heap.size + 1 + 1 + 1, 0, none⟩) 2 2, .int .i64 0, .int .i64 0] 50)) (.slice (some ⟨w4.heap.size, 0, none⟩) 2 2) [⟨.slice (some ⟨w.heap.size, 0, none⟩) 2 2, .slice (some ⟨w.heap.size + 1, 0, none⟩) 1 1, kA⟩, ⟨.slice (some ⟨w.heap.size + 1 + 1, 0, none⟩) 2 2, .slice (some ⟨w.heap.size + 1 + 1 + 1, 0, none⟩) 2 2, kB⟩] := two_rd w4 _ _ hxA hxB
  have hA5 : Below w.heap.size w (w4.alloc (.cells #[.slice (some ⟨w.heap.size, 0, none⟩) 2 2, .int .i64 1, .slice (some ⟨w.heap.size + 1, 0, none⟩) 1 1, .int .i64 0, .int .i64 0, .slice (some ⟨w.heap.size + 1 + 1, 0, none⟩) 2 2, .int .i64 1, .slice (some ⟨w.heap.size + 1 + 1 + 1, 0, none⟩) 2 2, .int .i64 0, .int .i64 0] 50)) := (hS4.belowOld (v := w) (by simp)).alloc (by omega) _
  generalize w4.heap.size = lb at *
  generalize w4.alloc (.cells #[.slice (some ⟨w.heap.size, 0, none⟩) 2 2, .int .i64 1, .slice (some ⟨w.heap.size + 1, 0, none⟩) 1 1, .int .i64 0, .int .i64 0, .slice (some ⟨w.heap.size + 1 + 1, 0, none⟩) 2 2, .int .i64 1, .slice (some ⟨w.heap.size + 1 + 1 + 1, 0, none⟩) 2 2, .int .i64 0, .int .i64 0] 50) = w5 at *
  clear hS4 hxA hxB hz4
  generalize hXS : ([⟨.slice (some ⟨w.heap.size, 0, none⟩) 2 2, .slice (some ⟨w.heap.size + 1, 0, none⟩) 1 1, kA⟩, ⟨.slice (some ⟨w.heap.size + 1 + 1, 0, none⟩) 2 2, .slice (some ⟨w.heap.size + 1 + 1 + 1, 0, none⟩) 2 2, kB⟩] : List CV) = xs at *
  have hxp : pcs xs = [kA, kB] := by rw [← hXS]; rfl
  clear hXS
  have HXP := Lib.hid hxp
  have H9 := Lib.hid kAB_at.1
  have H10 := Lib.hid kAB_at.2
  have hsz := KSize0 w5 _ xs hxp hrd5
  clear hxp
  go_upto_region 3 with (first
    | (go_at_call 13; (with_reducible refine hsz.mono ?_); rintro e w6 ⟨rfl, hw6⟩)
    | fail)
  have hS6 := (Sep.start w5).below hw6
  have hen := KEnc0 w6 _ xs HXP.out (hS6.rdC7 (List.mem_cons_self ..) hrd5)
  clear hsz hw6
  go_upto_region 4 with (first
    | (go_at_call 16; (with_reducible refine hen.mono ?_); rintro e w7 ⟨g, rfl, hg, ho, hw7⟩)
    | fail)
  have hS7 := hS6.new hw7 (E := blkE g 5 (bvs (laidK 2 [kA, kB] 512))) ho (fun g' hg' => by have e : g' = g := hg'; subst e; exact ⟨hg, ho.lt⟩)
  have hdc := KDec0 hS7 (.slice (some ⟨g, 0, none⟩) 512 512) (ho.rdB kAB_len (by omega))
  clear hen hS6 hw7 ho hg
  go_upto_region 5 with (first
    | (go_at_call 21; (with_reducible refine hdc.mono ?_); rintro e w8 ⟨DA, dc, dl, rfl, hdp, hdr, hS8⟩)
    | fail)
  have ho8 : OBlk w8 g 5 (bvs (laidK 2 [kA, kB] 512)) := hS8.tail.head
  have hop := KOpen0 hS8 (.slice (some ⟨g, 0, none⟩) 512 512) (ho8.rdB kAB_len (by omega))
  have HDP := Lib.hid hdp
  clear hdc hS7 ho8 hS8 hdp
  go_upto_region 6 with (first
    | (go_at_call 25; (with_reducible refine hop.mono ?_); rintro e w9 ⟨p, rfl, hP9⟩)
    | fail)
  have hsa : Calls Try.prog 22 #[.slice (some ⟨lb, 0, none⟩) 2 2, .slice DA 2 dc] w9 fun e w' => e = .returned (.bool true) ∧ Below w9.heap.size w9 w' := by
    obtain ⟨u, pv, lp, h1, h2, h3⟩ := hP9
    have := RKSameAll_any (.slice (some ⟨lb, 0, none⟩) 2 2) (.slice DA 2 dc) xs dl w9 (h3.rdC7 (by simp) hrd5) (csE_rd (h3.tail.head) hdr)
    rw [HXP.out, HDP.out, sameAllB_iff.2 rfl] at this
    exact this
  clear hop
  go_upto_region 9 with (first
    | (go_at_call 22; (with_reducible refine hsa.mono ?_); rintro e w10 ⟨rfl, hw10⟩)
    | fail)
  have hP10 := hP9.below hw10
  clear hsa hP9 hw10
  have hP11 := hP10.lit [98] #[.int .u8 98] 5 (1, 2) 1 rfl rfl (by decide)
  have hin := KIns0 hP11 (List.mem_cons_self ..)
  go_upto_region 10 with (first
    | (go_at_call 33; (with_reducible refine hin.mono ?_); rintro e w12 ⟨rfl, hP12⟩)
    | fail)
  clear hin hP10 hP11
  have hP13 := hP12.lit [97, 99] #[.int .u8 97, .int .u8 99] 5 (2, 3) 2 rfl rfl (by decide)
  have hfi := KFind0 hP13 (.slice (some ⟨w12.heap.size, 0, none⟩) 2 2) (by obtain ⟨u, pv, lp, h1, h2, h3⟩ := hP13; exact h3.tail.head)
  go_upto_region 11 with (first
    | (go_at_call 41; (with_reducible refine hfi.mono ?_); rintro e w14 ⟨rfl, hw14⟩)
    | fail)
  have hP14 := hP13.below hw14
  clear hfi hP12 hP13 hw14
  have hln := KLen0 hP14
  have hbk : OBlk w14 g 5 (bvs (laidK 2 [kA, kB] 512)) := by obtain ⟨u, pv, lp, h1, h2, h3⟩ := hP14; exact h3.of_mem (E := blkE g _ _) (by simp)
  have hB14 : Below w.heap.size w w14 := by obtain ⟨u, pv, lp, h1, h2, h3⟩ := hP14; exact hA5.trans ((h3.belowOld (v := w5) (by simp)).mono hA5.size)
  have d9 : w14.cell? ⟨g, 9, none⟩ = some (.int .u8 0) := by rw [hbk.cell]; unfold bvs; rw [List.getElem?_map, H9.out]; rfl
  have d10 : w14.cell? ⟨g, 10, none⟩ = some (.int .u8 16) := by rw [hbk.cell]; unfold bvs; rw [List.getElem?_map, H10.out]; rfl
  clear hP14 hbk
  go_wp2_with (first
    | (go_at_call 29; (with_reducible refine hln.mono ?_); rintro e w15 ⟨rfl, rfl⟩)
    | fail)
  go_ret
  exact ⟨rfl, hB14⟩
end Go.Proofs.Ytaniabhajngdeaa

-- espalierlaw07.PackedNumbers: the walk.
namespace Go.Proofs.Ytaniabhajngdeaa
open Go.RowKit
set_option maxRecDepth 100000 in
set_option maxHeartbeats 4000000 in
theorem numbers_any (w : World) : Calls Try.prog 3 #[] w fun e w' => e = .returned (.bool true) ∧ Below w.heap.size w w' := by
  go_enter Try.func3, Try.ntmps3
  go_wp2_with fail
  refine (live_any _).mono ?_
  rintro e w1 ⟨rfl, hw1⟩
  go_wp2_with fail
  go_ret
  exact ⟨rfl, hw1⟩
end Go.Proofs.Ytaniabhajngdeaa

-- The row's last step from 'Below' alone (the guide's small lemma 9).
namespace Go.Proofs.Ytaniabhajngdeaa
open Go.RowKit Go.WideShapes Go.ChangeShapes
section
variable {H : Type} {enc : TypeId × Value → H} {P : Program}
theorem post_of_below {f : Func} {s : ChangeSpec} {apart fresh handsOn again : Bool} {W W' : World} {args : Array Value} {v : Value} {ds gs : List (DataW H)} {before pa pv : List MemPlace}
    (hW : DataW.Whole enc P f.params.toList s.vars apart W args.toList ds gs before)
    (hres : ∀ (b : Nat) (sp : Nat → Bool) (hd : Bool), DataW.TrodAll enc P W' b sp hd f.resultTypes.toList (v.resultList f.resultTypes.size) (s.fn H (ds ++ gs)).results [])
    (hargs : ∀ sp : Nat → Bool, (∀ p ∈ before, sp p.block = true) → DataW.TrodAll enc P W' 0 sp true f.params.toList args.toList (s.fn H (ds ++ gs)).args pa)
    (hvars : ∀ sp : Nat → Bool, (∀ p ∈ before, sp p.block = true) → DataW.TrodVars enc P W' sp s.vars (s.fn H (ds ++ gs)).vars pv)
    (hps : before = pa ++ pv) (hb : Below W.heap.size W W')
    (hok : ∀ (j : Nat) (t : TypeId) (r : Value), f.resultTypes[j]? = some t → (v.resultList f.resultTypes.size)[j]? = some r → Value.okWide P W' .any 0 t r) :
    s.post enc P f apart fresh handsOn again W args v W' := by
  have hlt : ∀ p ∈ before, p.block < W.heap.size := fun p hp => hW.lt p hp
  have hold : ∀ p ∈ before, (fun b => decide (b < W.heap.size)) p.block = true := fun p hp => by simpa using hlt p hp
  refine ⟨ds, gs, before, [], pa, pv, hW, hres _ _ _, hargs _ hold, hvars _ hold, World.keptBut_mono (fun p hp => ⟨hp, ?_⟩) (hb.frame (· ∈ before)), fun _ => ?_⟩
  · rw [hps, List.mem_append] at hp
    exact Or.inr hp
  · obtain ⟨_, _, _, _, _, hz, hn⟩ := hW
    refine ⟨hok, _, _, ([] ++ pa) ++ pv, ⟨[] ++ pa, pv, trodAll_append (hargs _ (fun _ _ => rfl)) (hres _ _ _), hvars _ (fun _ _ => rfl), rfl, ?_, ?_⟩, ?_⟩
    · intro b off hp
      have hin : MemPlace.cell b off ∈ before := by rw [hps]; simpa using hp
      rw [hb.frozen (hlt _ hin)]
      exact hz b off hin
    · intro ha
      have := hn ha
      rw [hps] at this
      simpa using this
    · intro p hp _
      rw [hps]
      simpa using hp
end
end Go.Proofs.Ytaniabhajngdeaa

-- A law that returns true and changes nothing below: from its walk to the row's own form.
namespace Go.Proofs.Ytaniabhajngdeaa
open Go.RowKit Go.WideShapes Go.ChangeShapes Go.Joins
section
variable {H : Type} {enc : TypeId × Value → H} {P : Program}
theorem trodAll_stays (hl : laidOutB P = true) {W W' : World} {sp' : Nat → Bool} : ∀ {ts : List TypeId} {vs : List Value} {ds : List (DataW H)} {ps : List MemPlace}, (ts.all fun t => P.readableRec t && decide (t < P.types.size)) = true →
    DataW.TrodAll enc P W 0 (fun _ => true) true ts vs ds ps → (∀ p ∈ ps, W.sameAt W' p) → (∀ p ∈ ps, sp' p.block = true) → DataW.TrodAll enc P W' 0 sp' true ts vs ds ps
  | [], [], [], _, _, h, _, _ => h
  | t :: ts, _ :: _, _ :: _, _, hr, ⟨p, q, h1, h2, e⟩, hk, hs => by
    simp only [List.all_cons, Bool.and_eq_true, decide_eq_true_eq] at hr
    obtain ⟨⟨hr1, hr2⟩, hr3⟩ := hr
    exact ⟨p, q, WideElems.Trod_stays hl hr1 hr2 h1 (fun x hx => hk x (by rw [e]; exact List.mem_append_left _ hx)) (fun x hx => hs x (by rw [e]; exact List.mem_append_left _ hx)),
      trodAll_stays hl hr3 h2 (fun x hx => hk x (by rw [e]; exact List.mem_append_right _ hx)) (fun x hx => hs x (by rw [e]; exact List.mem_append_right _ hx)), e⟩
theorem trodAll_len {w : World} {base : Nat} {spare : Nat → Bool} {held : Bool} : ∀ {ts : List TypeId} {vs : List Value} {ds : List (DataW H)} {ps : List MemPlace}, DataW.TrodAll enc P w base spare held ts vs ds ps → ds.length = ts.length
  | [], [], [], _, _ => rfl
  | _ :: _, _ :: _, _ :: _, _, ⟨_, _, _, h2, _⟩ => by simp [trodAll_len h2]
theorem law_post {fn : Func} {s : ChangeSpec} {tb : TypeId} {W W' : World} {args : Array Value} {ds gs : List (DataW H)} {before : List MemPlace} (hvars : s.vars = []) (hrt : fn.resultTypes = #[tb]) (htb : P.underlying tb = some .bool) (hl : laidOutB P = true)
    (hr : (fn.params.toList.all fun t => P.readableRec t && decide (t < P.types.size)) = true) (hs : ∀ ds : List (DataW H), ds.length = fn.params.size → s.fn H ds = { results := [.lit (.bool true)], args := ds })
    (hW : DataW.Whole enc P fn.params.toList s.vars false W args.toList ds gs before) (hb : Below W.heap.size W W') : s.post enc P fn false true false false W args (.bool true) W' := by
  have hW' := hW
  obtain ⟨p, q, hA, hV, rfl, hfz, hnd⟩ := hW
  rw [hvars] at hV
  obtain ⟨rfl, rfl⟩ := trodVars_none hV
  have hlen : ds.length = fn.params.size := by simpa using trodAll_len hA
  have hfn := hs ds hlen
  have hlt : ∀ x ∈ p, x.block < W.heap.size := fun x hx => hW'.lt x (List.mem_append_left _ hx)
  refine post_of_below (pa := p) (pv := []) hW' ?_ ?_ ?_ (by simp) hb (ok_one hrt rfl (okWide_bool_mk htb _))
  · intro b sp hd
    rw [List.append_nil, hfn, hrt]
    exact trodAll_cons_mk (shut_bool htb _) trodAll_mk0
  · intro sp hsp
    rw [List.append_nil, hfn]
    exact trodAll_stays hl hr hA (fun x hx => hb.same (hlt x hx)) (fun x hx => hsp x (List.mem_append_left _ hx))
  · intro sp _
    rw [List.append_nil, hfn, hvars]
    exact (rfl : DataW.TrodVars enc P W' sp [] [] [])
end
theorem law_lifts {H : Type} {enc : TypeId × Value → H} {C : Checked} {os : Os} {fno : FuncId} {fn : Func} {s : ChangeSpec} {conds : List PathCond} {tb : TypeId}
    (own : ownKnob C.prog.godebug = none) (started : os.Started) (noInit : C.prog.inits.idxOf? fno = none) (hfn : C.prog.funcs[fno]? = some fn)
    (witness : ∃ (w : World) (tape : Tape) (i : Input), w.os = os ∧ (w.forCall tape i).Shaped C.prog ∧ i.vars = [] ∧ Input.okWide C.prog (w.forCall tape i) .any w.heap.size fno i ∧
      s.pre6 enc C.prog fn conds false (w.forCall tape i).memory i.args ∧ ({} : Assume).holds C.prog (lone (Frame.enter C.prog fno i.args .normal) [] (w.forCall tape i)))
    (hvars : s.vars = []) (hrt : fn.resultTypes = #[tb]) (htb : C.prog.underlying tb = some .bool) (hl : laidOutB C.prog = true)
    (hr : (fn.params.toList.all fun t => C.prog.readableRec t && decide (t < C.prog.types.size)) = true) (hs : ∀ ds : List (DataW H), ds.length = fn.params.size → s.fn H ds = { results := [.lit (.bool true)], args := ds })
    (walk : ∀ (W : World) (base : Nat) (args : Array Value) (ds : List (DataW H)) (p : List MemPlace), (∀ (j : Nat) t v, fn.params[j]? = some t → args[j]? = some v → Value.okWide C.prog W .any base t v) →
      DataW.TrodAll enc C.prog W 0 (fun _ => true) true fn.params.toList args.toList ds p → (DataW.weightsEach C.prog fn.params.toList ds).all (· ≤ reachBytes) = true →
      Calls C.prog fno args W fun e W' => e = .returned (.bool true) ∧ Below W.heap.size W W') :
    ReturnsInHanded {} C os fno .any (s.pre6 enc C.prog fn conds false) (s.post enc C.prog fn false true false false) := by
  refine returnsInHanded_of_change_sized own started noInit hfn witness ?_
  intro W base args ds gs before hval hW _ hsz _
  have hW' := hW
  obtain ⟨p, q, hA, hV, _, _, _⟩ := hW
  rw [hvars] at hV
  obtain ⟨rfl, rfl⟩ := trodVars_none hV
  have hv : s.plain.varTypes C.prog = [] := by
    unfold ChangeSpec.plain DataSpec.varTypes
    simp [hvars]
  rw [hv, List.append_nil, List.append_nil] at hsz
  refine (walk W base args ds p hval hA hsz).mono fun e W' h => ?_
  obtain ⟨rfl, hb⟩ := h
  exact ⟨_, rfl, law_post hvars hrt htb hl hr hs hW' hb⟩
section
variable {H : Type} {enc : TypeId × Value → H} {W : World}
theorem cells_u8 : Try.prog.cellsOf 5 = 1 := by kernel_rfl
theorem bytes_u8 : Try.prog.bytesOf 5 = 1 := by kernel_rfl
set_option maxRecDepth 100000 in
/-- An argument of type []byte. -/
theorem open_bytes {base : Nat} {v : Value} {d : DataW H} {p : List MemPlace} {ts : List TypeId} {ds : List (DataW H)} {j : Nat} (hv : Value.okWide Try.prog W .any base 29 v) (h : DataW.Trod enc Try.prog W 0 (fun _ => true) true 29 v d p)
    (hsz : (DataW.weightsEach Try.prog ts ds).all (· ≤ reachBytes) = true) (ht : ts[j]? = some 29) (hd : ds[j]? = some d) :
    ∃ l : List UInt8, RdB W v l ∧ l.length ≤ 140737488351232 := by
  obtain ⟨a0, len, cap, rfl⟩ := okWide_slice Try.underlying29 hv
  obtain ⟨fuel, hf⟩ := h
  rcases open_ints Try.underlying29 Try.underlying5 cells_u8 hf with ⟨hcs, _⟩ | ⟨a, len', cap', zs, hcs, _, hl, hm, hz, hx, hcell, hwz⟩
  · simp [Value.cells] at hcs
    obtain ⟨rfl, rfl, rfl⟩ := hcs
    exact ⟨[], RdB.nil, by simp⟩
  · simp [Value.cells] at hcs
    obtain ⟨rfl, rfl, rfl⟩ := hcs
    simp only [if_true] at hz
    simp only [Prod.mk.injEq] at hx
    obtain ⟨rfl, _⟩ := hx
    have hs := sized_slice hsz ht hd Try.underlying29
    rw [bytes_u8] at hs
    simp only [lits, List.length_map, List.length_take, List.length_drop, reachBytes] at hs
    refine ⟨(zs.take len).map fun z => UInt8.ofNat z.toNat, ?_, by simp; omega⟩
    have hlen : ((zs.take len).map fun z => UInt8.ofNat z.toNat).length = len := by simp; omega
    refine ⟨some a, cap, by rw [hlen], by rw [hlen]; exact hl, hm, fun j hj => ⟨a, rfl, ?_⟩⟩
    rw [hlen] at hj
    rw [hcell j (by omega)]
    have hjz : j < zs.length := by omega
    have hmem : zs[j] ∈ zs := List.getElem_mem hjz
    have hw := hwz _ hmem
    have hg : zs.getD j 0 = zs[j] := by simp [List.getD, hjz]
    rw [hg]
    simp [Lit.wf, IntKind.min, IntKind.max, IntKind.signed, IntKind.bits] at hw
    simp
    omega
end
end Go.Proofs.Ytaniabhajngdeaa

-- espalierlaw07.PackedNumbers: the statement 'PackedNumbersSaid' is proved: the law returns true.
namespace Go.Proofs.Ytaniabhajngdeaa.packedNumbers
open Go.ChangeShapes Go.WideShapes Go.ChangeAt Go.RowKit
theorem own : ownKnob Try.prog.godebug = none := by kernel_rfl
theorem laidOut : laidOutB Try.prog = true := by kernel_rfl
set_option maxRecDepth 100000 in
theorem lifted (os : Os) (started : os.Started) (H : Type) (enc : TypeId × Value → H) :
    ReturnsInHanded {} Try.checked os 3 .any (Rows.packedNumbersSpec.pre6 enc Try.prog Try.f3 Rows.packedNumbersRow.domain false) (Rows.packedNumbersSpec.post enc Try.prog Try.f3 false true false false) := by
  refine law_lifts (C := Try.checked) (tb := 4) own started (by kernel_rfl) Try.func3
    (ChangeSpec.witness6 (enc := enc) (C := Try.checked) false ⟨#[], #[], []⟩ 8 (by kernel_rfl) (by kernel_rfl) (by kernel_rfl) (by kernel_rfl))
    rfl rfl Try.underlying4 laidOut (by kernel_rfl) (fun ds hd => ?_) ?_
  · match ds, hd with
    | [], _ => rfl
  · intro W base args ds p hval0 hA0 _
    have hA : DataW.TrodAll enc Try.prog W 0 (fun _ => true) true Try.f3.params.toList args.toList ds p := hA0
    rw [Try.params3] at hA
    obtain ⟨hargs, rfl, rfl⟩ := trodAll_nil hA
    obtain rfl : args = #[] := by cases args; simp_all
    exact numbers_any W
theorem proved : Rows.PackedNumbersSaid :=
  OpenClaim.holds_of_wide 3 Try.f3 rfl rfl rfl rfl rfl rfl rfl ⟨rfl, rfl, rfl, rfl, rfl⟩ rfl rfl rfl rfl rfl (by kernel_rfl) Try.func3 (by kernel_rfl)
    (of_decide_eq_true (by kernel_rfl)) (by unfold Func.isWrapper; first | (rw [if_pos (by decide +kernel)]; kernel_rfl) | (rw [if_neg (by decide +kernel)]; exact ⟨rfl, rfl⟩))
    (fun os started H enc _ => lifted os started H enc)
end Go.Proofs.Ytaniabhajngdeaa.packedNumbers
