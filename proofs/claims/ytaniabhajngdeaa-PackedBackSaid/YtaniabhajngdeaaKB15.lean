/- espalierlaw07.PackedBack: the statement 'PackedBackSaid' is proved: whatever the input, the law returns true and the input reads as it did. -/
import Derived.Test.YtaniabhajngdeaaKN2
import Derived.Test.YtaniabhajngdeaaKN3
import Derived.Test.YtaniabhajngdeaaKN4
import Derived.Test.YtaniabhajngdeaaKN5
import Derived.Test.YtaniabhajngdeaaKN14
import Derived.Deep.RegionHeld3
import Derived.Lib.SlBytesConst
import Derived.Below
import Derived.ChangeSame
import Derived.WalkKit
import Derived.ProofKit
import Derived.OpenShut
import Derived.SizedLaws
import Derived.Carry
import Derived.Lib.SmallJoins
import Derived.WideKeyArgs
import Derived.Deep.Slices
import Derived.Deep.Fields
import Derived.Test.YtaniabhajngdeaaRows
import Derived.JoinedCond
-- espalierref07.Same, SameAll: walks.
namespace Go.Proofs.Ytaniabhajngdeaa
open Go.RowKit
def sameB (a b : PC) : Bool := (a.key == b.key) && ((a.val == b.val) && ((a.kind == b.kind) && ((a.page == b.page) && (a.count == b.count))))
theorem sameB_iff {a b : PC} : sameB a b = true ↔ a = b := by
  obtain ⟨k, kd, v, p, c⟩ := a
  obtain ⟨k', kd', v', p', c'⟩ := b
  unfold sameB
  simp only [Bool.and_eq_true, beq_iff_eq]
  constructor
  · rintro ⟨rfl, rfl, rfl, rfl, rfl⟩; rfl
  · intro h; injection h with h1 h2 h3 h4 h5; exact ⟨h1, h3, h2, h4, h5⟩
def sameAllB : List PC → List PC → Bool
  | [], [] => true
  | a :: x, b :: y => sameB a b && sameAllB x y
  | _, _ => false
theorem sameAllB_iff : ∀ {x y : List PC}, sameAllB x y = true ↔ x = y
  | [], [] => by simp [sameAllB]
  | [], _ :: _ => by simp [sameAllB]
  | _ :: _, [] => by simp [sameAllB]
  | a :: x, b :: y => by simp [sameAllB, sameB_iff, sameAllB_iff]
set_option maxRecDepth 100000 in
set_option maxHeartbeats 2000000 in
theorem RKSame_any (x y : CV) (w : World) (hx : x.ok w) (hy : y.ok w) :
    Calls Try.prog 65 #[cellV x, cellV y] w fun e w' => e = .returned (.bool (sameB x.c y.c)) ∧ Below w.heap.size w w' := by
  obtain ⟨A, ca, B, cb, key, ck, val, pg, ct, rfl, -, -⟩ := CV.form hx
  obtain ⟨A', ca', B', cb', key', ck', val', pg', ct', rfl, -, -⟩ := CV.form hy
  have hA : Below w.heap.size w ((w.alloc (.cells #[.slice A key.length ca, .int .i64 ck, .slice B val.length cb, .int .i64 pg, .int .i64 ct] 50)).alloc (.cells #[.slice A' key'.length ca', .int .i64 ck', .slice B' val'.length cb', .int .i64 pg', .int .i64 ct'] 50)) := ((Below.refl _ _).alloc (Nat.le_refl _) _).alloc (by simp) _
  have hC := (OBlk.new' w 50 [.slice A key.length ca, .int .i64 ck, .slice B val.length cb, .int .i64 pg, .int .i64 ct]).alloc (.cells #[.slice A' key'.length ca', .int .i64 ck', .slice B' val'.length cb', .int .i64 pg', .int .i64 ct'] 50)
  have hD := OBlk.new' (w.alloc (.cells #[.slice A key.length ca, .int .i64 ck, .slice B val.length cb, .int .i64 pg, .int .i64 ct] 50)) 50 [.slice A' key'.length ca', .int .i64 ck', .slice B' val'.length cb', .int .i64 pg', .int .i64 ct']
  rw [World.size_alloc] at hD
  have q1 := run_B_string (hx.below hA).k
  have q2 := run_B_string (hy.below hA).k
  have q3 := run_B_string (hx.below hA).v
  have q4 := run_B_string (hy.below hA).v
  unfold cellV
  simp only at q1 q2 q3 q4 ⊢
  have HV : Hid (sameB ⟨key, ck, val, pg, ct⟩ ⟨key', ck', val', pg', ct'⟩ = ((key == key') && ((val == val') && ((ck == ck') && ((pg == pg') && (ct == ct')))))) := Lib.hid rfl
  generalize sameB ⟨key, ck, val, pg, ct⟩ ⟨key', ck', val', pg', ct'⟩ = V at *
  clear hx hy
  go_enter Try.func65, Try.ntmps65
  go_upto_region 1 with (fail)
  generalize ((w.alloc (.cells #[.slice A key.length ca, .int .i64 ck, .slice B val.length cb, .int .i64 pg, .int .i64 ct] 50)).alloc (.cells #[.slice A' key'.length ca', .int .i64 ck', .slice B' val'.length cb', .int .i64 pg', .int .i64 ct'] 50)) = w1 at *
  obtain ⟨c0, c1, c2, c3, c4⟩ := cells5 hC
  obtain ⟨d0, d1, d2, d3, d4⟩ := cells5 hD
  cases h1 : (key == key') with
  | false =>
    have HV2 : Hid (V = false) := Lib.hid (by rw [HV.out, h1]; rfl)
    go_wp2_with fail
    go_ret
    rw [HV2.out]
    exact ⟨rfl, hA⟩
  | true =>
    cases h2 : (val == val') with
    | false =>
      have HV2 : Hid (V = false) := Lib.hid (by rw [HV.out, h1, h2]; rfl)
      go_wp2_with fail
      go_ret
      rw [HV2.out]
      exact ⟨rfl, hA⟩
    | true =>
      cases h3 : (ck == ck') with
      | false =>
        have HV2 : Hid (V = false) := Lib.hid (by rw [HV.out, h1, h2, h3]; rfl)
        go_wp2_with fail
        go_ret
        rw [HV2.out]
        exact ⟨rfl, hA⟩
      | true =>
        cases h4 : (pg == pg') with
        | false =>
          have HV2 : Hid (V = false) := Lib.hid (by rw [HV.out, h1, h2, h3, h4]; rfl)
          go_wp2_with fail
          go_ret
          rw [HV2.out]
          exact ⟨rfl, hA⟩
        | true =>
          have HV2 : Hid (V = (ct == ct')) := Lib.hid (by rw [HV.out, h1, h2, h3, h4]; rfl)
          go_wp2_with fail
          go_ret
          rw [HV2.out]
          exact ⟨rfl, hA⟩
theorem sameAllB_len : ∀ {x y : List PC}, x.length ≠ y.length → sameAllB x y = false
  | [], [], h => absurd rfl h
  | [], _ :: _, _ => rfl
  | _ :: _, [], _ => rfl
  | a :: x, b :: y, h => by
    have : x.length ≠ y.length := fun e => h (by simp [e])
    rw [sameAllB, sameAllB_len this, Bool.and_false]
set_option maxRecDepth 100000 in
set_option maxHeartbeats 2000000 in
theorem RKSameAll_any (u v : Value) (l m : List CV) (w : World) (hu : RdCs w u l) (hv : RdCs w v m) :
    Calls Try.prog 22 #[u, v] w fun e w' => e = .returned (.bool (sameAllB (pcs l) (pcs m))) ∧ Below w.heap.size w w' := by
  obtain ⟨A, c, rfl, hm, hc⟩ := hu.slice
  obtain ⟨B, d, rfl, hm2, hc2⟩ := hv.slice
  by_cases hl : l.length = m.length
  · have e1 : ((l.length : Int) != (m.length : Int)) = false := by simp [hl]
    rw [← hl] at hv hm2
    have HL := Lib.hid hl
    rw [← hl]
    clear hl
    rw [← HL.out] at e1
    obtain ⟨V, hV⟩ : ∃ V, sameAllB (pcs l) (pcs m) = V := ⟨_, rfl⟩
    rw [hV]
    have HV := Lib.hid hV
    clear hV
    go_enter Try.func22, Try.ntmps22
    go_wp2_with fail
    go_loopw [5] (fun i wr => ∃ k : Nat, k ≤ l.length ∧ i = .int .i64 (k : Int) ∧ Hid (sameAllB (pcs l) (pcs m) = sameAllB ((pcs l).drop k) ((pcs m).drop k)) ∧ Below w.heap.size w wr) (fun i _ => l.length - (intOf i).toNat)
    case atStart => exact ⟨0, Nat.zero_le _, rfl, Lib.hid rfl, Below.refl _ _⟩
    case round =>
      obtain ⟨k, hk, rfl, HS, hB⟩ := hrel
      by_cases hlt : k < l.length
      · have hlt2 : k < m.length := by rw [← HL.out]; exact hlt
        have ik : (k : Int) < (l.length : Int) := by omega
        have j1 : (0 : Int) ≤ (k : Int) := by omega
        have hst : sameAllB ((pcs l).drop k) ((pcs m).drop k) = (sameB l[k].c m[k].c && sameAllB ((pcs l).drop (k + 1)) ((pcs m).drop (k + 1))) := by
          rw [List.drop_eq_getElem_cons (show k < (pcs l).length by rw [pcs_length]; exact hlt), List.drop_eq_getElem_cons (show k < (pcs m).length by rw [pcs_length]; exact hlt2), sameAllB, pcs_at hlt, pcs_at hlt2]
        have HST := Lib.hid hst
        obtain ⟨ad, rfl, a0, a1, a2, a3, a4⟩ := (hu.below hB).at_ hlt
        obtain ⟨bd, rfl, b0, b1, b2, b3, b4⟩ := (hv.below hB).at_ hlt2
        have hx := (hu.below hB).ok _ (List.getElem_mem hlt)
        have hy := (hv.below hB).ok _ (List.getElem_mem hlt2)
        have hsm := RKSame_any l[k] m[k] wr.drew (hx.below ((Below.refl _ _).drew)) (hy.below ((Below.refl _ _).drew))
        clear hst
        generalize l[k] = x at *
        generalize m[k] = y at *
        obtain ⟨A1, p1, B1, q1, key, ck, val, pg, ct, rfl, -, -⟩ := CV.form hx
        obtain ⟨A2, p2, B2, q2, key', ck', val', pg', ct', rfl, -, -⟩ := CV.form hy
        unfold cellV at hsm
        simp only at hsm
        generalize sameB ⟨key, ck, val, pg, ct⟩ ⟨key', ck', val', pg', ct'⟩ = V1 at *
        go_upto_region 6 with (fail)
        go_cut [6] (fun s wx => s = .bool V1 ∧ Below w.heap.size w wx)
        case first =>
          go_region_held3 (fun w' => w'.cell? (ad.add (k * 5)) = some (.slice A1 key.length p1) ∧ w'.cell? ⟨(ad.add (k * 5)).block, (ad.add (k * 5)).off + 1, none⟩ = some (.int .i64 ck) ∧ w'.cell? ⟨(ad.add (k * 5)).block, (ad.add (k * 5)).off + 2, none⟩ = some (.slice B1 val.length q1) ∧ w'.cell? ⟨(ad.add (k * 5)).block, (ad.add (k * 5)).off + 3, none⟩ = some (.int .i64 pg) ∧ w'.cell? ⟨(ad.add (k * 5)).block, (ad.add (k * 5)).off + 4, none⟩ = some (.int .i64 ct) ∧
              w'.cell? (bd.add (k * 5)) = some (.slice A2 key'.length p2) ∧ w'.cell? ⟨(bd.add (k * 5)).block, (bd.add (k * 5)).off + 1, none⟩ = some (.int .i64 ck') ∧ w'.cell? ⟨(bd.add (k * 5)).block, (bd.add (k * 5)).off + 2, none⟩ = some (.slice B2 val'.length q2) ∧ w'.cell? ⟨(bd.add (k * 5)).block, (bd.add (k * 5)).off + 3, none⟩ = some (.int .i64 pg') ∧ w'.cell? ⟨(bd.add (k * 5)).block, (bd.add (k * 5)).off + 4, none⟩ = some (.int .i64 ct'))
            (first | exact ⟨a0, a1, a2, a3, a4, b0, b1, b2, b3, b4⟩ | (refine ⟨?_, ?_, ?_, ?_, ?_, ?_, ?_, ?_, ?_, ?_⟩ <;> (refine (hw2.cell (World.block_lt_of_cell? wr.drew _ (by assumption))).trans ?_; assumption)))
            (first
              | (go_at_call 65; refine hsm.mono ?_; rintro e w2 ⟨rfl, hw2⟩)
              | fail)
          go_wp2_with fail
          go_meet
          exact ⟨rfl, hB.drew.trans (hw2.mono hB.size)⟩
        case rest =>
          obtain ⟨rfl, hB2⟩ := hcut
          cases V1 with
          | true =>
            have HS2 : Hid (sameAllB (pcs l) (pcs m) = sameAllB ((pcs l).drop (k + 1)) ((pcs m).drop (k + 1))) := Lib.hid (by rw [HS.out, HST.out, Bool.true_and])
            go_wp2_with fail
            go_roundw
            case rel => exact ⟨k + 1, by omega, by go_num, HS2, hB2⟩
            case measure => simp [intOf]; omega
          | false =>
            have HV2 : Hid (V = false) := Lib.hid (by rw [← HV.out, HS.out, HST.out, Bool.false_and])
            go_wp2_with fail
            go_ret
            rw [HV2.out]
            exact ⟨rfl, hB2⟩
      · obtain rfl : k = l.length := by omega
        have HV2 : Hid (V = true) := Lib.hid (by rw [← HV.out, HS.out, List.drop_of_length_le (by rw [pcs_length]; omega), List.drop_of_length_le (by rw [pcs_length, ← HL.out]; omega)]; rfl)
        go_wp2_with fail
        go_ret
        rw [HV2.out]
        exact ⟨rfl, hB⟩
  · have e1 : ((l.length : Int) != (m.length : Int)) = true := by simp only [bne, beq_eq_false_iff_ne.2 (show (l.length : Int) ≠ (m.length : Int) by omega)]; rfl
    rw [sameAllB_len (by rw [pcs_length, pcs_length]; exact hl)]
    clear hl
    go_enter Try.func22, Try.ntmps22
    go_wp2_with fail
    go_ret
    exact ⟨rfl, Below.refl _ _⟩
end Go.Proofs.Ytaniabhajngdeaa

-- Bytes made of a constant.
namespace Go.Proofs.Ytaniabhajngdeaa
open Go.RowKit
theorem conv_id (w : World) (C : Array Value) (n c g : Nat) (hg : g = w.heap.size) : (convert 29 29 (.slice (some ⟨g, 0, none⟩) n c)).run Try.prog (w.alloc (.cells C 5)) = .ok (.slice (some ⟨g, 0, none⟩) n c) (w.alloc (.cells C 5 (C.size, C.size + 1))) := by
  subst hg; exact Lib.run_convert_bytes_const w _ _ C n c Try.underlying29 Try.underlying5
theorem RdB.litm (w : World) (l : List UInt8) (cells : Array Value) (T : TypeId) (fr : Nat × Nat) (n : Nat) (h : cells = (bvs l).toArray) (hn : l.length = n) (hm : n ≤ maxLen) : RdB (w.alloc (.cells cells T fr)) (.slice (some ⟨w.heap.size, 0, none⟩) n n) l := by
  subst h; subst hn
  refine ⟨_, _, rfl, Nat.le_refl _, hm, fun j hj => ⟨_, rfl, ?_⟩⟩
  rw [add_row, Nat.zero_add, World.cell?_alloc_mark]
  have := bvs_get' l j hj
  simpa using this
end Go.Proofs.Ytaniabhajngdeaa

-- espalierlaw07.live: the walk.
namespace Go.Proofs.Ytaniabhajngdeaa
open Go.RowKit
/-- Bytes of a block, as they are read. -/
def litE (g n : Nat) (l : List UInt8) : Ent :=
  ⟨fun b => b = g, fun w => RdB w (.slice (some ⟨g, 0, none⟩) n n) l, fun {w w'} h k => by
    obtain ⟨A, c, hv, h1, h2, h3⟩ := k
    refine ⟨A, c, hv, h1, h2, fun j hj => ?_⟩
    obtain ⟨ad, hA, hc⟩ := h3 j hj
    refine ⟨ad, hA, ?_⟩
    obtain rfl : (⟨g, 0, none⟩ : Addr) = ad := by
      injection hv with hv1
      rw [← hv1] at hA
      injection hA
    rw [add_row] at hc ⊢
    rw [World.cell?_of_block (h g rfl)]
    exact hc⟩
theorem Sep.lit {w0 w : World} {L : List Ent} (h : Sep w0 w L) (l : List UInt8) (cells : Array Value) (T : TypeId) (fr : Nat × Nat) (n : Nat) (hc : cells = (bvs l).toArray) (hn : l.length = n) (hm : n ≤ maxLen) : Sep w0 (w.alloc (.cells cells T fr)) (litE w.heap.size n l :: L) :=
  h.new ((Below.refl _ _).alloc (Nat.le_refl _) _) (RdB.litm w l cells T fr n hc hn hm) (fun g hg => by have hg' : g = w.heap.size := hg; rw [World.size_alloc]; omega)
theorem two_rd (W : World) (x y : CV) (hx : x.ok W) (hy : y.ok W) : RdCs (W.alloc (.cells #[x.kv, .int .i64 x.c.kind, x.vv, .int .i64 x.c.page, .int .i64 x.c.count, y.kv, .int .i64 y.c.kind, y.vv, .int .i64 y.c.page, .int .i64 y.c.count] 50)) (.slice (some ⟨W.heap.size, 0, none⟩) 2 2) [x, y] := by
  have hb : Below W.heap.size W (W.alloc (.cells #[x.kv, .int .i64 x.c.kind, x.vv, .int .i64 x.c.page, .int .i64 x.c.count, y.kv, .int .i64 y.c.kind, y.vv, .int .i64 y.c.page, .int .i64 y.c.count] 50)) := (Below.refl _ _).alloc (Nat.le_refl _) _
  have ho := OBlk.new' W 50 [x.kv, .int .i64 x.c.kind, x.vv, .int .i64 x.c.page, .int .i64 x.c.count, y.kv, .int .i64 y.c.kind, y.vv, .int .i64 y.c.page, .int .i64 y.c.count]
  refine ⟨⟨rfl, _, 2, rfl, Nat.le_refl _, by decide, fun j u hj => ⟨_, rfl, ?_⟩⟩, fun z hz => ?_⟩
  · rw [add_row, Nat.zero_add, ho.cell]; exact hj
  · simp only [List.mem_cons, List.not_mem_nil, or_false] at hz
    rcases hz with rfl | rfl
    · exact hx.below hb
    · exact hy.below hb
theorem Sep.rdC7 {w0 w v : World} {L : List Ent} {x : Value} {l : List CV} (h : Sep w0 w L) (hm : oldE v ∈ L) (hr : RdCs v x l) : RdCs w x l :=
  ⟨hr.form.keep (h.old_cell hm), fun y hy => { hr.ok y hy with k := h.rd hm (hr.ok y hy).k, v := h.rd hm (hr.ok y hy).v }⟩
theorem PgK.lit {w0 w : World} {L : List Ent} {p P : Nat} {kind : Int} {s : KP} (h : PgK w0 w L p P kind s) (l : List UInt8) (cells : Array Value) (T : TypeId) (fr : Nat × Nat) (n : Nat) (hc : cells = (bvs l).toArray) (hn : l.length = n) (hm : n ≤ maxLen) : PgK w0 (w.alloc (.cells cells T fr)) (litE w.heap.size n l :: L) p P kind s := by
  obtain ⟨u, pv, lp, h1, h2, h3⟩ := h
  exact ⟨u, pv, lp, h1, h2, (h3.lit l cells T fr n hc hn hm).sw1⟩
theorem KEnc0 (W : World) (v : Value) (xs : List CV) (hx : pcs xs = [kA, kB]) (h : RdCs W v xs) : Calls Try.prog 16 #[.int .i64 2, v, .int .i64 512] W fun e w' => ∃ g, e = .returned (.tuple #[.slice (some ⟨g, 0, none⟩) 512 512, .int .i64 0]) ∧ W.heap.size ≤ g ∧ OBlk w' g 5 (bvs (laidK 2 [kA, kB] 512)) ∧ Below W.heap.size W w' := by
  have hl : xs.length = 2 := by rw [← pcs_length, hx]; rfl
  refine (KEncode_any 2 v xs 512 (by unfold i64r; omega) W h (by omega)).mono fun e w' hh => ?_
  rw [hx] at hh
  obtain ⟨hb, ⟨hf, _⟩ | ⟨_, ⟨hne, _⟩ | ⟨_, g, he, hg, ho⟩⟩⟩ := hh
  · exact absurd hf (by decide)
  · exact absurd kAB_enc hne
  · exact ⟨g, he, hg, ho, hb⟩
theorem KDec0 {w0 W : World} {L : List Ent} (hS : Sep w0 W L) (v : Value) (h : RdB W v (laidK 2 [kA, kB] 512)) : Calls Try.prog 21 #[v] W fun e w' => ∃ A c l, e = .returned (.tuple #[.int .i64 2, .slice A 2 c, .int .i64 0]) ∧ pcs l = [kA, kB] ∧ RngC l ∧ Sep w0 w' (csE (.slice A 2 c) l :: L) := by
  refine (KDecode_any v _ W h).mono fun e w' hh => ?_
  rcases hh with ⟨kind, l, u, hp, rfl, hr, hs⟩ | ⟨hn, -, -⟩
  · obtain ⟨rfl, hl⟩ := kAB_only hp
    have hl1 : l.length = 2 := by rw [← pcs_length, hl]; rfl
    have hO : Own w' 0 50 5 u l.length (flatC l) := hs.head.1 _ (List.mem_cons_self ..)
    obtain ⟨A, c, rfl⟩ := Own.slice hO
    have h1 := Sep.lift1 hs (List.mem_cons_self ..) hS
    rw [hl1] at h1 ⊢
    exact ⟨A, c, l, rfl, hl, hr, h1⟩
  · exact absurd kAB_pk (hn _ _)
theorem KOpen0 {w0 W : World} {L : List Ent} (hS : Sep w0 W L) (v : Value) (h : RdB W v (laidK 2 [kA, kB] 512)) : Calls Try.prog 25 #[v] W fun e w' => ∃ p, e = .returned (.tuple #[.pointer (some ⟨p, 0, none⟩), .int .i64 0]) ∧ PgK w0 w' L p 512 2 (tidyP 2 [kA, kB]) := by
  refine (KOpen_sep hS v _ h).mono fun e w' hh => ?_
  rcases hh with ⟨p, kind, l, hp, rfl, hP⟩ | ⟨hn, -, -⟩
  · obtain ⟨rfl, rfl⟩ := kAB_only hp
    rw [kAB_len] at hP
    exact ⟨p, rfl, hP⟩
  · exact absurd kAB_pk (hn _ _)
theorem KSize0 (W : World) (v : Value) (xs : List CV) (hx : pcs xs = [kA, kB]) (h : RdCs W v xs) : Calls Try.prog 13 #[.int .i64 2, v] W fun e w' => e = .returned (.int .i64 26) ∧ Below W.heap.size W w' := by
  have := KSize_any 2 v xs W h (by rw [hx]; decide)
  rw [hx, kAB_size] at this
  exact this
theorem KInv0 : KInv 2 512 (tidyP 2 [kA, kB]) := by
  have h := open_inv kAB_pk
  rw [kAB_len] at h
  exact h
theorem kC_in (M : List Ent) (g : Nat) (hm : litE g 1 [98] ∈ M) : XIn M ⟨.slice (some ⟨g, 0, none⟩) 1 1, .slice none 0 0, kC⟩ :=
  ⟨⟨_, hm, fun w h => h⟩, ⟨_, hm, fun w _ => RdB.nil⟩, by show i64r 1; unfold i64r; omega, by show i64r 0; unfold i64r; omega, by show i64r 0; unfold i64r; omega, by show 1 ≤ 140737488355328; omega, by show 0 ≤ 140737488355328; omega⟩
theorem KIns0 {w0 W : World} {L : List Ent} {p g : Nat} (hP : PgK w0 W L p 512 2 (tidyP 2 [kA, kB])) (hm : litE g 1 [98] ∈ L) : Calls Try.prog 33 #[.pointer (some ⟨p, 0, none⟩), .int .i64 2, .agg #[.slice (some ⟨g, 0, none⟩) 1 1, .int .i64 1, .slice none 0 0, .int .i64 0, .int .i64 0]] W fun e w' => e = .returned (.int .i64 0) ∧ PgK w0 w' L p 512 2 (insKS 2 512 (tidyP 2 [kA, kB]) 2 0 kC) := by
  have := KInsert_sep hP KInv0 (.inl rfl) (by omega) ⟨.slice (some ⟨g, 0, none⟩) 1 1, .slice none 0 0, kC⟩ (kC_in L g hm) 2 (by unfold i64r; omega)
  refine this.mono ?_
  rintro e w' ⟨rfl, h⟩
  refine ⟨?_, h⟩
  show Ending.returned (.int .i64 (insKZ 2 512 [kA, kB] 2 0 kC)) = _
  rw [kABC_put]
theorem KFind0 {w0 W : World} {L : List Ent} {p : Nat} (hP : PgK w0 W L p 512 2 (insKS 2 512 (tidyP 2 [kA, kB]) 2 0 kC)) (vk : Value) (hk : RdB W vk [97, 99]) :
    Calls Try.prog 41 #[.pointer (some ⟨p, 0, none⟩), vk] W fun e w' => e = .returned (.tuple #[.int .i64 1, .bool true]) ∧ Below W.heap.size W w' := by
  obtain ⟨u, pv, l, h1, h2, h3⟩ := hP
  rw [kABC_l] at h1
  have hr : Rising (pcs l) := by rw [h1, ← kABC_l]; exact (KInv0.ins 2 (by omega) kC).rise
  have := KFind_any (h3.kAt h2) hr (by rw [← pcs_length, h1]; decide) vk [97, 99] hk
  rw [h1, kABC_find.1, kABC_find.2] at this
  exact this
theorem KLen0 {w0 W : World} {L : List Ent} {p : Nat} (hP : PgK w0 W L p 512 2 (insKS 2 512 (tidyP 2 [kA, kB]) 2 0 kC)) :
    Calls Try.prog 29 #[.pointer (some ⟨p, 0, none⟩)] W fun e w' => e = .returned (.int .i64 3) ∧ W = w' := by
  obtain ⟨u, pv, l, h1, h2, h3⟩ := hP
  rw [kABC_l] at h1
  have := KLen_any (h3.kAt h2)
  rw [show l.length = 3 by rw [← pcs_length, h1]; rfl] at this
  exact this
set_option maxRecDepth 100000 in
set_option maxHeartbeats 8000000 in
theorem live_any (w : World) : Calls Try.prog 10 #[] w fun e w' => e = .returned (.bool true) ∧ Below w.heap.size w w' := by
  have kc := fun (w : World) (C : Array Value) (n c g : Nat) (hg : g = w.heap.size) => conv_id w C n c g hg
  go_enter Try.func10, Try.ntmps10
  go_upto_region 2 with (fail)
  have hS4 := ((((Sep.start w).lit [97, 98] #[.int .u8 97, .int .u8 98] 5 (2, 3) 2 rfl rfl (by decide)).lit [120] #[.int .u8 120] 5 (1, 2) 1 rfl rfl (by decide)).lit [97, 99] #[.int .u8 97, .int .u8 99] 5 (2, 3) 2 rfl rfl (by decide)).lit [121, 122] #[.int .u8 121, .int .u8 122] 5 (2, 3) 2 rfl rfl (by decide)
  have hz4 : ((((w.alloc (.cells #[.int .u8 97, .int .u8 98] 5 (2, 3))).alloc (.cells #[.int .u8 120] 5 (1, 2))).alloc (.cells #[.int .u8 97, .int .u8 99] 5 (2, 3))).alloc (.cells #[.int .u8 121, .int .u8 122] 5 (2, 3))).heap.size = w.heap.size + 1 + 1 + 1 + 1 := by simp
  simp only [World.size_alloc] at hS4
  rw [← hz4]
  generalize ((((w.alloc (.cells #[.int .u8 97, .int .u8 98] 5 (2, 3))).alloc (.cells #[.int .u8 120] 5 (1, 2))).alloc (.cells #[.int .u8 97, .int .u8 99] 5 (2, 3))).alloc (.cells #[.int .u8 121, .int .u8 122] 5 (2, 3))) = w4 at *
  have hxA : CV.ok w4 ⟨.slice (some ⟨w.heap.size, 0, none⟩) 2 2, .slice (some ⟨w.heap.size + 1, 0, none⟩) 1 1, kA⟩ := { k := hS4.of_mem (E := litE w.heap.size 2 [97, 98]) (by simp), v := hS4.of_mem (E := litE (w.heap.size + 1) 1 [120]) (by simp), r1 := show i64r 1 by unfold i64r; omega, r2 := show i64r 0 by unfold i64r; omega, r3 := show i64r 0 by unfold i64r; omega }
  have hxB : CV.ok w4 ⟨.slice (some ⟨w.heap.size + 1 + 1, 0, none⟩) 2 2, .slice (some ⟨w.heap.size + 1 + 1 + 1, 0, none⟩) 2 2, kB⟩ := { k := hS4.of_mem (E := litE (w.heap.size + 1 + 1) 2 [97, 99]) (by simp), v := hS4.of_mem (E := litE (w.heap.size + 1 + 1 + 1) 2 [121, 122]) (by simp), r1 := show i64r 1 by unfold i64r; omega, r2 := show i64r 0 by unfold i64r; omega, r3 := show i64r 0 by unfold i64r; omega }
  have hrd5 : RdCs (w4.alloc (.cells #[.slice (some ⟨w.heap.size, 0, none⟩) 2 2, .int .i64 1, .slice (some ⟨w.heap.size + 1, 0, none⟩) 1 1, .int .i64 0, .int .i64 0, .slice (some ⟨w.heap.size + 1 + 1, 0, none⟩) 2 2, .int .i64 1, .slice (some ⟨w.heap.size + 1 + 1 + 1, 0, none⟩) 2 2, .int .i64 0, .int .i64 0] 50)) (.slice (some ⟨w4.heap.size, 0, none⟩) 2 2) [⟨.slice (some ⟨w.heap.size, 0, none⟩) 2 2, .slice (some ⟨w.heap.size + 1, 0, none⟩) 1 1, kA⟩, ⟨.slice (some ⟨w.heap.size + 1 + 1, 0, none⟩) 2 2, .slice (some ⟨w.heap.size + 1 + 1 + 1, 0, none⟩) 2 2, kB⟩] := two_rd w4 _ _ hxA hxB
  have hA5 : Below w.heap.size w (w4.alloc (.cells #[.slice (some ⟨w.heap.size, 0, none⟩) 2 2, .int .i64 1, .slice (some ⟨w.heap.size + 1, 0, none⟩) 1 1, .int .i64 0, .int .i64 0, .slice (some ⟨w.heap.size + 1 + 1, 0, none⟩) 2 2, .int .i64 1, .slice (some ⟨w.heap.size + 1 + 1 + 1, 0, none⟩) 2 2, .int .i64 0, .int .i64 0] 50)) := (hS4.belowOld (v := w) (by simp)).alloc (by omega) _
  generalize w4.heap.size = lb at *
  generalize w4.alloc (.cells #[.slice (some ⟨w.heap.size, 0, none⟩) 2 2, .int .i64 1, .slice (some ⟨w.heap.size + 1, 0, none⟩) 1 1, .int .i64 0, .int .i64 0, .slice (some ⟨w.heap.size + 1 + 1, 0, none⟩) 2 2, .int .i64 1, .slice (some ⟨w.heap.size + 1 + 1 + 1, 0, none⟩) 2 2, .int .i64 0, .int .i64 0] 50) = w5 at *
  clear hS4 hxA hxB hz4
  generalize hXS : ([⟨.slice (some ⟨w.heap.size, 0, none⟩) 2 2, .slice (some ⟨w.heap.size + 1, 0, none⟩) 1 1, kA⟩, ⟨.slice (some ⟨w.heap.size + 1 + 1, 0, none⟩) 2 2, .slice (some ⟨w.heap.size + 1 + 1 + 1, 0, none⟩) 2 2, kB⟩] : List CV) = xs at *
  have hxp : pcs xs = [kA, kB] := by rw [← hXS]; rfl
  clear hXS
  have HXP := Lib.hid hxp
  have H9 := Lib.hid kAB_at.1
  have H10 := Lib.hid kAB_at.2
  have hsz := KSize0 w5 _ xs hxp hrd5
  clear hxp
  go_upto_region 3 with (first
    | (go_at_call 13; (with_reducible refine hsz.mono ?_); rintro e w6 ⟨rfl, hw6⟩)
    | fail)
  have hS6 := (Sep.start w5).below hw6
  have hen := KEnc0 w6 _ xs HXP.out (hS6.rdC7 (List.mem_cons_self ..) hrd5)
  clear hsz hw6
  go_upto_region 4 with (first
    | (go_at_call 16; (with_reducible refine hen.mono ?_); rintro e w7 ⟨g, rfl, hg, ho, hw7⟩)
    | fail)
  have hS7 := hS6.new hw7 (E := blkE g 5 (bvs (laidK 2 [kA, kB] 512))) ho (fun g' hg' => by have e : g' = g := hg'; subst e; exact ⟨hg, ho.lt⟩)
  have hdc := KDec0 hS7 (.slice (some ⟨g, 0, none⟩) 512 512) (ho.rdB kAB_len (by omega))
  clear hen hS6 hw7 ho hg
  go_upto_region 5 with (first
    | (go_at_call 21; (with_reducible refine hdc.mono ?_); rintro e w8 ⟨DA, dc, dl, rfl, hdp, hdr, hS8⟩)
    | fail)
  have ho8 : OBlk w8 g 5 (bvs (laidK 2 [kA, kB] 512)) := hS8.tail.head
  have hop := KOpen0 hS8 (.slice (some ⟨g, 0, none⟩) 512 512) (ho8.rdB kAB_len (by omega))
  have HDP := Lib.hid hdp
  clear hdc hS7 ho8 hS8 hdp
  go_upto_region 6 with (first
    | (go_at_call 25; (with_reducible refine hop.mono ?_); rintro e w9 ⟨p, rfl, hP9⟩)
    | fail)
  have hsa : Calls Try.prog 22 #[.slice (some ⟨lb, 0, none⟩) 2 2, .slice DA 2 dc] w9 fun e w' => e = .returned (.bool true) ∧ Below w9.heap.size w9 w' := by
    obtain ⟨u, pv, lp, h1, h2, h3⟩ := hP9
    have := RKSameAll_any (.slice (some ⟨lb, 0, none⟩) 2 2) (.slice DA 2 dc) xs dl w9 (h3.rdC7 (by simp) hrd5) (csE_rd (h3.tail.head) hdr)
    rw [HXP.out, HDP.out, sameAllB_iff.2 rfl] at this
    exact this
  clear hop
  go_upto_region 9 with (first
    | (go_at_call 22; (with_reducible refine hsa.mono ?_); rintro e w10 ⟨rfl, hw10⟩)
    | fail)
  have hP10 := hP9.below hw10
  clear hsa hP9 hw10
  have hP11 := hP10.lit [98] #[.int .u8 98] 5 (1, 2) 1 rfl rfl (by decide)
  have hin := KIns0 hP11 (List.mem_cons_self ..)
  go_upto_region 10 with (first
    | (go_at_call 33; (with_reducible refine hin.mono ?_); rintro e w12 ⟨rfl, hP12⟩)
    | fail)
  clear hin hP10 hP11
  have hP13 := hP12.lit [97, 99] #[.int .u8 97, .int .u8 99] 5 (2, 3) 2 rfl rfl (by decide)
  have hfi := KFind0 hP13 (.slice (some ⟨w12.heap.size, 0, none⟩) 2 2) (by obtain ⟨u, pv, lp, h1, h2, h3⟩ := hP13; exact h3.tail.head)
  go_upto_region 11 with (first
    | (go_at_call 41; (with_reducible refine hfi.mono ?_); rintro e w14 ⟨rfl, hw14⟩)
    | fail)
  have hP14 := hP13.below hw14
  clear hfi hP12 hP13 hw14
  have hln := KLen0 hP14
  have hbk : OBlk w14 g 5 (bvs (laidK 2 [kA, kB] 512)) := by obtain ⟨u, pv, lp, h1, h2, h3⟩ := hP14; exact h3.of_mem (E := blkE g _ _) (by simp)
  have hB14 : Below w.heap.size w w14 := by obtain ⟨u, pv, lp, h1, h2, h3⟩ := hP14; exact hA5.trans ((h3.belowOld (v := w5) (by simp)).mono hA5.size)
  have d9 : w14.cell? ⟨g, 9, none⟩ = some (.int .u8 0) := by rw [hbk.cell]; unfold bvs; rw [List.getElem?_map, H9.out]; rfl
  have d10 : w14.cell? ⟨g, 10, none⟩ = some (.int .u8 16) := by rw [hbk.cell]; unfold bvs; rw [List.getElem?_map, H10.out]; rfl
  clear hP14 hbk
  go_wp2_with (first
    | (go_at_call 29; (with_reducible refine hln.mono ?_); rintro e w15 ⟨rfl, rfl⟩)
    | fail)
  go_ret
  exact ⟨rfl, hB14⟩
end Go.Proofs.Ytaniabhajngdeaa

-- espalierlaw07.Great: the walk.
namespace Go.Proofs.Ytaniabhajngdeaa
open Go.RowKit
def gsum : List PC → Nat
  | [] => 0
  | c :: r => (1 + c.key.length + c.val.length) + gsum r
theorem gsum_append : ∀ (a b : List PC), gsum (a ++ b) = gsum a + gsum b
  | [], b => by simp [gsum]
  | c :: r, b => by simp only [List.cons_append, gsum, gsum_append r b]; omega
theorem gsum_take (l : List PC) {k : Nat} (h : k < l.length) : gsum (l.take (k + 1)) = gsum (l.take k) + (1 + l[k].key.length + l[k].val.length) := by
  rw [List.take_succ_eq_append_getElem h, gsum_append]; simp [gsum]
theorem gsum_big : ∀ (l : List PC), bigK l ≤ 33 * gsum l
  | [] => by simp [bigK, gsum]
  | c :: r => by
    have := gsum_big r
    simp only [bigK, gsum]; omega
theorem gsum_len : ∀ (l : List PC), l.length ≤ gsum l
  | [] => by simp
  | c :: r => by
    have := gsum_len r
    simp only [List.length_cons, gsum]; omega
/-- What Great tells. -/
def GrAt (w : World) (l : List PC) (e : Ending) (w' : World) : Prop := ∃ g : Bool, e = .returned (.bool g) ∧ (g = false → gsum l ≤ 300000) ∧ Below w.heap.size w w'
set_option maxRecDepth 100000 in
set_option maxHeartbeats 4000000 in
theorem KGreat_any (v : Value) (l : List CV) (w : World) (hl : RdCs w v l) (hb : ∀ c ∈ pcs l, c.key.length ≤ 140737488355328 ∧ c.val.length ≤ 140737488355328) :
    Calls Try.prog 11 #[v] w (GrAt w (pcs l)) := by
  obtain ⟨A, c, rfl, hm, hc⟩ := hl.slice
  go_enter Try.func11, Try.ntmps11
  go_wp2_with fail
  go_loopw [3, 4] (fun n i wr => ∃ k N : Nat, k ≤ l.length ∧ i = .int .i64 (k : Int) ∧ n = .int .i64 (N : Int) ∧ Hid (N = gsum ((pcs l).take k)) ∧ N ≤ 300000000000000 ∧ Below w.heap.size w wr) (fun _ i _ => l.length - (intOf i).toNat)
  case atStart => exact ⟨0, 0, Nat.zero_le _, rfl, rfl, Lib.hid (by simp [gsum]), by omega, Below.refl _ _⟩
  case round =>
    obtain ⟨k, N, hk, rfl, rfl, HN, hN9, hB⟩ := hrel
    by_cases hlt : k < l.length
    · have ik : (k : Int) < (l.length : Int) := by omega
      by_cases hN : N ≤ 300000
      · have i1 : (N : Int) ≤ 300000 := by omega
        have hlr := hl.below hB
        obtain ⟨ad, rfl, c0, c1, c2, c3, c4⟩ := hlr.at_ hlt
        have hx := hlr.ok _ (List.getElem_mem hlt)
        have hbx := hb l[k].c (by rw [← pcs_at hlt]; exact List.getElem_mem _)
        have hgs : gsum ((pcs l).take (k + 1)) = gsum ((pcs l).take k) + (1 + l[k].c.key.length + l[k].c.val.length) := by rw [gsum_take _ (by rw [pcs_length]; exact hlt), pcs_at hlt]
        generalize l[k] = x at *
        obtain ⟨A1, a1, B1, b1, key, ck, val, pg, ct, rfl, -, -⟩ := CV.form hx
        simp only at hbx hgs c0 c2
        have HG := Lib.hid hgs
        have j1 : (0 : Int) ≤ (k : Int) := by omega
        have e1 : IntKind.i64.wrap ((N : Int) + 1) = (N : Int) + 1 := by rw [IntKind.wrap_i64]; omega
        have e2 : IntKind.i64.wrap ((N : Int) + 1 + (key.length : Int)) = (N : Int) + 1 + (key.length : Int) := by rw [IntKind.wrap_i64]; omega
        have e3 : IntKind.i64.wrap ((N : Int) + 1 + (key.length : Int) + (val.length : Int)) = (N : Int) + 1 + (key.length : Int) + (val.length : Int) := by rw [IntKind.wrap_i64]; omega
        clear hx hgs hlr
        go_upto_region 5 with (fail)
        go_quiet (fail)
        go_wp2_with fail
        go_roundw
        case rel => exact ⟨k + 1, N + 1 + key.length + val.length, by omega, by go_num, by go_num, Lib.hid (by rw [HG.out, ← HN.out]; omega), by omega, below_drewN hB _⟩
        case measure => simp [intOf]; omega
      · have i1 : ¬ (N : Int) ≤ 300000 := by omega
        have i2 : (300000 : Int) < (N : Int) := by omega
        go_wp2_with fail
        go_ret
        exact ⟨true, rfl, by simp, hB⟩
    · obtain rfl : k = l.length := by omega
      have hN2 : N = gsum (pcs l) := by rw [HN.out, List.take_of_length_le (by rw [pcs_length]; omega)]
      have HN2 := Lib.hid hN2
      clear hN2
      by_cases hN : N ≤ 300000
      · have i1 : ¬ (300000 : Int) < (N : Int) := by omega
        go_wp2_with fail
        go_ret
        exact ⟨false, rfl, fun _ => by rw [← HN2.out]; exact hN, hB⟩
      · have i1 : (300000 : Int) < (N : Int) := by omega
        go_wp2_with fail
        go_ret
        exact ⟨true, rfl, by simp, hB⟩
end Go.Proofs.Ytaniabhajngdeaa

-- espalierlaw07.PackedBack: the walk.
namespace Go.Proofs.Ytaniabhajngdeaa
open Go.RowKit
theorem isPk_only {b : List UInt8} {kind kind' : Int} {l l' : List PC} (h : isPk b kind l) (h' : isPk b kind' l') : kind' = kind ∧ l' = l := by
  have h1 := isPk_parse h
  have h2 := isPk_parse h'
  rw [h1.1] at h2
  exact ⟨h2.2.1.symm.trans h1.2.1, (Option.some.inj h2.1).symm⟩
theorem pk_laid {kind : Int} {l : List PC} {P : Int} (ht : (isKindB kind && isPowB P) = true) (hz : encK kind l P.toNat = 0) : isPk (laidK kind l P.toNat) kind l := by
  rw [Bool.and_eq_true] at ht
  have hr := isPowB_range ht.2
  have hL := laidK_length (encK_zero.1 hz).2
  exact ⟨by rw [hL, show ((P.toNat : Nat) : Int) = P by omega]; exact ht.2, ht.1, by rw [hL]; exact hz, by rw [hL]⟩
/-- Decode of what is a page. -/
theorem KDec_pk {w0 W : World} {L : List Ent} (hS : Sep w0 W L) (v : Value) (b : List UInt8) (h : RdB W v b) {kind : Int} {l : List PC} (hp : isPk b kind l) : Calls Try.prog 21 #[v] W fun e w' => ∃ A c m, e = .returned (.tuple #[.int .i64 kind, .slice A m.length c, .int .i64 0]) ∧ pcs m = l ∧ RngC m ∧ Sep w0 w' (csE (.slice A m.length c) m :: L) := by
  refine (KDecode_any v b W h).mono fun e w' hh => ?_
  rcases hh with ⟨kind', m, u, hp', rfl, hr, hs⟩ | ⟨hn, -, -⟩
  · obtain ⟨rfl, hl⟩ := isPk_only hp hp'
    have hO : Own w' 0 50 5 u m.length (flatC m) := hs.head.1 _ (List.mem_cons_self ..)
    obtain ⟨A, c, rfl⟩ := Own.slice hO
    exact ⟨A, c, m, rfl, hl, hr, Sep.lift1 hs (List.mem_cons_self ..) hS⟩
  · exact absurd hp (hn _ _)
theorem pk_len {b : List UInt8} {kind : Int} {l : List PC} (h : isPk b kind l) : l.length ≤ 16384 ∧ b.length ≤ 65536 ∧ 512 ≤ b.length := by
  have hr := isPowB_range h.1
  exact ⟨(open_inv h).len (by omega), by omega, by omega⟩
/-- Encode, in one piece. -/
theorem KEncU {w0 W : World} {L : List Ent} (hS : Sep w0 W L) (kind : Int) (v : Value) (l : List CV) (P : Int) (hPr : i64r P) (h : RdCs W v l) (hn : l.length ≤ 2000000000000) : Calls Try.prog 16 #[.int .i64 kind, v, .int .i64 P] W fun e w' => ∃ (wv : Value) (z : Int), e = .returned (.tuple #[wv, .int .i64 z]) ∧
    (z = 0 → (isKindB kind && isPowB P) = true ∧ encK kind (pcs l) P.toNat = 0 ∧ ∃ g, wv = .slice (some ⟨g, 0, none⟩) P.toNat P.toNat ∧ Sep w0 w' (blkE g 5 (bvs (laidK kind (pcs l) P.toNat)) :: L)) ∧
    ((isKindB kind && isPowB P) = true → z = encK kind (pcs l) P.toNat) ∧ Sep w0 w' L := by
  refine (KEncode_any kind v l P hPr W h hn).mono ?_
  unfold EncKAt
  rintro e w' ⟨hw, ⟨hf, rfl⟩ | ⟨ht, ⟨hne, rfl⟩ | ⟨hz, g, rfl, hg, hbk⟩⟩⟩
  · exact ⟨_, 1, rfl, (fun e => by cases e), (fun e => by rw [hf] at e; cases e), hS.below hw⟩
  · exact ⟨_, _, rfl, (fun e => absurd e hne), (fun _ => rfl), hS.below hw⟩
  · exact ⟨_, 0, rfl, fun _ => ⟨ht, hz, g, rfl, hS.new hw (E := blkE g _ _) hbk (fun g' hg' => by have e : g' = g := hg'; subst e; exact ⟨hg, hbk.lt⟩)⟩, fun _ => hz.symm, hS.below hw⟩
set_option maxRecDepth 100000 in
set_option maxHeartbeats 4000000 in
theorem kback_any (kind : Int) (v : Value) (l : List CV) (P : Int) (hPr : i64r P) (vb : Value) (b : List UInt8) (w : World) (hl : RdCs w v l) (hbr : RdB w vb b) (hb : ∀ c ∈ pcs l, c.key.length ≤ 140737488355328 ∧ c.val.length ≤ 140737488355328) :
    Calls Try.prog 6 #[.int .i64 kind, v, .int .i64 P, vb] w fun e w' => e = .returned (.bool true) ∧ Below w.heap.size w w' := by
  have hgr := KGreat_any v l w hl hb
  obtain ⟨A, c, rfl, hm, hc⟩ := hl.slice
  obtain ⟨B, d, rfl, hm2⟩ := hbr.form
  go_enter Try.func6, Try.ntmps6
  go_upto_region 3 with (first
    | (go_at_call 11; (with_reducible refine hgr.mono ?_); rintro e w1 ⟨g, rfl, hgs, hw1⟩)
    | (go_at_call 10; refine (live_any _).mono ?_; rintro e w2 ⟨rfl, hw2⟩)
    | fail)
  have hB := hw1.trans (hw2.mono hw1.size)
  clear hgr hw1 hw2
  cases g with
  | true =>
    go_wp2_with fail
    go_ret
    exact ⟨rfl, hB⟩
  | false =>
    have hgs' := hgs rfl
    have hlen := gsum_len (pcs l)
    have hbig := gsum_big (pcs l)
    rw [pcs_length] at hlen
    have hS2 := (Sep.start w).below hB
    have hE := KEncU hS2 kind _ l P hPr (hS2.rdC7 (List.mem_cons_self ..) hl) (by omega)
    have hbigl : bigK (pcs l) ≤ 1152921504606846976 := by omega
    clear hgs hgs' hbig hB
    go_upto_if 41 with (first
      | (go_at_call 16; (with_reducible refine hE.mono ?_); rintro e w3 ⟨wv, z, rfl, hz0, -, hS3⟩)
      | fail)
    clear hE hS2
    go_cut [] (fun wx => Sep w wx [oldE w])
    case first =>
      by_cases hz : z = 0
      · subst hz
        obtain ⟨ht, hez, g, rfl, hS4⟩ := hz0 rfl
        have hpk := pk_laid ht hez
        rw [Bool.and_eq_true] at ht
        have hpr := isPowB_range ht.2
        obtain ⟨Q, rfl⟩ : ∃ Q : Nat, P = (Q : Int) := ⟨P.toNat, by omega⟩
        rw [Int.toNat_natCast] at hS4 hpk hez ⊢
        have hL := laidK_length (kind := kind) (encK_zero.1 hez).2
        have hps : ¬ (Q : Int) < (psizeF kind (pcs l) : Int) := by have := (encK_zero.1 hez).2; omega
        have hok : OBlk w3 g 5 (bvs (laidK kind (pcs l) Q)) := hS4.head
        have hD := KDec_pk hS3 (.slice (some ⟨g, 0, none⟩) Q Q) _ (hok.rdB hL (by omega)) hpk
        clear hz0 hez ht hpk hL hok hS4
        go_upto_region 8 with (first
          | (go_at_call 21; (with_reducible refine hD.mono ?_); rintro e w4 ⟨DA, dc, m, rfl, hmp, hmr, hS5⟩)
          | fail)
        have hsa := RKSameAll_any _ (.slice A l.length c) m l w4 (csE_rd hS5.head hmr) (hS5.rdC7 (by simp) hl)
        rw [sameAllB_iff.2 hmp] at hsa
        have hsz := fun W (hW : Sep w W [oldE w]) => KSize_any kind (.slice A l.length c) l W (hW.rdC7 (List.mem_cons_self ..) hl) hbigl
        clear hD hS3 hmp
        generalize m.length = ml at *
        generalize psizeF kind (pcs l) = ps at *
        go_wp2_with (first
          | (go_at_call 22; (with_reducible refine hsa.mono ?_); rintro e w5 ⟨rfl, hw5⟩)
          | (go_at_call 13; refine (hsz _ (hS5.tail.below hw5)).mono ?_; rintro e w6 ⟨rfl, hw6⟩)
          | fail)
        go_meet
        exact (hS5.tail.below hw5).below hw6
      · have hnb : (z == 0) = false := beq_eq_false_iff_ne.2 hz
        clear hz hz0
        go_wp2_with fail
        go_meet
        exact hS3
    case rest =>
      have hS4 := hcut
      clear hcut hz0 hS3
      have hD := KDecode_any _ b wc (hS4.rd (List.mem_cons_self ..) hbr)
      go_wp2_with fail
      refine hD.mono ?_
      rintro e w4 (⟨kd, m, u, hpk, rfl, hmr, hS5⟩ | ⟨-, rfl, hw4⟩)
      · obtain ⟨DA, dc, rfl⟩ := Own.slice (show Own w4 0 50 5 u m.length (flatC m) from hS5.head.1 _ (List.mem_cons_self ..))
        have hS6 := Sep.lift1 hS5 (List.mem_cons_self ..) hS4
        obtain ⟨hml, hbl, -⟩ := pk_len hpk
        rw [pcs_length] at hml
        have hE := KEncU hS6 kd (.slice DA m.length dc) m (b.length : Int) (by unfold i64r; omega) (csE_rd hS6.head hmr) (by omega)
        have HPK := Lib.hid hpk
        clear hD hS5 hpk
        go_upto_region 16 with (first
          | (go_at_call 16; (with_reducible refine hE.mono ?_); rintro e w5 ⟨wv, z, rfl, hz0, hz1, hS7⟩)
          | fail)
        have hk := HPK.out
        have hz : z = 0 := by rw [hz1 (by rw [hk.2.1, hk.1]; rfl), Int.toNat_natCast]; exact hk.2.2.1
        subst hz
        obtain ⟨-, -, g, rfl, hS8⟩ := hz0 rfl
        rw [Int.toNat_natCast, hk.2.2.2] at hS8
        rw [Int.toNat_natCast]
        have hok : OBlk w5 g 5 (bvs b) := hS8.head
        have hsm := Same_any (.slice (some ⟨g, 0, none⟩) b.length b.length) (.slice B b.length d) b b w5 (hok.rdB rfl (by omega)) (hS7.rd (v := w) (by simp) hbr)
        rw [show (b == b) = true by simp] at hsm
        clear hE hz0 hz1 hk hok hS8
        go_wp2_with (first
          | (go_at_call 18; (with_reducible refine hsm.mono ?_); rintro e w6 ⟨rfl, rfl⟩)
          | fail)
        go_ret
        exact ⟨rfl, hS7.belowOld (v := w) (by simp)⟩
      · have hS5 := hS4.below hw4
        clear hD
        go_wp2_with fail
        go_ret
        exact ⟨rfl, hS5.belowOld (v := w) (by simp)⟩
end Go.Proofs.Ytaniabhajngdeaa

-- The row's last step from 'Below' alone (the guide's small lemma 9).
namespace Go.Proofs.Ytaniabhajngdeaa
open Go.RowKit Go.WideShapes Go.ChangeShapes
section
variable {H : Type} {enc : TypeId × Value → H} {P : Program}
theorem post_of_below {f : Func} {s : ChangeSpec} {apart fresh handsOn again : Bool} {W W' : World} {args : Array Value} {v : Value} {ds gs : List (DataW H)} {before pa pv : List MemPlace}
    (hW : DataW.Whole enc P f.params.toList s.vars apart W args.toList ds gs before)
    (hres : ∀ (b : Nat) (sp : Nat → Bool) (hd : Bool), DataW.TrodAll enc P W' b sp hd f.resultTypes.toList (v.resultList f.resultTypes.size) (s.fn H (ds ++ gs)).results [])
    (hargs : ∀ sp : Nat → Bool, (∀ p ∈ before, sp p.block = true) → DataW.TrodAll enc P W' 0 sp true f.params.toList args.toList (s.fn H (ds ++ gs)).args pa)
    (hvars : ∀ sp : Nat → Bool, (∀ p ∈ before, sp p.block = true) → DataW.TrodVars enc P W' sp s.vars (s.fn H (ds ++ gs)).vars pv)
    (hps : before = pa ++ pv) (hb : Below W.heap.size W W')
    (hok : ∀ (j : Nat) (t : TypeId) (r : Value), f.resultTypes[j]? = some t → (v.resultList f.resultTypes.size)[j]? = some r → Value.okWide P W' .any 0 t r) :
    s.post enc P f apart fresh handsOn again W args v W' := by
  have hlt : ∀ p ∈ before, p.block < W.heap.size := fun p hp => hW.lt p hp
  have hold : ∀ p ∈ before, (fun b => decide (b < W.heap.size)) p.block = true := fun p hp => by simpa using hlt p hp
  refine ⟨ds, gs, before, [], pa, pv, hW, hres _ _ _, hargs _ hold, hvars _ hold, World.keptBut_mono (fun p hp => ⟨hp, ?_⟩) (hb.frame (· ∈ before)), fun _ => ?_⟩
  · rw [hps, List.mem_append] at hp
    exact Or.inr hp
  · obtain ⟨_, _, _, _, _, hz, hn⟩ := hW
    refine ⟨hok, _, _, ([] ++ pa) ++ pv, ⟨[] ++ pa, pv, trodAll_append (hargs _ (fun _ _ => rfl)) (hres _ _ _), hvars _ (fun _ _ => rfl), rfl, ?_, ?_⟩, ?_⟩
    · intro b off hp
      have hin : MemPlace.cell b off ∈ before := by rw [hps]; simpa using hp
      rw [hb.frozen (hlt _ hin)]
      exact hz b off hin
    · intro ha
      have := hn ha
      rw [hps] at this
      simpa using this
    · intro p hp _
      rw [hps]
      simpa using hp
end
end Go.Proofs.Ytaniabhajngdeaa

-- A law that returns true and changes nothing below: from its walk to the row's own form.
namespace Go.Proofs.Ytaniabhajngdeaa
open Go.RowKit Go.WideShapes Go.ChangeShapes Go.Joins
section
variable {H : Type} {enc : TypeId × Value → H} {P : Program}
theorem trodAll_stays (hl : laidOutB P = true) {W W' : World} {sp' : Nat → Bool} : ∀ {ts : List TypeId} {vs : List Value} {ds : List (DataW H)} {ps : List MemPlace}, (ts.all fun t => P.readableRec t && decide (t < P.types.size)) = true →
    DataW.TrodAll enc P W 0 (fun _ => true) true ts vs ds ps → (∀ p ∈ ps, W.sameAt W' p) → (∀ p ∈ ps, sp' p.block = true) → DataW.TrodAll enc P W' 0 sp' true ts vs ds ps
  | [], [], [], _, _, h, _, _ => h
  | t :: ts, _ :: _, _ :: _, _, hr, ⟨p, q, h1, h2, e⟩, hk, hs => by
    simp only [List.all_cons, Bool.and_eq_true, decide_eq_true_eq] at hr
    obtain ⟨⟨hr1, hr2⟩, hr3⟩ := hr
    exact ⟨p, q, WideElems.Trod_stays hl hr1 hr2 h1 (fun x hx => hk x (by rw [e]; exact List.mem_append_left _ hx)) (fun x hx => hs x (by rw [e]; exact List.mem_append_left _ hx)),
      trodAll_stays hl hr3 h2 (fun x hx => hk x (by rw [e]; exact List.mem_append_right _ hx)) (fun x hx => hs x (by rw [e]; exact List.mem_append_right _ hx)), e⟩
theorem trodAll_len {w : World} {base : Nat} {spare : Nat → Bool} {held : Bool} : ∀ {ts : List TypeId} {vs : List Value} {ds : List (DataW H)} {ps : List MemPlace}, DataW.TrodAll enc P w base spare held ts vs ds ps → ds.length = ts.length
  | [], [], [], _, _ => rfl
  | _ :: _, _ :: _, _ :: _, _, ⟨_, _, _, h2, _⟩ => by simp [trodAll_len h2]
theorem law_post {fn : Func} {s : ChangeSpec} {tb : TypeId} {W W' : World} {args : Array Value} {ds gs : List (DataW H)} {before : List MemPlace} (hvars : s.vars = []) (hrt : fn.resultTypes = #[tb]) (htb : P.underlying tb = some .bool) (hl : laidOutB P = true)
    (hr : (fn.params.toList.all fun t => P.readableRec t && decide (t < P.types.size)) = true) (hs : ∀ ds : List (DataW H), ds.length = fn.params.size → s.fn H ds = { results := [.lit (.bool true)], args := ds })
    (hW : DataW.Whole enc P fn.params.toList s.vars false W args.toList ds gs before) (hb : Below W.heap.size W W') : s.post enc P fn false true false false W args (.bool true) W' := by
  have hW' := hW
  obtain ⟨p, q, hA, hV, rfl, hfz, hnd⟩ := hW
  rw [hvars] at hV
  obtain ⟨rfl, rfl⟩ := trodVars_none hV
  have hlen : ds.length = fn.params.size := by simpa using trodAll_len hA
  have hfn := hs ds hlen
  have hlt : ∀ x ∈ p, x.block < W.heap.size := fun x hx => hW'.lt x (List.mem_append_left _ hx)
  refine post_of_below (pa := p) (pv := []) hW' ?_ ?_ ?_ (by simp) hb (ok_one hrt rfl (okWide_bool_mk htb _))
  · intro b sp hd
    rw [List.append_nil, hfn, hrt]
    exact trodAll_cons_mk (shut_bool htb _) trodAll_mk0
  · intro sp hsp
    rw [List.append_nil, hfn]
    exact trodAll_stays hl hr hA (fun x hx => hb.same (hlt x hx)) (fun x hx => hsp x (List.mem_append_left _ hx))
  · intro sp _
    rw [List.append_nil, hfn, hvars]
    exact (rfl : DataW.TrodVars enc P W' sp [] [] [])
end
theorem law_lifts {H : Type} {enc : TypeId × Value → H} {C : Checked} {os : Os} {fno : FuncId} {fn : Func} {s : ChangeSpec} {conds : List PathCond} {tb : TypeId}
    (own : ownKnob C.prog.godebug = none) (started : os.Started) (noInit : C.prog.inits.idxOf? fno = none) (hfn : C.prog.funcs[fno]? = some fn)
    (witness : ∃ (w : World) (tape : Tape) (i : Input), w.os = os ∧ (w.forCall tape i).Shaped C.prog ∧ i.vars = [] ∧ Input.okWide C.prog (w.forCall tape i) .any w.heap.size fno i ∧
      s.pre6 enc C.prog fn conds false (w.forCall tape i).memory i.args ∧ ({} : Assume).holds C.prog (lone (Frame.enter C.prog fno i.args .normal) [] (w.forCall tape i)))
    (hvars : s.vars = []) (hrt : fn.resultTypes = #[tb]) (htb : C.prog.underlying tb = some .bool) (hl : laidOutB C.prog = true)
    (hr : (fn.params.toList.all fun t => C.prog.readableRec t && decide (t < C.prog.types.size)) = true) (hs : ∀ ds : List (DataW H), ds.length = fn.params.size → s.fn H ds = { results := [.lit (.bool true)], args := ds })
    (walk : ∀ (W : World) (base : Nat) (args : Array Value) (ds : List (DataW H)) (p : List MemPlace), (∀ (j : Nat) t v, fn.params[j]? = some t → args[j]? = some v → Value.okWide C.prog W .any base t v) →
      DataW.TrodAll enc C.prog W 0 (fun _ => true) true fn.params.toList args.toList ds p → (DataW.weightsEach C.prog fn.params.toList ds).all (· ≤ reachBytes) = true →
      Calls C.prog fno args W fun e W' => e = .returned (.bool true) ∧ Below W.heap.size W W') :
    ReturnsInHanded {} C os fno .any (s.pre6 enc C.prog fn conds false) (s.post enc C.prog fn false true false false) := by
  refine returnsInHanded_of_change_sized own started noInit hfn witness ?_
  intro W base args ds gs before hval hW _ hsz _
  have hW' := hW
  obtain ⟨p, q, hA, hV, _, _, _⟩ := hW
  rw [hvars] at hV
  obtain ⟨rfl, rfl⟩ := trodVars_none hV
  have hv : s.plain.varTypes C.prog = [] := by
    unfold ChangeSpec.plain DataSpec.varTypes
    simp [hvars]
  rw [hv, List.append_nil, List.append_nil] at hsz
  refine (walk W base args ds p hval hA hsz).mono fun e W' h => ?_
  obtain ⟨rfl, hb⟩ := h
  exact ⟨_, rfl, law_post hvars hrt htb hl hr hs hW' hb⟩
section
variable {H : Type} {enc : TypeId × Value → H} {W : World}
theorem cells_u8 : Try.prog.cellsOf 5 = 1 := by kernel_rfl
theorem bytes_u8 : Try.prog.bytesOf 5 = 1 := by kernel_rfl
set_option maxRecDepth 100000 in
/-- An argument of type []byte. -/
theorem open_bytes {base : Nat} {v : Value} {d : DataW H} {p : List MemPlace} {ts : List TypeId} {ds : List (DataW H)} {j : Nat} (hv : Value.okWide Try.prog W .any base 29 v) (h : DataW.Trod enc Try.prog W 0 (fun _ => true) true 29 v d p)
    (hsz : (DataW.weightsEach Try.prog ts ds).all (· ≤ reachBytes) = true) (ht : ts[j]? = some 29) (hd : ds[j]? = some d) :
    ∃ l : List UInt8, RdB W v l ∧ l.length ≤ 140737488351232 := by
  obtain ⟨a0, len, cap, rfl⟩ := okWide_slice Try.underlying29 hv
  obtain ⟨fuel, hf⟩ := h
  rcases open_ints Try.underlying29 Try.underlying5 cells_u8 hf with ⟨hcs, _⟩ | ⟨a, len', cap', zs, hcs, _, hl, hm, hz, hx, hcell, hwz⟩
  · simp [Value.cells] at hcs
    obtain ⟨rfl, rfl, rfl⟩ := hcs
    exact ⟨[], RdB.nil, by simp⟩
  · simp [Value.cells] at hcs
    obtain ⟨rfl, rfl, rfl⟩ := hcs
    simp only [if_true] at hz
    simp only [Prod.mk.injEq] at hx
    obtain ⟨rfl, _⟩ := hx
    have hs := sized_slice hsz ht hd Try.underlying29
    rw [bytes_u8] at hs
    simp only [lits, List.length_map, List.length_take, List.length_drop, reachBytes] at hs
    refine ⟨(zs.take len).map fun z => UInt8.ofNat z.toNat, ?_, by simp; omega⟩
    have hlen : ((zs.take len).map fun z => UInt8.ofNat z.toNat).length = len := by simp; omega
    refine ⟨some a, cap, by rw [hlen], by rw [hlen]; exact hl, hm, fun j hj => ⟨a, rfl, ?_⟩⟩
    rw [hlen] at hj
    rw [hcell j (by omega)]
    have hjz : j < zs.length := by omega
    have hmem : zs[j] ∈ zs := List.getElem_mem hjz
    have hw := hwz _ hmem
    have hg : zs.getD j 0 = zs[j] := by simp [List.getD, hjz]
    rw [hg]
    simp [Lit.wf, IntKind.min, IntKind.max, IntKind.signed, IntKind.bits] at hw
    simp
    omega
end
end Go.Proofs.Ytaniabhajngdeaa

-- An argument of type []api.Cell.
namespace Go.Proofs.Ytaniabhajngdeaa
open Go.RowKit Go.WideShapes Go.ChangeShapes Go.Deep
section
variable {H : Type} {enc : TypeId × Value → H} {W : World}
theorem cells_int : Try.prog.cellsOf 3 = 1 := by kernel_rfl
theorem bytes_int : Try.prog.bytesOf 3 = 8 := by kernel_rfl
/-- A field, or an element, of type []byte. -/
theorem trod_bytes {fuel : Nat} {cs : List Value} {x : DataW H × List MemPlace} (h : DataW.trod enc Try.prog W 0 (fun _ => true) true fuel 29 cs = some x) :
    ∃ (v : Value) (l : List UInt8), cs = [v] ∧ RdB W v l ∧ ((x.1 = .nil ∧ l = []) ∨ ∃ e s, x.1 = .slice e s ∧ l.length ≤ e.length + s.length) := by
  rcases open_ints Try.underlying29 Try.underlying5 cells_u8 h with ⟨rfl, rfl⟩ | ⟨a, len, cap, zs, rfl, _, hl, hm, hz, rfl, hcell, hwz⟩
  · exact ⟨_, [], rfl, RdB.nil, .inl ⟨rfl, rfl⟩⟩
  · simp only [if_true] at hz
    have hlen : ((zs.take len).map fun z => UInt8.ofNat z.toNat).length = len := by simp; omega
    refine ⟨_, (zs.take len).map fun z => UInt8.ofNat z.toNat, rfl, ⟨some a, cap, by rw [hlen], by rw [hlen]; exact hl, hm, fun j hj => ⟨a, rfl, ?_⟩⟩, .inr ⟨_, _, rfl, by rw [hlen]; simp [lits]; omega⟩⟩
    rw [hlen] at hj
    rw [hcell j (by omega)]
    have hjz : j < zs.length := by omega
    have hw := hwz _ (List.getElem_mem hjz)
    have hg : zs.getD j 0 = zs[j] := by simp [List.getD, hjz]
    rw [hg]
    simp [Lit.wf, IntKind.min, IntKind.max, IntKind.signed, IntKind.bits] at hw
    simp
    omega
theorem trod_i64 {fuel : Nat} {cs : List Value} {x : DataW H × List MemPlace} (h : DataW.trod enc Try.prog W 0 (fun _ => true) true fuel 3 cs = some x) : ∃ n : Int, cs = [.int .i64 n] ∧ -9223372036854775808 ≤ n ∧ n ≤ 9223372036854775807 := by
  obtain ⟨n, rfl, _, hw⟩ := DataW.trod_int Try.underlying3 h
  simp [Lit.wf, IntKind.min, IntKind.max, IntKind.signed, IntKind.bits] at hw
  exact ⟨n, rfl, hw⟩
theorem weightsAll_in {P : Program} {e : TypeId} : ∀ {l : List (DataW H)} {d : DataW H}, d ∈ l → ∀ n ∈ d.weights P e, n ∈ DataW.weightsAll P e l
  | [], _, h => by cases h
  | x :: r, d, h => by
    intro n hn
    rw [DataW.weightsAll, List.mem_append]
    rcases List.mem_cons.1 h with rfl | h
    · exact .inl hn
    · exact .inr (weightsAll_in h n hn)
theorem cells_Cell : Try.prog.cellsOf 50 = 5 := by kernel_rfl
theorem bytes_Cell : Try.prog.bytesOf 50 = 72 := by kernel_rfl
set_option maxRecDepth 100000 in
theorem open_cell {fuel : Nat} {cs : List Value} {x : DataW H × List MemPlace} (h : DataW.trod enc Try.prog W 0 (fun _ => true) true fuel 50 cs = some x) :
    ∃ o : CV, cs = o.cells ∧ o.ok W ∧ ∃ y0 y1 y2 y3 y4, x.1 = .agg [y0, y1, y2, y3, y4] ∧ ((y0 = .nil ∧ o.c.key = []) ∨ ∃ e s, y0 = .slice e s ∧ o.c.key.length ≤ e.length + s.length) ∧ ((y2 = .nil ∧ o.c.val = []) ∨ ∃ e s, y2 = .slice e s ∧ o.c.val.length ≤ e.length + s.length) := by
  obtain ⟨xs, n, _, rfl, hcl, hxl, hg⟩ := DataW.trod_struct Try.underlying50 h
  rw [cells_Cell] at hcl
  match cs, hcl with
  | [c0, c1, c2, c3, c4], _ =>
    match xs, hxl with
    | [z0, z1, z2, z3, z4], _ =>
      have g0 := hg 0 _ rfl
      have g1 := hg 1 _ rfl
      have g2 := hg 2 _ rfl
      have g3 := hg 3 _ rfl
      have g4 := hg 4 _ rfl
      obtain ⟨kv, key, e0, hd, w0⟩ := trod_bytes (cs := [c0]) g0
      obtain ⟨k, e1, r1⟩ := trod_i64 (cs := [c1]) g1
      obtain ⟨vv, val, e2, hv, w2⟩ := trod_bytes (cs := [c2]) g2
      obtain ⟨pg, e3, r3⟩ := trod_i64 (cs := [c3]) g3
      obtain ⟨ct, e4, r4⟩ := trod_i64 (cs := [c4]) g4
      injection e0 with e0
      injection e1 with e1
      injection e2 with e2
      injection e3 with e3
      injection e4 with e4
      subst e0 e1 e2 e3 e4
      exact ⟨⟨c0, c2, ⟨key, k, val, pg, ct⟩⟩, rfl, ⟨hd, hv, r1, r3, r4⟩, z0.1, z1.1, z2.1, z3.1, z4.1, rfl, w0, w2⟩
set_option maxRecDepth 100000 in
theorem open_cells {base : Nat} {v : Value} {d : DataW H} {p : List MemPlace} {ts : List TypeId} {ds : List (DataW H)} {j : Nat} (hv : Value.okWide Try.prog W .any base 23 v) (h : DataW.Trod enc Try.prog W 0 (fun _ => true) true 23 v d p)
    (hsz : (DataW.weightsEach Try.prog ts ds).all (· ≤ reachBytes) = true) (ht : ts[j]? = some 23) (hd : ds[j]? = some d) :
    ∃ l : List CV, RdCs W v l ∧ l.length * 72 ≤ 140737488351232 ∧ ∀ o ∈ l, o.c.key.length ≤ 140737488351232 ∧ o.c.val.length ≤ 140737488351232 := by
  obtain ⟨a0, len, cap, rfl⟩ := okWide_slice Try.underlying23 hv
  obtain ⟨fuel, hf⟩ := h
  rcases open_slice Try.underlying23 hf with ⟨hcs, _⟩ | ⟨a, len', cap', m, n, D, Pl, hcs, _, hl, hm, hmm, hx, hi⟩
  · simp [Value.cells] at hcs
    obtain ⟨rfl, rfl, rfl⟩ := hcs
    exact ⟨[], ⟨Rd.nil, by simp⟩, by simp, by simp⟩
  · simp [Value.cells] at hcs
    obtain ⟨rfl, rfl, rfl⟩ := hcs
    simp only [if_true] at hmm
    subst hmm
    simp only [Prod.mk.injEq] at hx
    obtain ⟨rfl, _⟩ := hx
    have key : ∀ i, i < m → ∃ o : CV, (∀ r u, o.cells[r]? = some u → W.cell? (a.add (i * 5 + r)) = some u) ∧ o.ok W ∧ ∃ y0 y1 y2 y3 y4, D i = .agg [y0, y1, y2, y3, y4] ∧ ((y0 = .nil ∧ o.c.key = []) ∨ ∃ e s, y0 = .slice e s ∧ o.c.key.length ≤ e.length + s.length) ∧ ((y2 = .nil ∧ o.c.val = []) ∨ ∃ e s, y2 = .slice e s ∧ o.c.val.length ≤ e.length + s.length) := fun i him => by
      obtain ⟨cs', hc, ht'⟩ := hi i him
      obtain ⟨o, rfl, hok, hy⟩ := open_cell ht'
      refine ⟨o, fun r u hu => ?_, hok, hy⟩
      obtain ⟨_, hcl, hat⟩ := World.cells?_some hc
      have hr : r < Try.prog.cellsOf 50 := by
        have := (List.getElem?_eq_some_iff.1 hu).1
        rw [← hcl]; exact this
      have := hat r hr
      rw [cells_Cell] at this
      rw [← add_of_add, this, hu]
    obtain ⟨f, hf'⟩ := choose_lt key
    have hlen : ((List.range len).map f).length = len := by simp
    refine ⟨(List.range len).map f, ⟨⟨by rw [flatC_length], some a, m, by rw [hlen], by rw [hlen]; exact hl, hm, fun j u hj => ⟨a, rfl, ?_⟩⟩, ?_⟩, ?_, ?_⟩
    · have hjl : j < len * 5 := by
        have := (List.getElem?_eq_some_iff.1 hj).1
        rw [flatC_length, hlen] at this; exact this
      have hil : j / 5 < len := Nat.div_lt_of_lt_mul (by omega)
      have hjj : j = j / 5 * 5 + j % 5 := by omega
      rw [hjj, flatC_at _ (j / 5) (j % 5) (by rw [hlen]; exact hil) (Nat.mod_lt _ (by omega))] at hj
      rw [hjj]
      refine (hf' (j / 5) (by omega)).1 (j % 5) u ?_
      simpa using hj
    · intro o ho
      obtain ⟨i, hi', rfl⟩ := List.mem_map.1 ho
      have := List.mem_range.1 hi'
      exact (hf' i (by omega)).2.1
    · have hs := sized_slice hsz ht hd Try.underlying23
      rw [bytes_Cell] at hs
      simp only [List.length_map, List.length_range, reachBytes] at hs
      simp only [List.length_map, List.length_range]
      omega
    · intro o ho
      obtain ⟨i, hi', rfl⟩ := List.mem_map.1 ho
      have hil := List.mem_range.1 hi'
      obtain ⟨_, _, y0, y1, y2, y3, y4, hD, w4, w5⟩ := hf' i (by omega)
      have hin : ∀ k ∈ (D i).weights Try.prog 50, k ≤ reachBytes := fun k hk => by
        have h1 := weightsAll_in (P := Try.prog) (e := 50) (List.mem_map.2 ⟨i, hi', rfl⟩ : D i ∈ (List.range len).map D) k hk
        have h2 := List.all_eq_true.1 hsz k (DataW.weights_mem_each ht hd _ (by
          simp only [DataW.weights, Try.underlying23]
          exact List.mem_cons.2 (.inr (List.mem_append.2 (.inl h1)))))
        simpa using h2
      rw [hD] at hin
      constructor
      · rcases w4 with ⟨_, e⟩ | ⟨e, s, rfl, hle⟩
        · rw [e]; simp
        · have := hin ((e.length + s.length) * Try.prog.bytesOf 5) (by
            simp only [DataW.weights, Try.underlying50]
            refine DataW.weights_mem_each (j := 0) rfl rfl _ ?_
            simp only [DataW.weights, Try.underlying29]
            exact List.mem_cons.2 (.inl rfl))
          rw [bytes_u8] at this
          simp only [reachBytes] at this
          omega
      · rcases w5 with ⟨_, e⟩ | ⟨e, s, rfl, hle⟩
        · rw [e]; simp
        · have := hin ((e.length + s.length) * Try.prog.bytesOf 5) (by
            simp only [DataW.weights, Try.underlying50]
            refine DataW.weights_mem_each (j := 2) rfl rfl _ ?_
            simp only [DataW.weights, Try.underlying29]
            exact List.mem_cons.2 (.inl rfl))
          rw [bytes_u8] at this
          simp only [reachBytes] at this
          omega
end
end Go.Proofs.Ytaniabhajngdeaa

-- The bounds of an integer that came in; a row whose statement bears the bound on the bulk.
namespace Go.Proofs.Ytaniabhajngdeaa
open Go.RowKit Go.WideShapes Go.ChangeShapes
theorem wf_i64 {n : Int} (h : (Lit.int .i64 n).wf = true) : -9223372036854775808 ≤ n ∧ n ≤ 9223372036854775807 := by
  simp [Lit.wf, IntKind.min, IntKind.max, IntKind.signed, IntKind.bits] at h
  exact h
theorem wf_u64 {n : Int} (h : (Lit.int .u64 n).wf = true) : ∃ k : Nat, n = (k : Int) ∧ k < 18446744073709551616 := by
  simp [Lit.wf, IntKind.min, IntKind.max, IntKind.signed, IntKind.bits] at h
  exact ⟨n.toNat, by omega, by omega⟩
theorem wf_u32 {n : Int} (h : (Lit.int .u32 n).wf = true) : ∃ k : Nat, n = (k : Int) ∧ k < 4294967296 := by
  simp [Lit.wf, IntKind.min, IntKind.max, IntKind.signed, IntKind.bits] at h
  exact ⟨n.toNat, by omega, by omega⟩
end Go.Proofs.Ytaniabhajngdeaa

-- espalierlaw07.PackedBack: the statement 'PackedBackSaid' is proved: whatever the input, the law returns true and the input reads as it did.
namespace Go.Proofs.Ytaniabhajngdeaa.packedBack
open Go.ChangeShapes Go.WideShapes Go.ChangeAt Go.RowKit
theorem own : ownKnob Try.prog.godebug = none := by kernel_rfl
theorem laidOut : laidOutB Try.prog = true := by kernel_rfl
set_option maxRecDepth 100000 in
theorem lifted (os : Os) (started : os.Started) (H : Type) (enc : TypeId × Value → H) :
    ReturnsInHanded {} Try.checked os 6 .any (Rows.packedBackSpec.pre6 enc Try.prog Try.f6 Rows.packedBackRow.domain false) (Rows.packedBackSpec.post enc Try.prog Try.f6 false true false false) := by
  refine law_lifts (C := Try.checked) (tb := 4) own started (by kernel_rfl) Try.func6
    (ChangeSpec.witness6 (enc := enc) (C := Try.checked) false ⟨#[], #[.int .i64 0, .slice none 0 0, .int .i64 0, .slice none 0 0], []⟩ 8 (by kernel_rfl) (by kernel_rfl) (by kernel_rfl) (by kernel_rfl))
    rfl rfl Try.underlying4 laidOut (by kernel_rfl) (fun ds hd => ?_) ?_
  · match ds, hd with
    | [d0, d1, d2, d3], _ => rfl
  · intro W base args ds p hval0 hA0 hsz0
    have hval : ∀ (j : Nat) t v, Try.f6.params[j]? = some t → args[j]? = some v → Value.okWide Try.prog W .any base t v := hval0
    have hA : DataW.TrodAll enc Try.prog W 0 (fun _ => true) true Try.f6.params.toList args.toList ds p := hA0
    have hsz : (DataW.weightsEach Try.prog Try.f6.params.toList ds).all (· ≤ reachBytes) = true := hsz0
    clear hval0 hA0 hsz0
    rw [Try.params6] at hA hval hsz
    obtain ⟨v0, v1, v2, v3, d0, d1, d2, d3, p0, p1, p2, p3, rfl, rfl, rfl, h0, h1, h2, h3⟩ := trodAll_four hA
    obtain ⟨n0, rfl, _, _, g0⟩ := open_int Try.underlying3 (hval 0 _ v0 rfl rfl) h0
    obtain ⟨l, hl, hn, hs⟩ := open_cells (hval 1 _ v1 rfl rfl) h1 hsz (j := 1) rfl rfl
    obtain ⟨n2, rfl, _, _, g2⟩ := open_int Try.underlying3 (hval 2 _ v2 rfl rfl) h2
    obtain ⟨b, hbr, hbl⟩ := open_bytes (hval 3 _ v3 rfl rfl) h3 hsz (j := 3) rfl rfl
    exact kback_any n0 v1 l n2 (wf_i64 g2) v3 b W hl hbr (fun c hc => by
      obtain ⟨o, ho, rfl⟩ := List.mem_map.1 hc
      have := hs o ho
      omega)
theorem proved : Rows.PackedBackSaid :=
  OpenClaim.holds_of_wide 6 Try.f6 rfl rfl rfl rfl rfl rfl rfl ⟨rfl, rfl, rfl, rfl, rfl⟩ rfl rfl rfl rfl rfl (by kernel_rfl) Try.func6 (by kernel_rfl)
    (of_decide_eq_true (by kernel_rfl)) (by unfold Func.isWrapper; first | (rw [if_pos (by decide +kernel)]; kernel_rfl) | (rw [if_neg (by decide +kernel)]; exact ⟨rfl, rfl⟩))
    (fun os started H enc _ => lifted os started H enc)
end Go.Proofs.Ytaniabhajngdeaa.packedBack
