/- Texts joined: espalierref07.Same, SameAll; Bytes made of a constant.; espalierlaw07.live; espalierlaw07.Great; espalierref01.Lent, AsLent; espalierlaw07.lent; Pieces of memory; espalierlaw07.asLent; The page sizes as powers of two. -/
import Derived.Test.YtaniabhajngdeaaKN3
import Derived.Test.YtaniabhajngdeaaKN4
import Derived.Test.YtaniabhajngdeaaKN5
import Derived.Test.YtaniabhajngdeaaKN7
import Derived.Test.YtaniabhajngdeaaKN14
import Derived.Deep.RegionHeld3
import Derived.Lib.SlBytesConst
import Derived.Outline
import Derived.Deep.DeepCutAuto
import Derived.BigQuiet
-- espalierref07.Same, SameAll: walks.
namespace Go.Proofs.Ytaniabhajngdeaa
open Go.RowKit
def sameB (a b : PC) : Bool := (a.key == b.key) && ((a.val == b.val) && ((a.kind == b.kind) && ((a.page == b.page) && (a.count == b.count))))
theorem sameB_iff {a b : PC} : sameB a b = true ↔ a = b := by
  obtain ⟨k, kd, v, p, c⟩ := a
  obtain ⟨k', kd', v', p', c'⟩ := b
  unfold sameB
  simp only [Bool.and_eq_true, beq_iff_eq]
  constructor
  · rintro ⟨rfl, rfl, rfl, rfl, rfl⟩; rfl
  · intro h; injection h with h1 h2 h3 h4 h5; exact ⟨h1, h3, h2, h4, h5⟩
def sameAllB : List PC → List PC → Bool
  | [], [] => true
  | a :: x, b :: y => sameB a b && sameAllB x y
  | _, _ => false
theorem sameAllB_iff : ∀ {x y : List PC}, sameAllB x y = true ↔ x = y
  | [], [] => by simp [sameAllB]
  | [], _ :: _ => by simp [sameAllB]
  | _ :: _, [] => by simp [sameAllB]
  | a :: x, b :: y => by simp [sameAllB, sameB_iff, sameAllB_iff]
set_option maxRecDepth 100000 in
set_option maxHeartbeats 2000000 in
theorem RKSame_any (x y : CV) (w : World) (hx : x.ok w) (hy : y.ok w) :
    Calls Try.prog 65 #[cellV x, cellV y] w fun e w' => e = .returned (.bool (sameB x.c y.c)) ∧ Below w.heap.size w w' := by
  obtain ⟨A, ca, B, cb, key, ck, val, pg, ct, rfl, -, -⟩ := CV.form hx
  obtain ⟨A', ca', B', cb', key', ck', val', pg', ct', rfl, -, -⟩ := CV.form hy
  have hA : Below w.heap.size w ((w.alloc (.cells #[.slice A key.length ca, .int .i64 ck, .slice B val.length cb, .int .i64 pg, .int .i64 ct] 50)).alloc (.cells #[.slice A' key'.length ca', .int .i64 ck', .slice B' val'.length cb', .int .i64 pg', .int .i64 ct'] 50)) := ((Below.refl _ _).alloc (Nat.le_refl _) _).alloc (by simp) _
  have hC := (OBlk.new' w 50 [.slice A key.length ca, .int .i64 ck, .slice B val.length cb, .int .i64 pg, .int .i64 ct]).alloc (.cells #[.slice A' key'.length ca', .int .i64 ck', .slice B' val'.length cb', .int .i64 pg', .int .i64 ct'] 50)
  have hD := OBlk.new' (w.alloc (.cells #[.slice A key.length ca, .int .i64 ck, .slice B val.length cb, .int .i64 pg, .int .i64 ct] 50)) 50 [.slice A' key'.length ca', .int .i64 ck', .slice B' val'.length cb', .int .i64 pg', .int .i64 ct']
  rw [World.size_alloc] at hD
  have q1 := run_B_string (hx.below hA).k
  have q2 := run_B_string (hy.below hA).k
  have q3 := run_B_string (hx.below hA).v
  have q4 := run_B_string (hy.below hA).v
  unfold cellV
  simp only at q1 q2 q3 q4 ⊢
  have HV : Hid (sameB ⟨key, ck, val, pg, ct⟩ ⟨key', ck', val', pg', ct'⟩ = ((key == key') && ((val == val') && ((ck == ck') && ((pg == pg') && (ct == ct')))))) := Lib.hid rfl
  generalize sameB ⟨key, ck, val, pg, ct⟩ ⟨key', ck', val', pg', ct'⟩ = V at *
  clear hx hy
  go_enter Try.func65, Try.ntmps65
  go_upto_region 1 with (fail)
  generalize ((w.alloc (.cells #[.slice A key.length ca, .int .i64 ck, .slice B val.length cb, .int .i64 pg, .int .i64 ct] 50)).alloc (.cells #[.slice A' key'.length ca', .int .i64 ck', .slice B' val'.length cb', .int .i64 pg', .int .i64 ct'] 50)) = w1 at *
  obtain ⟨c0, c1, c2, c3, c4⟩ := cells5 hC
  obtain ⟨d0, d1, d2, d3, d4⟩ := cells5 hD
  cases h1 : (key == key') with
  | false =>
    have HV2 : Hid (V = false) := Lib.hid (by rw [HV.out, h1]; rfl)
    go_wp2_with fail
    go_ret
    rw [HV2.out]
    exact ⟨rfl, hA⟩
  | true =>
    cases h2 : (val == val') with
    | false =>
      have HV2 : Hid (V = false) := Lib.hid (by rw [HV.out, h1, h2]; rfl)
      go_wp2_with fail
      go_ret
      rw [HV2.out]
      exact ⟨rfl, hA⟩
    | true =>
      cases h3 : (ck == ck') with
      | false =>
        have HV2 : Hid (V = false) := Lib.hid (by rw [HV.out, h1, h2, h3]; rfl)
        go_wp2_with fail
        go_ret
        rw [HV2.out]
        exact ⟨rfl, hA⟩
      | true =>
        cases h4 : (pg == pg') with
        | false =>
          have HV2 : Hid (V = false) := Lib.hid (by rw [HV.out, h1, h2, h3, h4]; rfl)
          go_wp2_with fail
          go_ret
          rw [HV2.out]
          exact ⟨rfl, hA⟩
        | true =>
          have HV2 : Hid (V = (ct == ct')) := Lib.hid (by rw [HV.out, h1, h2, h3, h4]; rfl)
          go_wp2_with fail
          go_ret
          rw [HV2.out]
          exact ⟨rfl, hA⟩
theorem sameAllB_len : ∀ {x y : List PC}, x.length ≠ y.length → sameAllB x y = false
  | [], [], h => absurd rfl h
  | [], _ :: _, _ => rfl
  | _ :: _, [], _ => rfl
  | a :: x, b :: y, h => by
    have : x.length ≠ y.length := fun e => h (by simp [e])
    rw [sameAllB, sameAllB_len this, Bool.and_false]
set_option maxRecDepth 100000 in
set_option maxHeartbeats 2000000 in
theorem RKSameAll_any (u v : Value) (l m : List CV) (w : World) (hu : RdCs w u l) (hv : RdCs w v m) :
    Calls Try.prog 22 #[u, v] w fun e w' => e = .returned (.bool (sameAllB (pcs l) (pcs m))) ∧ Below w.heap.size w w' := by
  obtain ⟨A, c, rfl, hm, hc⟩ := hu.slice
  obtain ⟨B, d, rfl, hm2, hc2⟩ := hv.slice
  by_cases hl : l.length = m.length
  · have e1 : ((l.length : Int) != (m.length : Int)) = false := by simp [hl]
    rw [← hl] at hv hm2
    have HL := Lib.hid hl
    rw [← hl]
    clear hl
    rw [← HL.out] at e1
    obtain ⟨V, hV⟩ : ∃ V, sameAllB (pcs l) (pcs m) = V := ⟨_, rfl⟩
    rw [hV]
    have HV := Lib.hid hV
    clear hV
    go_enter Try.func22, Try.ntmps22
    go_wp2_with fail
    go_loopw [5] (fun i wr => ∃ k : Nat, k ≤ l.length ∧ i = .int .i64 (k : Int) ∧ Hid (sameAllB (pcs l) (pcs m) = sameAllB ((pcs l).drop k) ((pcs m).drop k)) ∧ Below w.heap.size w wr) (fun i _ => l.length - (intOf i).toNat)
    case atStart => exact ⟨0, Nat.zero_le _, rfl, Lib.hid rfl, Below.refl _ _⟩
    case round =>
      obtain ⟨k, hk, rfl, HS, hB⟩ := hrel
      by_cases hlt : k < l.length
      · have hlt2 : k < m.length := by rw [← HL.out]; exact hlt
        have ik : (k : Int) < (l.length : Int) := by omega
        have j1 : (0 : Int) ≤ (k : Int) := by omega
        have hst : sameAllB ((pcs l).drop k) ((pcs m).drop k) = (sameB l[k].c m[k].c && sameAllB ((pcs l).drop (k + 1)) ((pcs m).drop (k + 1))) := by
          rw [List.drop_eq_getElem_cons (show k < (pcs l).length by rw [pcs_length]; exact hlt), List.drop_eq_getElem_cons (show k < (pcs m).length by rw [pcs_length]; exact hlt2), sameAllB, pcs_at hlt, pcs_at hlt2]
        have HST := Lib.hid hst
        obtain ⟨ad, rfl, a0, a1, a2, a3, a4⟩ := (hu.below hB).at_ hlt
        obtain ⟨bd, rfl, b0, b1, b2, b3, b4⟩ := (hv.below hB).at_ hlt2
        have hx := (hu.below hB).ok _ (List.getElem_mem hlt)
        have hy := (hv.below hB).ok _ (List.getElem_mem hlt2)
        have hsm := RKSame_any l[k] m[k] wr.drew (hx.below ((Below.refl _ _).drew)) (hy.below ((Below.refl _ _).drew))
        clear hst
        generalize l[k] = x at *
        generalize m[k] = y at *
        obtain ⟨A1, p1, B1, q1, key, ck, val, pg, ct, rfl, -, -⟩ := CV.form hx
        obtain ⟨A2, p2, B2, q2, key', ck', val', pg', ct', rfl, -, -⟩ := CV.form hy
        unfold cellV at hsm
        simp only at hsm
        generalize sameB ⟨key, ck, val, pg, ct⟩ ⟨key', ck', val', pg', ct'⟩ = V1 at *
        go_upto_region 6 with (fail)
        go_cut [6] (fun s wx => s = .bool V1 ∧ Below w.heap.size w wx)
        case first =>
          go_region_held3 (fun w' => w'.cell? (ad.add (k * 5)) = some (.slice A1 key.length p1) ∧ w'.cell? ⟨(ad.add (k * 5)).block, (ad.add (k * 5)).off + 1, none⟩ = some (.int .i64 ck) ∧ w'.cell? ⟨(ad.add (k * 5)).block, (ad.add (k * 5)).off + 2, none⟩ = some (.slice B1 val.length q1) ∧ w'.cell? ⟨(ad.add (k * 5)).block, (ad.add (k * 5)).off + 3, none⟩ = some (.int .i64 pg) ∧ w'.cell? ⟨(ad.add (k * 5)).block, (ad.add (k * 5)).off + 4, none⟩ = some (.int .i64 ct) ∧
              w'.cell? (bd.add (k * 5)) = some (.slice A2 key'.length p2) ∧ w'.cell? ⟨(bd.add (k * 5)).block, (bd.add (k * 5)).off + 1, none⟩ = some (.int .i64 ck') ∧ w'.cell? ⟨(bd.add (k * 5)).block, (bd.add (k * 5)).off + 2, none⟩ = some (.slice B2 val'.length q2) ∧ w'.cell? ⟨(bd.add (k * 5)).block, (bd.add (k * 5)).off + 3, none⟩ = some (.int .i64 pg') ∧ w'.cell? ⟨(bd.add (k * 5)).block, (bd.add (k * 5)).off + 4, none⟩ = some (.int .i64 ct'))
            (first | exact ⟨a0, a1, a2, a3, a4, b0, b1, b2, b3, b4⟩ | (refine ⟨?_, ?_, ?_, ?_, ?_, ?_, ?_, ?_, ?_, ?_⟩ <;> (refine (hw2.cell (World.block_lt_of_cell? wr.drew _ (by assumption))).trans ?_; assumption)))
            (first
              | (go_at_call 65; refine hsm.mono ?_; rintro e w2 ⟨rfl, hw2⟩)
              | fail)
          go_wp2_with fail
          go_meet
          exact ⟨rfl, hB.drew.trans (hw2.mono hB.size)⟩
        case rest =>
          obtain ⟨rfl, hB2⟩ := hcut
          cases V1 with
          | true =>
            have HS2 : Hid (sameAllB (pcs l) (pcs m) = sameAllB ((pcs l).drop (k + 1)) ((pcs m).drop (k + 1))) := Lib.hid (by rw [HS.out, HST.out, Bool.true_and])
            go_wp2_with fail
            go_roundw
            case rel => exact ⟨k + 1, by omega, by go_num, HS2, hB2⟩
            case measure => simp [intOf]; omega
          | false =>
            have HV2 : Hid (V = false) := Lib.hid (by rw [← HV.out, HS.out, HST.out, Bool.false_and])
            go_wp2_with fail
            go_ret
            rw [HV2.out]
            exact ⟨rfl, hB2⟩
      · obtain rfl : k = l.length := by omega
        have HV2 : Hid (V = true) := Lib.hid (by rw [← HV.out, HS.out, List.drop_of_length_le (by rw [pcs_length]; omega), List.drop_of_length_le (by rw [pcs_length, ← HL.out]; omega)]; rfl)
        go_wp2_with fail
        go_ret
        rw [HV2.out]
        exact ⟨rfl, hB⟩
  · have e1 : ((l.length : Int) != (m.length : Int)) = true := by simp only [bne, beq_eq_false_iff_ne.2 (show (l.length : Int) ≠ (m.length : Int) by omega)]; rfl
    rw [sameAllB_len (by rw [pcs_length, pcs_length]; exact hl)]
    clear hl
    go_enter Try.func22, Try.ntmps22
    go_wp2_with fail
    go_ret
    exact ⟨rfl, Below.refl _ _⟩
end Go.Proofs.Ytaniabhajngdeaa

-- Bytes made of a constant.
namespace Go.Proofs.Ytaniabhajngdeaa
open Go.RowKit
theorem conv_id (w : World) (C : Array Value) (n c g : Nat) (hg : g = w.heap.size) : (convert 29 29 (.slice (some ⟨g, 0, none⟩) n c)).run Try.prog (w.alloc (.cells C 5)) = .ok (.slice (some ⟨g, 0, none⟩) n c) (w.alloc (.cells C 5 (C.size, C.size + 1))) := by
  subst hg; exact Lib.run_convert_bytes_const w _ _ C n c Try.underlying29 Try.underlying5
theorem RdB.litm (w : World) (l : List UInt8) (cells : Array Value) (T : TypeId) (fr : Nat × Nat) (n : Nat) (h : cells = (bvs l).toArray) (hn : l.length = n) (hm : n ≤ maxLen) : RdB (w.alloc (.cells cells T fr)) (.slice (some ⟨w.heap.size, 0, none⟩) n n) l := by
  subst h; subst hn
  refine ⟨_, _, rfl, Nat.le_refl _, hm, fun j hj => ⟨_, rfl, ?_⟩⟩
  rw [add_row, Nat.zero_add, World.cell?_alloc_mark]
  have := bvs_get' l j hj
  simpa using this
end Go.Proofs.Ytaniabhajngdeaa

-- espalierlaw07.live: the walk.
namespace Go.Proofs.Ytaniabhajngdeaa
open Go.RowKit
/-- Bytes of a block, as they are read. -/
def litE (g n : Nat) (l : List UInt8) : Ent :=
  ⟨fun b => b = g, fun w => RdB w (.slice (some ⟨g, 0, none⟩) n n) l, fun {w w'} h k => by
    obtain ⟨A, c, hv, h1, h2, h3⟩ := k
    refine ⟨A, c, hv, h1, h2, fun j hj => ?_⟩
    obtain ⟨ad, hA, hc⟩ := h3 j hj
    refine ⟨ad, hA, ?_⟩
    obtain rfl : (⟨g, 0, none⟩ : Addr) = ad := by
      injection hv with hv1
      rw [← hv1] at hA
      injection hA
    rw [add_row] at hc ⊢
    rw [World.cell?_of_block (h g rfl)]
    exact hc⟩
theorem Sep.lit {w0 w : World} {L : List Ent} (h : Sep w0 w L) (l : List UInt8) (cells : Array Value) (T : TypeId) (fr : Nat × Nat) (n : Nat) (hc : cells = (bvs l).toArray) (hn : l.length = n) (hm : n ≤ maxLen) : Sep w0 (w.alloc (.cells cells T fr)) (litE w.heap.size n l :: L) :=
  h.new ((Below.refl _ _).alloc (Nat.le_refl _) _) (RdB.litm w l cells T fr n hc hn hm) (fun g hg => by have hg' : g = w.heap.size := hg; rw [World.size_alloc]; omega)
theorem two_rd (W : World) (x y : CV) (hx : x.ok W) (hy : y.ok W) : RdCs (W.alloc (.cells #[x.kv, .int .i64 x.c.kind, x.vv, .int .i64 x.c.page, .int .i64 x.c.count, y.kv, .int .i64 y.c.kind, y.vv, .int .i64 y.c.page, .int .i64 y.c.count] 50)) (.slice (some ⟨W.heap.size, 0, none⟩) 2 2) [x, y] := by
  have hb : Below W.heap.size W (W.alloc (.cells #[x.kv, .int .i64 x.c.kind, x.vv, .int .i64 x.c.page, .int .i64 x.c.count, y.kv, .int .i64 y.c.kind, y.vv, .int .i64 y.c.page, .int .i64 y.c.count] 50)) := (Below.refl _ _).alloc (Nat.le_refl _) _
  have ho := OBlk.new' W 50 [x.kv, .int .i64 x.c.kind, x.vv, .int .i64 x.c.page, .int .i64 x.c.count, y.kv, .int .i64 y.c.kind, y.vv, .int .i64 y.c.page, .int .i64 y.c.count]
  refine ⟨⟨rfl, _, 2, rfl, Nat.le_refl _, by decide, fun j u hj => ⟨_, rfl, ?_⟩⟩, fun z hz => ?_⟩
  · rw [add_row, Nat.zero_add, ho.cell]; exact hj
  · simp only [List.mem_cons, List.not_mem_nil, or_false] at hz
    rcases hz with rfl | rfl
    · exact hx.below hb
    · exact hy.below hb
theorem Sep.rdC7 {w0 w v : World} {L : List Ent} {x : Value} {l : List CV} (h : Sep w0 w L) (hm : oldE v ∈ L) (hr : RdCs v x l) : RdCs w x l :=
  ⟨hr.form.keep (h.old_cell hm), fun y hy => { hr.ok y hy with k := h.rd hm (hr.ok y hy).k, v := h.rd hm (hr.ok y hy).v }⟩
theorem PgK.lit {w0 w : World} {L : List Ent} {p P : Nat} {kind : Int} {s : KP} (h : PgK w0 w L p P kind s) (l : List UInt8) (cells : Array Value) (T : TypeId) (fr : Nat × Nat) (n : Nat) (hc : cells = (bvs l).toArray) (hn : l.length = n) (hm : n ≤ maxLen) : PgK w0 (w.alloc (.cells cells T fr)) (litE w.heap.size n l :: L) p P kind s := by
  obtain ⟨u, pv, lp, h1, h2, h3⟩ := h
  exact ⟨u, pv, lp, h1, h2, (h3.lit l cells T fr n hc hn hm).sw1⟩
theorem KEnc0 (W : World) (v : Value) (xs : List CV) (hx : pcs xs = [kA, kB]) (h : RdCs W v xs) : Calls Try.prog 16 #[.int .i64 2, v, .int .i64 512] W fun e w' => ∃ g, e = .returned (.tuple #[.slice (some ⟨g, 0, none⟩) 512 512, .int .i64 0]) ∧ W.heap.size ≤ g ∧ OBlk w' g 5 (bvs (laidK 2 [kA, kB] 512)) ∧ Below W.heap.size W w' := by
  have hl : xs.length = 2 := by rw [← pcs_length, hx]; rfl
  refine (KEncode_any 2 v xs 512 (by unfold i64r; omega) W h (by omega)).mono fun e w' hh => ?_
  rw [hx] at hh
  obtain ⟨hb, ⟨hf, _⟩ | ⟨_, ⟨hne, _⟩ | ⟨_, g, he, hg, ho⟩⟩⟩ := hh
  · exact absurd hf (by decide)
  · exact absurd kAB_enc hne
  · exact ⟨g, he, hg, ho, hb⟩
theorem KDec0 {w0 W : World} {L : List Ent} (hS : Sep w0 W L) (v : Value) (h : RdB W v (laidK 2 [kA, kB] 512)) : Calls Try.prog 21 #[v] W fun e w' => ∃ A c l, e = .returned (.tuple #[.int .i64 2, .slice A 2 c, .int .i64 0]) ∧ pcs l = [kA, kB] ∧ RngC l ∧ Sep w0 w' (csE (.slice A 2 c) l :: L) := by
  refine (KDecode_any v _ W h).mono fun e w' hh => ?_
  rcases hh with ⟨kind, l, u, hp, rfl, hr, hs⟩ | ⟨hn, -, -⟩
  · obtain ⟨rfl, hl⟩ := kAB_only hp
    have hl1 : l.length = 2 := by rw [← pcs_length, hl]; rfl
    have hO : Own w' 0 50 5 u l.length (flatC l) := hs.head.1 _ (List.mem_cons_self ..)
    obtain ⟨A, c, rfl⟩ := Own.slice hO
    have h1 := Sep.lift1 hs (List.mem_cons_self ..) hS
    rw [hl1] at h1 ⊢
    exact ⟨A, c, l, rfl, hl, hr, h1⟩
  · exact absurd kAB_pk (hn _ _)
theorem KOpen0 {w0 W : World} {L : List Ent} (hS : Sep w0 W L) (v : Value) (h : RdB W v (laidK 2 [kA, kB] 512)) : Calls Try.prog 25 #[v] W fun e w' => ∃ p, e = .returned (.tuple #[.pointer (some ⟨p, 0, none⟩), .int .i64 0]) ∧ PgK w0 w' L p 512 2 (tidyP 2 [kA, kB]) := by
  refine (KOpen_sep hS v _ h).mono fun e w' hh => ?_
  rcases hh with ⟨p, kind, l, hp, rfl, hP⟩ | ⟨hn, -, -⟩
  · obtain ⟨rfl, rfl⟩ := kAB_only hp
    rw [kAB_len] at hP
    exact ⟨p, rfl, hP⟩
  · exact absurd kAB_pk (hn _ _)
theorem KSize0 (W : World) (v : Value) (xs : List CV) (hx : pcs xs = [kA, kB]) (h : RdCs W v xs) : Calls Try.prog 13 #[.int .i64 2, v] W fun e w' => e = .returned (.int .i64 26) ∧ Below W.heap.size W w' := by
  have := KSize_any 2 v xs W h (by rw [hx]; decide)
  rw [hx, kAB_size] at this
  exact this
theorem KInv0 : KInv 2 512 (tidyP 2 [kA, kB]) := by
  have h := open_inv kAB_pk
  rw [kAB_len] at h
  exact h
theorem kC_in (M : List Ent) (g : Nat) (hm : litE g 1 [98] ∈ M) : XIn M ⟨.slice (some ⟨g, 0, none⟩) 1 1, .slice none 0 0, kC⟩ :=
  ⟨⟨_, hm, fun w h => h⟩, ⟨_, hm, fun w _ => RdB.nil⟩, by show i64r 1; unfold i64r; omega, by show i64r 0; unfold i64r; omega, by show i64r 0; unfold i64r; omega, by show 1 ≤ 140737488355328; omega, by show 0 ≤ 140737488355328; omega⟩
theorem KIns0 {w0 W : World} {L : List Ent} {p g : Nat} (hP : PgK w0 W L p 512 2 (tidyP 2 [kA, kB])) (hm : litE g 1 [98] ∈ L) : Calls Try.prog 33 #[.pointer (some ⟨p, 0, none⟩), .int .i64 2, .agg #[.slice (some ⟨g, 0, none⟩) 1 1, .int .i64 1, .slice none 0 0, .int .i64 0, .int .i64 0]] W fun e w' => e = .returned (.int .i64 0) ∧ PgK w0 w' L p 512 2 (insKS 2 512 (tidyP 2 [kA, kB]) 2 0 kC) := by
  have := KInsert_sep hP KInv0 (.inl rfl) (by omega) ⟨.slice (some ⟨g, 0, none⟩) 1 1, .slice none 0 0, kC⟩ (kC_in L g hm) 2 (by unfold i64r; omega)
  refine this.mono ?_
  rintro e w' ⟨rfl, h⟩
  refine ⟨?_, h⟩
  show Ending.returned (.int .i64 (insKZ 2 512 [kA, kB] 2 0 kC)) = _
  rw [kABC_put]
theorem KFind0 {w0 W : World} {L : List Ent} {p : Nat} (hP : PgK w0 W L p 512 2 (insKS 2 512 (tidyP 2 [kA, kB]) 2 0 kC)) (vk : Value) (hk : RdB W vk [97, 99]) :
    Calls Try.prog 41 #[.pointer (some ⟨p, 0, none⟩), vk] W fun e w' => e = .returned (.tuple #[.int .i64 1, .bool true]) ∧ Below W.heap.size W w' := by
  obtain ⟨u, pv, l, h1, h2, h3⟩ := hP
  rw [kABC_l] at h1
  have hr : Rising (pcs l) := by rw [h1, ← kABC_l]; exact (KInv0.ins 2 (by omega) kC).rise
  have := KFind_any (h3.kAt h2) hr (by rw [← pcs_length, h1]; decide) vk [97, 99] hk
  rw [h1, kABC_find.1, kABC_find.2] at this
  exact this
theorem KLen0 {w0 W : World} {L : List Ent} {p : Nat} (hP : PgK w0 W L p 512 2 (insKS 2 512 (tidyP 2 [kA, kB]) 2 0 kC)) :
    Calls Try.prog 29 #[.pointer (some ⟨p, 0, none⟩)] W fun e w' => e = .returned (.int .i64 3) ∧ W = w' := by
  obtain ⟨u, pv, l, h1, h2, h3⟩ := hP
  rw [kABC_l] at h1
  have := KLen_any (h3.kAt h2)
  rw [show l.length = 3 by rw [← pcs_length, h1]; rfl] at this
  exact this
set_option maxRecDepth 100000 in
set_option maxHeartbeats 8000000 in
theorem live_any (w : World) : Calls Try.prog 10 #[] w fun e w' => e = .returned (.bool true) ∧ Below w.heap.size w w' := by
  have kc := fun (w : World) (C : Array Value) (n c g : Nat) (hg : g = w.heap.size) => conv_id w C n c g hg
  go_enter Try.func10, Try.ntmps10
  go_upto_region 2 with (fail)
  have hS4 := ((((Sep.start w).lit [97, 98] #[.int .u8 97, .int .u8 98] 5 (2, 3) 2 rfl rfl (by decide)).lit [120] #[.int .u8 120] 5 (1, 2) 1 rfl rfl (by decide)).lit [97, 99] #[.int .u8 97, .int .u8 99] 5 (2, 3) 2 rfl rfl (by decide)).lit [121, 122] #[.int .u8 121, .int .u8 122] 5 (2, 3) 2 rfl rfl (by decide)
  have hz4 : ((((w.alloc (.cells #[.int .u8 97, .int .u8 98] 5 (2, 3))).alloc (.cells #[.int .u8 120] 5 (1, 2))).alloc (.cells #[.int .u8 97, .int .u8 99] 5 (2, 3))).alloc (.cells #[.int .u8 121, .int .u8 122] 5 (2, 3))).heap.size = w.heap.size + 1 + 1 + 1 + 1 := by simp
  simp only [World.size_alloc] at hS4
  rw [← hz4]
  generalize ((((w.alloc (.cells #[.int .u8 97, .int .u8 98] 5 (2, 3))).alloc (.cells #[.int .u8 120] 5 (1, 2))).alloc (.cells #[.int .u8 97, .int .u8 99] 5 (2, 3))).alloc (.cells #[.int .u8 121, .int .u8 122] 5 (2, 3))) = w4 at *
  have hxA : CV.ok w4 ⟨.slice (some ⟨w.heap.size, 0, none⟩) 2 2, .slice (some ⟨w.heap.size + 1, 0, none⟩) 1 1, kA⟩ := { k := hS4.of_mem (E := litE w.heap.size 2 [97, 98]) (by simp), v := hS4.of_mem (E := litE (w.heap.size + 1) 1 [120]) (by simp), r1 := show i64r 1 by unfold i64r; omega, r2 := show i64r 0 by unfold i64r; omega, r3 := show i64r 0 by unfold i64r; omega }
  have hxB : CV.ok w4 ⟨.slice (some ⟨w.heap.size + 1 + 1, 0, none⟩) 2 2, .slice (some ⟨w.heap.size + 1 + 1 + 1, 0, none⟩) 2 2, kB⟩ := { k := hS4.of_mem (E := litE (w.heap.size + 1 + 1) 2 [97, 99]) (by simp), v := hS4.of_mem (E := litE (w.heap.size + 1 + 1 + 1) 2 [121, 122]) (by simp), r1 := show i64r 1 by unfold i64r; omega, r2 := show i64r 0 by unfold i64r; omega, r3 := show i64r 0 by unfold i64r; omega }
  have hrd5 : RdCs (w4.alloc (.cells #[.slice (some ⟨w.heap.size, 0, none⟩) 2 2, .int .i64 1, .slice (some ⟨w.heap.size + 1, 0, none⟩) 1 1, .int .i64 0, .int .i64 0, .slice (some ⟨w.heap.size + 1 + 1, 0, none⟩) 2 2, .int .i64 1, .slice (some ⟨w.heap.size + 1 + 1 + 1, 0, none⟩) 2 2, .int .i64 0, .int .i64 0] 50)) (.slice (some ⟨w4.heap.size, 0, none⟩) 2 2) [⟨.slice (some ⟨w.heap.size, 0, none⟩) 2 2, .slice (some ⟨w.heap.size + 1, 0, none⟩) 1 1, kA⟩, ⟨.slice (some ⟨w.heap.size + 1 + 1, 0, none⟩) 2 2, .slice (some ⟨w.heap.size + 1 + 1 + 1, 0, none⟩) 2 2, kB⟩] := two_rd w4 _ _ hxA hxB
  have hA5 : Below w.heap.size w (w4.alloc (.cells #[.slice (some ⟨w.heap.size, 0, none⟩) 2 2, .int .i64 1, .slice (some ⟨w.heap.size + 1, 0, none⟩) 1 1, .int .i64 0, .int .i64 0, .slice (some ⟨w.heap.size + 1 + 1, 0, none⟩) 2 2, .int .i64 1, .slice (some ⟨w.heap.size + 1 + 1 + 1, 0, none⟩) 2 2, .int .i64 0, .int .i64 0] 50)) := (hS4.belowOld (v := w) (by simp)).alloc (by omega) _
  generalize w4.heap.size = lb at *
  generalize w4.alloc (.cells #[.slice (some ⟨w.heap.size, 0, none⟩) 2 2, .int .i64 1, .slice (some ⟨w.heap.size + 1, 0, none⟩) 1 1, .int .i64 0, .int .i64 0, .slice (some ⟨w.heap.size + 1 + 1, 0, none⟩) 2 2, .int .i64 1, .slice (some ⟨w.heap.size + 1 + 1 + 1, 0, none⟩) 2 2, .int .i64 0, .int .i64 0] 50) = w5 at *
  clear hS4 hxA hxB hz4
  generalize hXS : ([⟨.slice (some ⟨w.heap.size, 0, none⟩) 2 2, .slice (some ⟨w.heap.size + 1, 0, none⟩) 1 1, kA⟩, ⟨.slice (some ⟨w.heap.size + 1 + 1, 0, none⟩) 2 2, .slice (some ⟨w.heap.size + 1 + 1 + 1, 0, none⟩) 2 2, kB⟩] : List CV) = xs at *
  have hxp : pcs xs = [kA, kB] := by rw [← hXS]; rfl
  clear hXS
  have HXP := Lib.hid hxp
  have H9 := Lib.hid kAB_at.1
  have H10 := Lib.hid kAB_at.2
  have hsz := KSize0 w5 _ xs hxp hrd5
  clear hxp
  go_upto_region 3 with (first
    | (go_at_call 13; (with_reducible refine hsz.mono ?_); rintro e w6 ⟨rfl, hw6⟩)
    | fail)
  have hS6 := (Sep.start w5).below hw6
  have hen := KEnc0 w6 _ xs HXP.out (hS6.rdC7 (List.mem_cons_self ..) hrd5)
  clear hsz hw6
  go_upto_region 4 with (first
    | (go_at_call 16; (with_reducible refine hen.mono ?_); rintro e w7 ⟨g, rfl, hg, ho, hw7⟩)
    | fail)
  have hS7 := hS6.new hw7 (E := blkE g 5 (bvs (laidK 2 [kA, kB] 512))) ho (fun g' hg' => by have e : g' = g := hg'; subst e; exact ⟨hg, ho.lt⟩)
  have hdc := KDec0 hS7 (.slice (some ⟨g, 0, none⟩) 512 512) (ho.rdB kAB_len (by omega))
  clear hen hS6 hw7 ho hg
  go_upto_region 5 with (first
    | (go_at_call 21; (with_reducible refine hdc.mono ?_); rintro e w8 ⟨DA, dc, dl, rfl, hdp, hdr, hS8⟩)
    | fail)
  have ho8 : OBlk w8 g 5 (bvs (laidK 2 [kA, kB] 512)) := hS8.tail.head
  have hop := KOpen0 hS8 (.slice (some ⟨g, 0, none⟩) 512 512) (ho8.rdB kAB_len (by omega))
  have HDP := Lib.hid hdp
  clear hdc hS7 ho8 hS8 hdp
  go_upto_region 6 with (first
    | (go_at_call 25; (with_reducible refine hop.mono ?_); rintro e w9 ⟨p, rfl, hP9⟩)
    | fail)
  have hsa : Calls Try.prog 22 #[.slice (some ⟨lb, 0, none⟩) 2 2, .slice DA 2 dc] w9 fun e w' => e = .returned (.bool true) ∧ Below w9.heap.size w9 w' := by
    obtain ⟨u, pv, lp, h1, h2, h3⟩ := hP9
    have := RKSameAll_any (.slice (some ⟨lb, 0, none⟩) 2 2) (.slice DA 2 dc) xs dl w9 (h3.rdC7 (by simp) hrd5) (csE_rd (h3.tail.head) hdr)
    rw [HXP.out, HDP.out, sameAllB_iff.2 rfl] at this
    exact this
  clear hop
  go_upto_region 9 with (first
    | (go_at_call 22; (with_reducible refine hsa.mono ?_); rintro e w10 ⟨rfl, hw10⟩)
    | fail)
  have hP10 := hP9.below hw10
  clear hsa hP9 hw10
  have hP11 := hP10.lit [98] #[.int .u8 98] 5 (1, 2) 1 rfl rfl (by decide)
  have hin := KIns0 hP11 (List.mem_cons_self ..)
  go_upto_region 10 with (first
    | (go_at_call 33; (with_reducible refine hin.mono ?_); rintro e w12 ⟨rfl, hP12⟩)
    | fail)
  clear hin hP10 hP11
  have hP13 := hP12.lit [97, 99] #[.int .u8 97, .int .u8 99] 5 (2, 3) 2 rfl rfl (by decide)
  have hfi := KFind0 hP13 (.slice (some ⟨w12.heap.size, 0, none⟩) 2 2) (by obtain ⟨u, pv, lp, h1, h2, h3⟩ := hP13; exact h3.tail.head)
  go_upto_region 11 with (first
    | (go_at_call 41; (with_reducible refine hfi.mono ?_); rintro e w14 ⟨rfl, hw14⟩)
    | fail)
  have hP14 := hP13.below hw14
  clear hfi hP12 hP13 hw14
  have hln := KLen0 hP14
  have hbk : OBlk w14 g 5 (bvs (laidK 2 [kA, kB] 512)) := by obtain ⟨u, pv, lp, h1, h2, h3⟩ := hP14; exact h3.of_mem (E := blkE g _ _) (by simp)
  have hB14 : Below w.heap.size w w14 := by obtain ⟨u, pv, lp, h1, h2, h3⟩ := hP14; exact hA5.trans ((h3.belowOld (v := w5) (by simp)).mono hA5.size)
  have d9 : w14.cell? ⟨g, 9, none⟩ = some (.int .u8 0) := by rw [hbk.cell]; unfold bvs; rw [List.getElem?_map, H9.out]; rfl
  have d10 : w14.cell? ⟨g, 10, none⟩ = some (.int .u8 16) := by rw [hbk.cell]; unfold bvs; rw [List.getElem?_map, H10.out]; rfl
  clear hP14 hbk
  go_wp2_with (first
    | (go_at_call 29; (with_reducible refine hln.mono ?_); rintro e w15 ⟨rfl, rfl⟩)
    | fail)
  go_ret
  exact ⟨rfl, hB14⟩
end Go.Proofs.Ytaniabhajngdeaa

-- espalierlaw07.Great: the walk.
namespace Go.Proofs.Ytaniabhajngdeaa
open Go.RowKit
def gsum : List PC → Nat
  | [] => 0
  | c :: r => (1 + c.key.length + c.val.length) + gsum r
theorem gsum_append : ∀ (a b : List PC), gsum (a ++ b) = gsum a + gsum b
  | [], b => by simp [gsum]
  | c :: r, b => by simp only [List.cons_append, gsum, gsum_append r b]; omega
theorem gsum_take (l : List PC) {k : Nat} (h : k < l.length) : gsum (l.take (k + 1)) = gsum (l.take k) + (1 + l[k].key.length + l[k].val.length) := by
  rw [List.take_succ_eq_append_getElem h, gsum_append]; simp [gsum]
theorem gsum_big : ∀ (l : List PC), bigK l ≤ 33 * gsum l
  | [] => by simp [bigK, gsum]
  | c :: r => by
    have := gsum_big r
    simp only [bigK, gsum]; omega
theorem gsum_len : ∀ (l : List PC), l.length ≤ gsum l
  | [] => by simp
  | c :: r => by
    have := gsum_len r
    simp only [List.length_cons, gsum]; omega
/-- What Great tells. -/
def GrAt (w : World) (l : List PC) (e : Ending) (w' : World) : Prop := ∃ g : Bool, e = .returned (.bool g) ∧ (g = false → gsum l ≤ 300000) ∧ Below w.heap.size w w'
set_option maxRecDepth 100000 in
set_option maxHeartbeats 4000000 in
theorem KGreat_any (v : Value) (l : List CV) (w : World) (hl : RdCs w v l) (hb : ∀ c ∈ pcs l, c.key.length ≤ 140737488355328 ∧ c.val.length ≤ 140737488355328) :
    Calls Try.prog 11 #[v] w (GrAt w (pcs l)) := by
  obtain ⟨A, c, rfl, hm, hc⟩ := hl.slice
  go_enter Try.func11, Try.ntmps11
  go_wp2_with fail
  go_loopw [3, 4] (fun n i wr => ∃ k N : Nat, k ≤ l.length ∧ i = .int .i64 (k : Int) ∧ n = .int .i64 (N : Int) ∧ Hid (N = gsum ((pcs l).take k)) ∧ N ≤ 300000000000000 ∧ Below w.heap.size w wr) (fun _ i _ => l.length - (intOf i).toNat)
  case atStart => exact ⟨0, 0, Nat.zero_le _, rfl, rfl, Lib.hid (by simp [gsum]), by omega, Below.refl _ _⟩
  case round =>
    obtain ⟨k, N, hk, rfl, rfl, HN, hN9, hB⟩ := hrel
    by_cases hlt : k < l.length
    · have ik : (k : Int) < (l.length : Int) := by omega
      by_cases hN : N ≤ 300000
      · have i1 : (N : Int) ≤ 300000 := by omega
        have hlr := hl.below hB
        obtain ⟨ad, rfl, c0, c1, c2, c3, c4⟩ := hlr.at_ hlt
        have hx := hlr.ok _ (List.getElem_mem hlt)
        have hbx := hb l[k].c (by rw [← pcs_at hlt]; exact List.getElem_mem _)
        have hgs : gsum ((pcs l).take (k + 1)) = gsum ((pcs l).take k) + (1 + l[k].c.key.length + l[k].c.val.length) := by rw [gsum_take _ (by rw [pcs_length]; exact hlt), pcs_at hlt]
        generalize l[k] = x at *
        obtain ⟨A1, a1, B1, b1, key, ck, val, pg, ct, rfl, -, -⟩ := CV.form hx
        simp only at hbx hgs c0 c2
        have HG := Lib.hid hgs
        have j1 : (0 : Int) ≤ (k : Int) := by omega
        have e1 : IntKind.i64.wrap ((N : Int) + 1) = (N : Int) + 1 := by rw [IntKind.wrap_i64]; omega
        have e2 : IntKind.i64.wrap ((N : Int) + 1 + (key.length : Int)) = (N : Int) + 1 + (key.length : Int) := by rw [IntKind.wrap_i64]; omega
        have e3 : IntKind.i64.wrap ((N : Int) + 1 + (key.length : Int) + (val.length : Int)) = (N : Int) + 1 + (key.length : Int) + (val.length : Int) := by rw [IntKind.wrap_i64]; omega
        clear hx hgs hlr
        go_upto_region 5 with (fail)
        go_quiet (fail)
        go_wp2_with fail
        go_roundw
        case rel => exact ⟨k + 1, N + 1 + key.length + val.length, by omega, by go_num, by go_num, Lib.hid (by rw [HG.out, ← HN.out]; omega), by omega, below_drewN hB _⟩
        case measure => simp [intOf]; omega
      · have i1 : ¬ (N : Int) ≤ 300000 := by omega
        have i2 : (300000 : Int) < (N : Int) := by omega
        go_wp2_with fail
        go_ret
        exact ⟨true, rfl, by simp, hB⟩
    · obtain rfl : k = l.length := by omega
      have hN2 : N = gsum (pcs l) := by rw [HN.out, List.take_of_length_le (by rw [pcs_length]; omega)]
      have HN2 := Lib.hid hN2
      clear hN2
      by_cases hN : N ≤ 300000
      · have i1 : ¬ (300000 : Int) < (N : Int) := by omega
        go_wp2_with fail
        go_ret
        exact ⟨false, rfl, fun _ => by rw [← HN2.out]; exact hN, hB⟩
      · have i1 : (300000 : Int) < (N : Int) := by omega
        go_wp2_with fail
        go_ret
        exact ⟨true, rfl, by simp, hB⟩
end Go.Proofs.Ytaniabhajngdeaa

-- espalierref01.Lent, AsLent: walks.
namespace Go.Proofs.Ytaniabhajngdeaa
open Go.RowKit
def marks : List UInt8 := [71, 72, 73]
theorem splice0 (l : List UInt8) : splice (List.replicate (l.length + 3) 0) 0 (l.take (min l.length (l.length + 3))) = l ++ [0, 0, 0] := by
  rw [Nat.min_eq_left (by omega), List.take_length]
  unfold splice
  simp [List.drop_replicate]
theorem set3 (l : List UInt8) : (((l ++ [0, 0, 0]).set l.length 71).set (l.length + 1) 72).set (l.length + 2) 73 = l ++ marks := by
  rw [List.set_append_right _ _ (by omega), List.set_append_right _ _ (by omega), List.set_append_right _ _ (by omega)]
  simp [marks]
set_option maxHeartbeats 1000000 in
set_option maxRecDepth 20000 in
theorem Lent3_any (v : Value) (l : List UInt8) (w : World) (hv : RdB w v l) (hl : l.length ≤ 140737488355328) :
    Calls Try.prog 23 #[v] w fun e w' => ∃ g, e = .returned (.slice (some ⟨g, 0, none⟩) l.length (l.length + 3)) ∧ OwB w' w.heap.size (.slice (some ⟨g, 0, none⟩) (l.length + 3) (l.length + 3)) (l ++ marks) ∧ Below w.heap.size w w' := by
  obtain ⟨A, c, rfl, hm⟩ := hv.form
  go_enter Try.func23, Try.ntmps23
  go_wp2_with (first
    | (at_make; refine wp_make_B rfl (.tmp 8) (.tmp 8) rfl _ (l.length + 3) rfl rfl (by go_num) (by omega) ?_; intro w1 hb1 hw1 hs1)
    | ((with_reducible refine at_copy ?_); refine wp_copy_B rfl (.tmp 10) (.tmp 11) rfl _ (l.length + 3) _ w.heap.size 0 rfl _ hb1 (fun _ => rfl) (by simp) _ l rfl (hv.below hw1 (Nat.le_refl _)) ?_; intro w2 hb2 hg2; rw [splice0] at hb2; have f0 := hb2.cell' (j := l.length) (u := .int .u8 0) (by rw [bvs_append, List.getElem?_append_right (by rw [bvs_length]; omega), bvs_length, Nat.sub_self]; rfl); have f1 := hb2.cell' (j := l.length + 1) (u := .int .u8 0) (by rw [bvs_append, List.getElem?_append_right (by rw [bvs_length]; omega), bvs_length, Nat.add_sub_cancel_left]; rfl); have f2 := hb2.cell' (j := l.length + 2) (u := .int .u8 0) (by rw [bvs_append, List.getElem?_append_right (by rw [bvs_length]; omega), bvs_length, Nat.add_sub_cancel_left]; rfl); have z0 := hb2.frozen (j := l.length) (by rw [bvs_length]; simp); have z1 := hb2.frozen (j := l.length + 1) (by rw [bvs_length]; simp); have z2 := hb2.frozen (j := l.length + 2) (by rw [bvs_length]; simp))
    | fail)
  go_ret
  have h3 := ((hb2.set l.length (.int .u8 ((71 : UInt8).toNat : Int))).set (l.length + 1) (.int .u8 ((72 : UInt8).toNat : Int))).set (l.length + 2) (.int .u8 ((73 : UInt8).toNat : Int))
  rw [← bvs_set, ← bvs_set, ← bvs_set, set3] at h3
  have hlen : (l ++ marks).length = l.length + 3 := by simp [marks]
  have h4 := h3.owB' (base := w.heap.size) (Nat.le_refl _) (by rw [hlen]; simp only [maxLen]; omega)
  rw [hlen] at h4
  have hb3 := hw1.grown hg2 hw1.size (fun k hk => Nat.le_of_eq (Option.some.inj hk))
  exact ⟨w.heap.size, rfl, h4, ((hb3.setCell (p := ⟨w.heap.size, l.length, none⟩) (Nat.le_refl _) _).setCell (p := ⟨w.heap.size, l.length + 1, none⟩) (Nat.le_refl _) _).setCell (p := ⟨w.heap.size, l.length + 2, none⟩) (Nat.le_refl _) _⟩
theorem OwB.part {w : World} {base g n k c : Nat} {x s : List UInt8} (h : OwB w base (.slice (some ⟨g, 0, none⟩) (n + k) c) (x ++ s)) (hx : x.length = n) : RdB w (.slice (some ⟨g, 0, none⟩) n c) x := by
  subst hx
  have := (h.take (m := x.length) (by omega)).rd
  rw [List.take_left] at this
  exact this
set_option maxHeartbeats 2000000 in
set_option maxRecDepth 20000 in
theorem AsLent3_any (g n : Nat) (vb : Value) (l : List UInt8) (base : Nat) (w : World) (hn : l.length = n) (ho : OwB w base (.slice (some ⟨g, 0, none⟩) (n + 3) (n + 3)) (l ++ marks)) (hv : RdB w vb l) (hl : n ≤ 140737488355328) :
    Calls Try.prog 26 #[.slice (some ⟨g, 0, none⟩) n (n + 3), vb] w fun e w' => e = .returned (.bool true) ∧ w.grownBy w' (some g) := by
  subst hn
  obtain ⟨A, c, rfl, hm⟩ := hv.form
  have hlen : (l ++ marks).length = l.length + 3 := by simp [marks]
  have q1 := run_B_string hv.drew
  have q2 := run_B_string (ho.part rfl).drew
  have f0 := ho.cell (j := l.length) (by omega)
  have f1 := ho.cell (j := l.length + 1) (by omega)
  have f2 := ho.cell (j := l.length + 2) (by omega)
  have e0 : (l ++ marks)[l.length]'(by omega) = 71 := by rw [List.getElem_append_right (by omega)]; simp [marks]
  have e1 : (l ++ marks)[l.length + 1]'(by omega) = 72 := by rw [List.getElem_append_right (by omega)]; simp [marks]
  have e2 : (l ++ marks)[l.length + 2]'(by omega) = 73 := by rw [List.getElem_append_right (by omega)]; simp [marks]
  rw [e0] at f0
  rw [e1] at f1
  rw [e2] at f2
  replace f0 : w.cell? ⟨g, l.length, none⟩ = some (.int .u8 71) := f0
  replace f1 : w.cell? ⟨g, l.length + 1, none⟩ = some (.int .u8 72) := f1
  replace f2 : w.cell? ⟨g, l.length + 2, none⟩ = some (.int .u8 73) := f2
  clear e0 e1 e2 hlen
  go_enter Try.func26, Try.ntmps26
  go_upto_region 5 with (fail)
  go_region
  clear q1 q2 f0 f1 f2
  go_wp2_with fail
  go_loopw [8] (fun i wr => ∃ (j : Nat) (m : List UInt8), i = .int .i64 (j : Int) ∧ j ≤ l.length + 3 ∧ Hid (m.length = l.length + 3) ∧ OwB wr base (.slice (some ⟨g, 0, none⟩) (l.length + 3) (l.length + 3)) m ∧ w.grownBy wr (some g))
    (fun i _ => l.length + 3 - (intOf i).toNat)
  case atStart => exact ⟨0, l ++ marks, rfl, Nat.zero_le _, Lib.hid (by simp [marks]), ho.drew, ⟨rfl, rfl, rfl, Nat.le_refl _, fun _ _ _ => rfl⟩⟩
  case round =>
    clear ho hv
    obtain ⟨j, m, rfl, hj, HM, ho, hg⟩ := hrel
    by_cases hlt : j < l.length + 3
    · have hml := HM.out
      have hc := ho.cell (j := j) (by omega)
      have hf := ho.frozen (j := j) (by omega)
      have hgl := (ho.lt g rfl).2
      generalize (m[j]'(by omega)).toNat = y at hc
      clear hml
      go_wp2_with fail
      go_roundw
      case rel => exact ⟨j + 1, m.set j 97, by go_num, by omega, Lib.hid (by rw [List.length_set]; exact HM.out), ho.set j 97, grownBy_trans hg (grownBy_setCell _ _ _)⟩
      case measure => simp [intOf]; omega
    · obtain rfl : j = l.length + 3 := by omega
      go_wp2_with fail
      go_ret
      exact ⟨rfl, hg⟩
end Go.Proofs.Ytaniabhajngdeaa

-- espalierlaw07.lent: the walk.
namespace Go.Proofs.Ytaniabhajngdeaa
open Go.RowKit
def lentCV3 (p : Nat × Nat) (c : PC) : CV := ⟨.slice (some ⟨p.1, 0, none⟩) c.key.length (c.key.length + 3), .slice (some ⟨p.2, 0, none⟩) c.val.length (c.val.length + 3), c⟩
def lentL3 (ps : List (Nat × Nat)) (cs : List PC) : List CV := List.zipWith lentCV3 ps cs
def lentP3 (g : Nat) (b : List UInt8) : Ent := bytesE (.slice (some ⟨g, 0, none⟩) (b.length + 3) (b.length + 3)) (b ++ marks)
def lent3E (ps : List (Nat × Nat)) (cs : List PC) : List Ent := (List.zipWith (fun p c => [lentP3 p.1 c.key, lentP3 p.2 c.val]) ps cs).flatten
theorem lentL3_length {ps : List (Nat × Nat)} {cs : List PC} (h : ps.length = cs.length) : (lentL3 ps cs).length = cs.length := by unfold lentL3; rw [List.length_zipWith, h, Nat.min_self]
theorem lentL3_snoc {ps : List (Nat × Nat)} {cs : List PC} (h : ps.length = cs.length) (p : Nat × Nat) (c : PC) : lentL3 (ps ++ [p]) (cs ++ [c]) = lentL3 ps cs ++ [lentCV3 p c] := by
  unfold lentL3; rw [List.zipWith_append h]; rfl
theorem lent3E_snoc {ps : List (Nat × Nat)} {cs : List PC} (h : ps.length = cs.length) (p : Nat × Nat) (c : PC) : lent3E (ps ++ [p]) (cs ++ [c]) = lent3E ps cs ++ [lentP3 p.1 c.key, lentP3 p.2 c.val] := by
  unfold lent3E; rw [List.zipWith_append h]; simp
theorem pcs_lentL3 {ps : List (Nat × Nat)} {cs : List PC} (h : ps.length = cs.length) : pcs (lentL3 ps cs) = cs := by
  unfold pcs lentL3
  refine List.ext_getElem (by simp [h]) fun i h1 h2 => ?_
  simp [lentCV3]
theorem Lent3_sep {w0 w : World} {L : List Ent} {v : Value} {l : List UInt8} (h : Sep w0 w L) (hv : RdB w v l) (hl : l.length ≤ 140737488355328) :
    Calls Try.prog 23 #[v] w fun e w' => ∃ g, e = .returned (.slice (some ⟨g, 0, none⟩) l.length (l.length + 3)) ∧ Sep w0 w' (lentP3 g l :: L) := by
  refine (Lent3_any v l w hv hl).mono ?_
  rintro e w' ⟨g, rfl, ho, hb⟩
  exact ⟨g, rfl, h.bytes hb ho (Nat.le_refl _)⟩
theorem AsLent3_sep {w0 w : World} {L : List Ent} {vb : Value} {l : List UInt8} {g n : Nat} (h : Sep w0 w (lentP3 g l :: L)) (hn : l.length = n) (hv : RdB w vb l) (hl : n ≤ 140737488355328) :
    Calls Try.prog 26 #[.slice (some ⟨g, 0, none⟩) n (n + 3), vb] w fun e w' => e = .returned (.bool true) ∧ Sep w0 w' L := by
  subst hn
  refine (AsLent3_any g l.length vb l 0 w rfl h.head hv hl).mono ?_
  rintro e w' ⟨rfl, hg⟩
  exact ⟨rfl, h.kill (Turn.of_grown hg (fun k e => e))⟩
def lentX3 (n : Nat) (ps : List (Nat × Nat)) (cs : List PC) (k : Nat) : List CV := lentL3 ps (cs.take k) ++ List.replicate (n + 2 - k) (markCV 0)
theorem lentX3_length {n k : Nat} {ps : List (Nat × Nat)} {cs : List PC} (h : ps.length = (cs.take k).length) (hc : cs.length = n) (hk : k ≤ n) : (lentX3 n ps cs k).length = n + 2 := by
  unfold lentX3
  rw [List.length_append, lentL3_length h, List.length_take, List.length_replicate]; omega
theorem lentX3_set {n k : Nat} {ps : List (Nat × Nat)} {cs : List PC} (h : ps.length = (cs.take k).length) (hc : cs.length = n) (hk : k < n) (p : Nat × Nat) :
    (lentX3 n ps cs k).set k (lentCV3 p (cs[k]'(by omega))) = lentX3 n (ps ++ [p]) cs (k + 1) := by
  have hX : (lentL3 ps (cs.take k)).length = k := by rw [lentL3_length h, List.length_take]; omega
  unfold lentX3
  rw [show n + 2 - k = (n + 2 - (k + 1)) + 1 by omega, List.replicate_succ, List.set_append_right _ _ (by omega), hX, Nat.sub_self, List.set_cons_zero, List.take_succ_eq_append_getElem (by omega), lentL3_snoc h]
  simp
/-- A cell of a list is written. -/
theorem Sep.setC {w0 w : World} {g k : Nat} {X : List CV} {L : List Ent} (h : Sep w0 w (blkE g 50 (flatC X) :: L)) (hk : k < X.length) (y : CV) :
    Sep w0 (((((w.setCell ⟨g, k * 5, none⟩ y.kv).setCell ⟨g, k * 5 + 1, none⟩ (.int .i64 y.c.kind)).setCell ⟨g, k * 5 + 2, none⟩ y.vv).setCell ⟨g, k * 5 + 3, none⟩ (.int .i64 y.c.page)).setCell ⟨g, k * 5 + 4, none⟩ (.int .i64 y.c.count)) (blkE g 50 (flatC (X.set k y)) :: L) := by
  have hg := grown5 w g k y.kv (.int .i64 y.c.kind) y.vv (.int .i64 y.c.page) (.int .i64 y.c.count)
  exact h.upd (Turn.of_grown hg (fun j e => (Option.some.inj e).symm)) (set5C h.head k hk y) (fun b hb => ⟨.inl hb, by have h' := h.lt b hb; have := hg.size; omega⟩)
theorem perm_lent3 {α : Type} (a b c o : α) (D : List α) : (a :: c :: b :: (D ++ [o])).Perm (a :: (D ++ [b, c] ++ [o])) := by
  refine List.Perm.cons a ((List.Perm.swap b c _).trans ?_)
  show ([b, c] ++ (D ++ [o])).Perm _
  rw [← List.append_assoc]
  exact List.Perm.append_right [o] List.perm_append_comm
set_option maxRecDepth 100000 in
set_option maxHeartbeats 8000000 in
theorem Klent_any (v : Value) (l : List CV) (w : World) (hl : RdCs w v l) (hn : (l.length + 2) * 72 ≤ 281474976710656) (hs : ∀ c ∈ pcs l, c.key.length ≤ 140737488355328 ∧ c.val.length ≤ 140737488355328) :
    Calls Try.prog 12 #[v] w fun e w' => ∃ G ps, e = .returned (.slice (some ⟨G, 0, none⟩) l.length (l.length + 2)) ∧ ps.length = (pcs l).length ∧ Sep w w' (blkE G 50 (flatC (lentL3 ps (pcs l) ++ [markCV (-7), markCV (-8)])) :: (lent3E ps (pcs l) ++ [oldE w])) := by
  obtain ⟨A, c, rfl, hm, hc⟩ := hl.slice
  obtain ⟨n, hnn⟩ : ∃ n, l.length = n := ⟨_, rfl⟩
  rw [hnn] at hl hn hm ⊢
  have hcl : (pcs l).length = n := by rw [pcs_length]; exact hnn
  have HCL := Lib.hid hcl
  clear hcl
  go_enter Try.func12, Try.ntmps12
  go_wp2_with (first
    | (at_make; refine wp_make_C rfl (.tmp 10) (.tmp 10) rfl _ (n + 2) rfl rfl (by go_num) (by omega) ?_; intro w1 hb1 hw1 hs1)
    | fail)
  have hS1 : Sep w w1 [blkE w.heap.size 50 (flatC (List.replicate (n + 2) (markCV 0))), oldE w] := (Sep.start w).new hw1 hb1 (fun g hg => by have e : g = w.heap.size := hg; have := hb1.lt; omega)
  clear hb1 hw1 hs1
  generalize w.heap.size = G at *
  go_loopw [5, 6] (fun i _ wr => ∃ (k : Nat) (ps : List (Nat × Nat)), k ≤ n ∧ i = .int .i64 (k : Int) ∧ Hid (ps.length = ((pcs l).take k).length) ∧ Sep w wr (blkE G 50 (flatC (lentX3 n ps (pcs l) k)) :: (lent3E ps ((pcs l).take k) ++ [oldE w]))) (fun i _ _ => n - (intOf i).toNat)
  case atStart => exact ⟨0, [], by omega, rfl, Lib.hid rfl, by simpa [lentX3, lentL3, lent3E] using hS1⟩
  case round =>
    clear hS1
    obtain ⟨k, ps, hk, rfl, HPL, hS⟩ := hrel
    by_cases hlt : k < n
    · have ik : (k : Int) < (n : Int) := by omega
      have hkl : k < l.length := by omega
      have HCE := Lib.hid (fun W (hb : Below w.heap.size w W) => (hl.below hb).at_ hkl)
      have HOK := Lib.hid (fun W (hb : Below w.heap.size w W) => (hl.below hb).ok _ (List.getElem_mem hkl))
      have hB1 := hS.belowOld (v := w) (by simp)
      obtain ⟨ad, rfl, c0, c1, c2, c3, c4⟩ := HCE.out wr hB1
      have hx := HOK.out wr hB1
      have hcl := HCL.out
      have HSET := Lib.hid (fun p => lentX3_set HPL.out hcl hlt p)
      have HSN := Lib.hid (fun p => lent3E_snoc HPL.out p (pcs l)[k])
      have htk : (pcs l).take (k + 1) = (pcs l).take k ++ [(pcs l)[k]] := List.take_succ_eq_append_getElem (by omega)
      obtain ⟨z1, z2⟩ := hs (pcs l)[k] (List.getElem_mem _)
      have hXL := lentX3_length HPL.out hcl hk
      rw [pcs_at hkl] at HSET HSN htk z1 z2
      have HTK := Lib.hid htk
      clear htk hcl
      generalize l[k] = x at *
      obtain ⟨A1, a1, B1, b1, key, ck, val, pg, ct, rfl, _, _⟩ := CV.form hx
      have hS2 := hS.alloc 50 [.slice A1 key.length a1, .int .i64 ck, .slice B1 val.length b1, .int .i64 pg, .int .i64 ct]
      have HS2 := Lib.hid hS2
      clear hS2 hS hB1 hx
      go_upto_region 7 with (fail)
      have hS2 := HS2.out
      replace hS2 : Sep w (wr.alloc (.cells #[.slice A1 key.length a1, .int .i64 ck, .slice B1 val.length b1, .int .i64 pg, .int .i64 ct] 50)) _ := hS2
      generalize wr.alloc (.cells #[.slice A1 key.length a1, .int .i64 ck, .slice B1 val.length b1, .int .i64 pg, .int .i64 ct] 50) = w2 at *
      generalize wr.heap.size = C at *
      clear HS2 c0 c1 c2 c3 c4
      have hB2 := hS2.belowOld (v := w) (by simp)
      obtain ⟨_, ea, d0, d1, d2, d3, d4⟩ := HCE.out w2 hB2
      cases ea
      have hx2 := HOK.out w2 hB2
      have ha3 := Lent3_sep (v := .slice A1 key.length a1) hS2 hx2.k z1
      clear hx2 hB2 hS2
      go_upto_region 8 with (first
        | (go_at_call 23; refine ha3.mono ?_; rintro e w3 ⟨g1, rfl, hS3⟩; have hS3 := hS3.sw1; have hC3 : OBlk w3 C 50 _ := hS3.head; have f0 := hC3.frozen (j := 0) (by simp); have y0 := hC3.cell' (j := 0) (u := .slice A1 key.length a1) rfl)
        | fail)
      have hS4 := hS3.setCell 0 (.slice (some ⟨g1, 0, none⟩) key.length (key.length + 3))
      generalize w3.setCell ⟨C, 0, none⟩ (.slice (some ⟨g1, 0, none⟩) key.length (key.length + 3)) = w4 at *
      clear ha3 hS3 hC3 f0 y0 d0 d1 d2 d3 d4
      have hB4 := hS4.belowOld (v := w) (by simp)
      obtain ⟨_, ea, d0, d1, d2, d3, d4⟩ := HCE.out w4 hB4
      cases ea
      have hx4 := HOK.out w4 hB4
      have ha5 := Lent3_sep (v := .slice B1 val.length b1) hS4 hx4.v z2
      clear hx4 hB4 hS4
      go_upto_region 9 with (first
        | (go_at_call 23; refine ha5.mono ?_; rintro e w5 ⟨g2, rfl, hS5⟩; have hS5 := hS5.sw1; have hC5 : OBlk w5 C 50 _ := hS5.head; have f2 := hC5.frozen (j := 2) (by simp); have y2 := hC5.cell' (j := 2) (u := .slice B1 val.length b1) rfl)
        | fail)
      have hS6 := hS5.setCell 2 (.slice (some ⟨g2, 0, none⟩) val.length (val.length + 3))
      generalize w5.setCell ⟨C, 2, none⟩ (.slice (some ⟨g2, 0, none⟩) val.length (val.length + 3)) = w6 at *
      clear ha5 hS5 hC5 f2 y2 d0 d1 d2 d3 d4
      obtain ⟨y0, y1, y2, y3, y4⟩ := cells5 (show OBlk w6 C 50 [.slice (some ⟨g1, 0, none⟩) key.length (key.length + 3), .int .i64 ck, .slice (some ⟨g2, 0, none⟩) val.length (val.length + 3), .int .i64 pg, .int .i64 ct] from hS6.head)
      have hS7 := hS6.tail.sw [lentP3 g2 val, lentP3 g1 key]
      obtain ⟨q0, q1, q2, q3, q4⟩ := cellsC hS7.head k (by rw [hXL]; omega)
      obtain ⟨f0, f1, f2, f3, f4⟩ := frozC hS7.head k (by rw [hXL]; omega)
      have hS8 := hS7.setC (k := k) (by rw [hXL]; omega) (lentCV3 (g1, g2) ⟨key, ck, val, pg, ct⟩)
      have HS8 := Lib.hid hS8
      clear hS6 hS7 hS8
      generalize (lentX3 n ps (pcs l) k)[k]'(by rw [hXL]; omega) = xk at *
      go_wp2_with fail
      refine ⟨⟨k + 1, ps ++ [(g1, g2)], by omega, by go_num, Lib.hid (by rw [HTK.out]; simp [HPL.out]), ?_⟩, by simp [intOf]; omega⟩
      have hS8 := HS8.out.perm (perm_lent3 _ _ _ _ _)
      have h1 := HSET.out (g1, g2)
      have h2 := HSN.out (g1, g2)
      simp only at h1 h2
      rw [HTK.out, h2, ← h1]
      exact hS8
    · obtain rfl : k = n := by omega
      have hXL := lentX3_length HPL.out HCL.out hk
      have htk : (pcs l).take k = pcs l := List.take_of_length_le (by rw [HCL.out]; omega)
      have hX : ((lentX3 k ps (pcs l) k).set k (markCV (-7))).set (k + 1) (markCV (-8)) = lentL3 ps (pcs l) ++ [markCV (-7), markCV (-8)] := by
        have h0 := lentL3_length HPL.out
        have h1 : (lentL3 ps (pcs l)).length = k := by rw [htk] at h0; rw [h0, HCL.out]
        unfold lentX3
        rw [htk, show k + 2 - k = 2 by omega, List.set_append_right _ _ (by omega), h1, Nat.sub_self, List.set_append_right _ _ (by omega), h1, show k + 1 - k = 1 by omega]
        rfl
      have hpl := HPL.out
      rw [htk] at hS hpl
      have HX := Lib.hid hX
      have HPL2 := Lib.hid hpl
      clear hX htk hpl
      generalize hXX : lentX3 k ps (pcs l) k = X at *
      have hXX := hXX
      clear hXX
      obtain ⟨q0, q1, q2, q3, q4⟩ := cellsC hS.head k (by rw [hXL]; omega)
      obtain ⟨f0, f1, f2, f3, f4⟩ := frozC hS.head k (by rw [hXL]; omega)
      have hS1 := hS.setC (k := k) (by rw [hXL]; omega) (markCV (-7))
      have HS1 := Lib.hid hS1
      have hXL1 : (X.set k (markCV (-7))).length = k + 2 := by rw [List.length_set]; exact hXL
      generalize X[k]'(by rw [hXL]; omega) = xk at *
      clear hS hS1 hXL
      go_upto_region 11 with (fail)
      have hS1 := HS1.out
      replace hS1 : Sep w (((((wr.setCell ⟨G, k * 5, none⟩ (.slice none 0 0)).setCell ⟨G, k * 5 + 1, none⟩ (.int .i64 (-7))).setCell ⟨G, k * 5 + 2, none⟩ (.slice none 0 0)).setCell ⟨G, k * 5 + 3, none⟩ (.int .i64 0)).setCell ⟨G, k * 5 + 4, none⟩ (.int .i64 0)) _ := hS1
      generalize ((((wr.setCell ⟨G, k * 5, none⟩ (.slice none 0 0)).setCell ⟨G, k * 5 + 1, none⟩ (.int .i64 (-7))).setCell ⟨G, k * 5 + 2, none⟩ (.slice none 0 0)).setCell ⟨G, k * 5 + 3, none⟩ (.int .i64 0)).setCell ⟨G, k * 5 + 4, none⟩ (.int .i64 0) = w2 at *
      clear HS1 q0 q1 q2 q3 q4 f0 f1 f2 f3 f4
      obtain ⟨q0, q1, q2, q3, q4⟩ := cellsC hS1.head (k + 1) (by rw [hXL1]; omega)
      obtain ⟨f0, f1, f2, f3, f4⟩ := frozC hS1.head (k + 1) (by rw [hXL1]; omega)
      have hS2 := hS1.setC (k := k + 1) (by rw [hXL1]; omega) (markCV (-8))
      rw [HX.out] at hS2
      have HS2 := Lib.hid hS2
      generalize (X.set k (markCV (-7)))[k + 1]'(by rw [hXL1]; omega) = xk at *
      clear hS1 hS2
      go_wp2_with fail
      go_ret
      exact ⟨G, ps, rfl, HPL2.out, HS2.out⟩
end Go.Proofs.Ytaniabhajngdeaa

-- Pieces of memory: cells that are read.
namespace Go.Proofs.Ytaniabhajngdeaa
open Go.RowKit
theorem Sep.rdCs {w0 w v : World} {L : List Ent} {x : Value} {l : List CV} (h : Sep w0 w L) (hm : oldE v ∈ L) (hr : RdCs v x l) : RdCs w x l :=
  ⟨hr.form.keep (h.old_cell hm), fun y hy => { hr.ok y hy with k := h.rd hm (hr.ok y hy).k, v := h.rd hm (hr.ok y hy).v }⟩
end Go.Proofs.Ytaniabhajngdeaa

-- espalierlaw07.asLent: the walk.
namespace Go.Proofs.Ytaniabhajngdeaa
open Go.RowKit
theorem lent3E_drop {ps : List (Nat × Nat)} {cs : List PC} {k : Nat} (h1 : k < ps.length) (h2 : k < cs.length) : lent3E (ps.drop k) (cs.drop k) = lentP3 ps[k].1 cs[k].key :: lentP3 ps[k].2 cs[k].val :: lent3E (ps.drop (k + 1)) (cs.drop (k + 1)) := by
  rw [List.drop_eq_getElem_cons h1, List.drop_eq_getElem_cons h2]; rfl
set_option maxRecDepth 100000 in
set_option maxHeartbeats 8000000 in
theorem KasLent_sep {w0 w5 w : World} {L : List Ent} {v : Value} {l : List CV} {G : Nat} {ps : List (Nat × Nat)} (h : Sep w0 w (blkE G 50 (flatC (lentL3 ps (pcs l) ++ [markCV (-7), markCV (-8)])) :: (lent3E ps (pcs l) ++ L))) (hm : oldE w5 ∈ L) (hl : RdCs w5 v l)
    (hps : ps.length = (pcs l).length) (hn : (l.length + 2) * 72 ≤ 281474976710656) (hs : ∀ c ∈ pcs l, c.key.length ≤ 140737488355328 ∧ c.val.length ≤ 140737488355328) :
    Calls Try.prog 15 #[.slice (some ⟨G, 0, none⟩) l.length (l.length + 2), v] w fun e w' => e = .returned (.bool true) ∧ Sep w0 w' L := by
  obtain ⟨A, c, rfl, hmx, hc⟩ := hl.slice
  obtain ⟨n, hnn⟩ : ∃ n, l.length = n := ⟨_, rfl⟩
  have hcl : (pcs l).length = n := by rw [pcs_length]; exact hnn
  have hll := lentL3_length hps
  rw [hcl] at hll hps
  rw [hnn] at hl hn hmx ⊢
  have hXL : (lentL3 ps (pcs l) ++ [markCV (-7), markCV (-8)]).length = n + 2 := by rw [List.length_append, hll]; rfl
  have hX7 : ∀ (h : n < (lentL3 ps (pcs l) ++ [markCV (-7), markCV (-8)]).length), (lentL3 ps (pcs l) ++ [markCV (-7), markCV (-8)])[n] = markCV (-7) := fun h => by
    rw [List.getElem_append_right (by omega)]; simp [hll]
  have hX8 : ∀ (h : n + 1 < (lentL3 ps (pcs l) ++ [markCV (-7), markCV (-8)]).length), (lentL3 ps (pcs l) ++ [markCV (-7), markCV (-8)])[n + 1] = markCV (-8) := fun h => by
    rw [List.getElem_append_right (by omega)]; simp [hll]
  have hXk : ∀ k (_ : k < n) (h : k < (lentL3 ps (pcs l) ++ [markCV (-7), markCV (-8)]).length) p c, ps[k]? = some p → (pcs l)[k]? = some c → (lentL3 ps (pcs l) ++ [markCV (-7), markCV (-8)])[k] = lentCV3 p c := fun k hk h p c hp hc => by
    obtain ⟨_, rfl⟩ := List.getElem?_eq_some_iff.1 hp
    obtain ⟨_, rfl⟩ := List.getElem?_eq_some_iff.1 hc
    rw [List.getElem_append_left (by omega)]
    unfold lentL3
    rw [List.getElem_zipWith]
  obtain ⟨r0, r1, r2, r3, r4⟩ := cellsC h.head n (by omega)
  obtain ⟨s0, s1, s2, s3, s4⟩ := cellsC h.head (n + 1) (by omega)
  rw [hX7] at r1
  rw [hX8] at s1
  have r1' : w.cell? ⟨G, n * 5 + 1, none⟩ = some (.int .i64 (-7)) := r1
  have s1' : w.cell? ⟨G, (n + 1) * 5 + 1, none⟩ = some (.int .i64 (-8)) := s1
  have hS0 : Sep w0 w (blkE G 50 (flatC (lentL3 ps (pcs l) ++ [markCV (-7), markCV (-8)])) :: (lent3E (ps.drop 0) ((pcs l).drop 0) ++ L)) := h
  clear h r0 r1 r2 r3 r4 s0 s1 s2 s3 s4 hX7 hX8
  generalize lentL3 ps (pcs l) ++ [markCV (-7), markCV (-8)] = X at *
  have HXK := Lib.hid hXk
  have HXL := Lib.hid hXL
  have HCL := Lib.hid hcl
  have HPS := Lib.hid hps
  have HS := Lib.hid hs
  have HNN := Lib.hid hnn
  clear hXk hXL hcl hps hs hnn hll
  go_enter Try.func15, Try.ntmps15
  go_upto_region 5 with (fail)
  go_cut [7] (fun a wx => a = .bool true ∧ Sep w0 wx (blkE G 50 (flatC X) :: (lent3E (ps.drop 0) ((pcs l).drop 0) ++ L)))
  case first =>
    go_wp2_with fail
    go_meet
    exact ⟨rfl, hS0⟩
  case rest =>
   obtain ⟨rfl, hS1⟩ := hcut
   clear hS0 r1' s1'
   go_wp2_with fail
   go_loopw [7, 8, 9, 10] (fun g i _ _ wr => ∃ k : Nat, k ≤ n ∧ g = .bool true ∧ i = .int .i64 (k : Int) ∧ Sep w0 wr (blkE G 50 (flatC X) :: (lent3E (ps.drop k) ((pcs l).drop k) ++ L))) (fun _ i _ _ _ => n - (intOf i).toNat)
   case atStart => exact ⟨0, Nat.zero_le _, rfl, rfl, hS1⟩
   case round =>
    clear hS1
    obtain ⟨k, hk, rfl, rfl, hS⟩ := hrel
    by_cases hlt : k < n
    · have ik : (k : Int) < (n : Int) := by omega
      have hkl : k < l.length := by rw [HNN.out]; exact hlt
      have hkp : k < ps.length := by rw [HPS.out]; exact hlt
      have hkc : k < (pcs l).length := by rw [HCL.out]; exact hlt
      have HSD := Lib.hid (lent3E_drop hkp hkc)
      rw [HSD.out] at hS
      have HCE := Lib.hid (fun W (L' : List Ent) (h : Sep w0 W L') (hm' : oldE w5 ∈ L') => (h.rdCs hm' hl).at_ hkl)
      have HOK := Lib.hid (fun W (L' : List Ent) (h : Sep w0 W L') (hm' : oldE w5 ∈ L') => (h.rdCs hm' hl).ok _ (List.getElem_mem hkl))
      have HGC := Lib.hid (fun W (L' : List Ent) (h : Sep w0 W (blkE G 50 (flatC X) :: L')) => cellsC h.head k (by rw [HXL.out]; omega))
      rw [HXK.out k hlt _ _ _ (List.getElem?_eq_getElem hkp) (List.getElem?_eq_getElem hkc)] at HGC
      obtain ⟨z1, z2⟩ := HS.out (pcs l)[k] (List.getElem_mem _)
      rw [pcs_at hkl] at HGC HSD z1 z2 hS
      generalize ps[k] = p at *
      have hx := HOK.out wr _ hS (by simp [hm])
      generalize l[k] = x at *
      obtain ⟨A1, a1, B1, b1, key, ck, val, pg, ct, rfl, _, _⟩ := CV.form hx
      obtain ⟨gk, gv⟩ := p
      simp only at hS z1 z2
      obtain ⟨ad, rfl, -⟩ := HCE.out wr _ hS (by simp [hm])
      have HLC : Hid (∀ W (L' : List Ent), Sep w0 W L' → oldE w5 ∈ L' → W.cell? (ad.add (k * 5)) = some (.slice A1 key.length a1) ∧ W.cell? ⟨(ad.add (k * 5)).block, (ad.add (k * 5)).off + 1, none⟩ = some (.int .i64 ck) ∧ W.cell? ⟨(ad.add (k * 5)).block, (ad.add (k * 5)).off + 2, none⟩ = some (.slice B1 val.length b1) ∧
          W.cell? ⟨(ad.add (k * 5)).block, (ad.add (k * 5)).off + 3, none⟩ = some (.int .i64 pg) ∧ W.cell? ⟨(ad.add (k * 5)).block, (ad.add (k * 5)).off + 4, none⟩ = some (.int .i64 ct)) := Lib.hid (fun W L' h hm' => by
        obtain ⟨_, ea, d⟩ := HCE.out W L' h hm'
        cases ea
        exact d)
      have HGD : Hid (∀ W (L' : List Ent), Sep w0 W (blkE G 50 (flatC X) :: L') → W.cell? ⟨G, k * 5, none⟩ = some (.slice (some ⟨gk, 0, none⟩) key.length (key.length + 3)) ∧ W.cell? ⟨G, k * 5 + 1, none⟩ = some (.int .i64 ck) ∧ W.cell? ⟨G, k * 5 + 2, none⟩ = some (.slice (some ⟨gv, 0, none⟩) val.length (val.length + 3)) ∧
          W.cell? ⟨G, k * 5 + 3, none⟩ = some (.int .i64 pg) ∧ W.cell? ⟨G, k * 5 + 4, none⟩ = some (.int .i64 ct)) := Lib.hid (fun W L' h => HGC.out W L' h)
      clear hx HGC HCE
      have hS9 : Sep w0 wr (lentP3 gk key :: blkE G 50 (flatC X) :: lentP3 gv val :: (lent3E (ps.drop (k + 1)) ((pcs l).drop (k + 1)) ++ L)) := hS.sw1
      have hm9 : oldE w5 ∈ (lentP3 gk key :: blkE G 50 (flatC X) :: lentP3 gv val :: (lent3E (ps.drop (k + 1)) ((pcs l).drop (k + 1)) ++ L)) := by simp [hm]
      have hm10 : oldE w5 ∈ (lentP3 gv val :: blkE G 50 (flatC X) :: (lent3E (ps.drop (k + 1)) ((pcs l).drop (k + 1)) ++ L)) := by simp [hm]
      have hm11 : oldE w5 ∈ (blkE G 50 (flatC X) :: (lent3E (ps.drop (k + 1)) ((pcs l).drop (k + 1)) ++ L)) := by simp [hm]
      have ha9 := AsLent3_sep (vb := .slice A1 key.length a1) hS9.drew rfl (HOK.out _ _ hS9.drew hm9).k z1
      have HA9 := Lib.hid ha9
      have HM9 := Lib.hid hm9
      have HM10 := Lib.hid hm10
      have HM11 := Lib.hid hm11
      obtain ⟨d0, -⟩ := HLC.out wr _ hS9 hm9
      obtain ⟨e0, -⟩ := HGD.out wr _ hS
      clear ha9 hm9 hm10 hm11 hS
      have j0 : (0 : Int) ≤ (k : Int) := by omega
      have j1 : (k : Int) < (n : Int) + 2 := by omega
      have j2 : k < n + 2 := by omega
      have j3 : IntKind.i64.wrap (k : Int) = (k : Int) := by rw [IntKind.wrap_i64]; omega
      go_upto_region 9 with (fail)
      go_region_held3 (fun w' => w'.cell? (ad.add (k * 5)) = some (.slice A1 key.length a1) ∧ w'.cell? ⟨G, k * 5, none⟩ = some (.slice (some ⟨gk, 0, none⟩) key.length (key.length + 3)))
        (first | exact ⟨d0, e0⟩ | exact ⟨(HLC.out _ _ hS7 HM10.out).1, (HGD.out _ _ hS7.sw1).1⟩ | go_keep)
        (first
          | (go_at_call 26; refine HA9.out.mono ?_; rintro e w7 ⟨rfl, hS7⟩; have hS7 := hS7.sw1)
          | fail)
      have ha10 := AsLent3_sep (vb := .slice B1 val.length b1) hS7.drew rfl (HOK.out _ _ hS7.drew (by simp [hm])).v z2
      have HA10 := Lib.hid ha10
      obtain ⟨-, -, d2, -⟩ := HLC.out w7 _ hS7 (by simp [hm])
      obtain ⟨-, -, e2, -⟩ := HGD.out w7 _ hS7.sw1
      clear ha10 HA9 hS9 d0 e0 hS7
      go_upto_region 10 with (fail)
      go_region_held3 (fun w' => w'.cell? ⟨(ad.add (k * 5)).block, (ad.add (k * 5)).off + 2, none⟩ = some (.slice B1 val.length b1) ∧ w'.cell? ⟨G, k * 5 + 2, none⟩ = some (.slice (some ⟨gv, 0, none⟩) val.length (val.length + 3)))
        (first | exact ⟨d2, e2⟩ | exact ⟨(HLC.out _ _ hS8 HM11.out).2.2.1, (HGD.out _ _ hS8).2.2.1⟩ | go_keep)
        (first
          | (go_at_call 26; refine HA10.out.mono ?_; rintro e w8 ⟨rfl, hS8⟩)
          | fail)
      obtain ⟨-, d1, -, d3, d4⟩ := HLC.out w8 _ hS8 HM11.out
      obtain ⟨-, e1, -, e3, e4⟩ := HGD.out w8 _ hS8
      have q1 : (ck == ck) = true := beq_self_eq_true _
      have q3 : (pg == pg) = true := beq_self_eq_true _
      have q4 : (ct == ct) = true := beq_self_eq_true _
      have HS8 := Lib.hid hS8
      clear HA10 d2 e2 hS8 HM9 HM10 HM11 HOK HLC HGD HSD
      go_upto_region 11 with (fail)
      go_quiet (fail)
      go_wp2_with fail
      exact ⟨⟨k + 1, by omega, rfl, by go_num, HS8.out.drewN _⟩, by simp [intOf]; omega⟩
    · obtain rfl : k = n := by omega
      have hS2 : Sep w0 wr (blkE G 50 (flatC X) :: L) := by
        have e1 : ps.drop k = [] := List.drop_of_length_le (by rw [HPS.out]; exact Nat.le_refl _)
        rw [e1] at hS
        exact hS
      clear hS
      obtain ⟨w9, rfl⟩ : ∃ w9, w9 = wr := ⟨_, rfl⟩
      go_wp2_with fail
      go_loopw [11] (fun i wr => ∃ (m : Nat) (Y : List CV), m ≤ k + 2 ∧ i = .int .i64 (m : Int) ∧ Hid (Y.length = k + 2) ∧ Sep w0 wr (blkE G 50 (flatC Y) :: L)) (fun i _ => k + 2 - (intOf i).toNat)
      case atStart => exact ⟨0, X, Nat.zero_le _, rfl, HXL, hS2⟩
      case round =>
        clear hS2
        obtain ⟨m, Y, hmk, rfl, HY, hS⟩ := hrel
        by_cases hlt : m < k + 2
        · have im : (m : Int) < (k : Int) + 2 := by omega
          obtain ⟨q0, q1, q2, q3, q4⟩ := cellsC hS.head m (by rw [HY.out]; exact hlt)
          obtain ⟨f0, f1, f2, f3, f4⟩ := frozC hS.head m (by rw [HY.out]; exact hlt)
          have hS1 := hS.setC (k := m) (by rw [HY.out]; exact hlt) (markCV (-9))
          have HS1 := Lib.hid hS1
          generalize Y[m]'(by rw [HY.out]; exact hlt) = y at *
          clear hS1 hS
          go_wp2_with fail
          exact ⟨⟨m + 1, _, by omega, by go_num, Lib.hid (by rw [List.length_set]; exact HY.out), HS1.out⟩, by simp [intOf]; omega⟩
        · obtain rfl : m = k + 2 := by omega
          go_wp2_with fail
          go_ret
          exact ⟨rfl, hS.tail⟩
end Go.Proofs.Ytaniabhajngdeaa

-- The page sizes as powers of two.
namespace Go.Proofs.Ytaniabhajngdeaa
open Go.RowKit
def pw (j : Nat) : Int := 512 * 2 ^ j
theorem isPow_pw (p : Int) : isPow p ↔ ∃ j, j < 8 ∧ p = pw j := by
  unfold isPow pw
  constructor
  · rintro (h | h | h | h | h | h | h | h)
    · exact ⟨0, by omega, h⟩
    · exact ⟨1, by omega, h⟩
    · exact ⟨2, by omega, h⟩
    · exact ⟨3, by omega, h⟩
    · exact ⟨4, by omega, h⟩
    · exact ⟨5, by omega, h⟩
    · exact ⟨6, by omega, h⟩
    · exact ⟨7, by omega, h⟩
  · rintro ⟨j, hj, rfl⟩
    rcases (by omega : j = 0 ∨ j = 1 ∨ j = 2 ∨ j = 3 ∨ j = 4 ∨ j = 5 ∨ j = 6 ∨ j = 7) with rfl | rfl | rfl | rfl | rfl | rfl | rfl | rfl <;> simp
end Go.Proofs.Ytaniabhajngdeaa
