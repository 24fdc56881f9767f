/- espalierlaw03.PlatePlays: the statement 'PlatePlaysUptoSaid' is proved: whatever the input of bulk at most 1048576, the law returns true and the input reads as it did. -/
import Derived.Test.YtipjngoenklioaaG7
import Derived.Test.YtipjngoenklioaaG8
import Derived.Test.YtipjngoenklioaaG11
import Derived.Test.YtipjngoenklioaaRows
import Derived.JoinedCond
import Derived.Deep.Matrix
import Derived.Carry
-- espalierlaw03.PlatePlays: the walk.
namespace Go.Proofs.Ytipjngoenklioaa
open Go.RowKit
def bigB (p n : Int) : Bool := devB p n && decide (8388608 < p * n)
set_option maxRecDepth 20000 in
set_option maxHeartbeats 2000000 in
theorem big_any (p n : Int) (hp : -9223372036854775808 ≤ p ∧ p ≤ 9223372036854775807) (w : World) : Calls Try.prog 26 #[.int .i64 p, .int .i64 n] w fun e w' => e = .returned (.bool (bigB p n)) ∧ Below w.heap.size w w' := by
  cases hd : devB p n
  · have HV : Hid (bigB p n = false) := Lib.hid (by unfold bigB; rw [hd]; rfl)
    have hn := RNew_bad p n hp hd w
    clear hd
    go_enter Try.func26, Try.ntmps26
    go_wp2_with (first
      | (go_at_call 18; refine hn.mono ?_; rintro e w1 ⟨rfl, rfl⟩)
      | fail)
    go_ret
    rw [HV.out]
    exact ⟨rfl, Below.refl _ _⟩
  · obtain ⟨s, m, rfl, rfl⟩ := dev_nat hd
    have hn := RNew_ok s m hd w
    obtain ⟨h1, h2, h3, h4⟩ := devB_spec hd
    have h5 := isPowB_range h1
    obtain ⟨z, hz⟩ : ∃ z : Nat, z = s * m := ⟨_, rfl⟩
    have e1 : (s : Int) * (m : Int) = (z : Int) := by rw [hz]; push_cast; rfl
    have hz1 : z ≤ 67108864 := by
      have : (m : Int) * (s : Int) = (z : Int) := by rw [Int.mul_comm]; exact e1
      omega
    have wz : IntKind.i64.wrap (z : Int) = (z : Int) := IntWalk.i64_in _ (by omega)
    have HV : Hid (bigB (s : Int) (m : Int) = decide (8388608 < (z : Int))) := Lib.hid (by unfold bigB; rw [hd, e1]; rfl)
    clear hd h1 h2 h3 h4 hz
    go_enter Try.func26, Try.ntmps26
    go_wp2_with (first
      | (go_at_call 18; refine hn.mono ?_; rintro e w1 ⟨q, R, rfl, _, _, hb1⟩; unfold rfPtr)
      | fail)
    go_ret
    rw [HV.out]
    exact ⟨rfl, hb1⟩
theorem Pair.more {b : Prop} {w : World} {T : Nat → Prop} {xb n m : Nat} (h : Pair b w T xb n) (hm : n ≤ m) : Pair b w T xb m := by
  obtain ⟨r, q, S, D, R, cv, cs, wv, ls, h, h1, h2, h3⟩ := h
  exact ⟨r, q, S, D, R, cv, cs, wv, ls, h, by omega, by omega, h3⟩
theorem Pair.turn {b : Prop} {w w' : World} {T G : Nat → Prop} {xb n : Nat} (h : Pair b w T xb n) (ht : Turn G w w') (hd : ∀ b, T b → ¬ G b) : Pair b w' T xb n := by
  obtain ⟨r, q, S, D, R, cv, cs, wv, ls, h, h1, h2, h3⟩ := h
  exact ⟨r, q, S, D, R, cv, cs, wv, ls, h.turn ht hd, h1, h2, h3⟩
theorem Pair.lt {b : Prop} {w : World} {T : Nat → Prop} {xb n : Nat} (h : Pair b w T xb n) : ∀ b, T b → b < w.heap.size := by
  obtain ⟨r, q, S, D, R, cv, cs, wv, ls, h, _⟩ := h
  exact h.lt
/-- A pair, or one of no devices. -/
def PairO (b : Prop) (w : World) (T : Nat → Prop) (xb n : Nat) : Prop :=
  Pair b w T xb n ∨ (OBlk w xb 55 [.pointer none, .pointer none, .slice none 0 0, .slice none 0 0] ∧ T xb ∧ ∀ b, T b → b < w.heap.size)
theorem PairO.lt {b : Prop} {w : World} {T : Nat → Prop} {xb n : Nat} (h : PairO b w T xb n) : ∀ b, T b → b < w.heap.size := by
  rcases h with h | ⟨_, _, h⟩
  · exact h.lt
  · exact h
theorem PairO.turn {b : Prop} {w w' : World} {T G : Nat → Prop} {xb n : Nat} (h : PairO b w T xb n) (ht : Turn G w w') (hd : ∀ b, T b → ¬ G b) : PairO b w' T xb n := by
  rcases h with h | ⟨h1, h2, h3⟩
  · exact .inl (h.turn ht hd)
  · exact .inr ⟨h1.turn ht (hd _ h2), h2, fun b hb => Nat.lt_of_lt_of_le (h3 b hb) ht.size⟩
theorem PairO.more {b : Prop} {w : World} {T : Nat → Prop} {xb n m : Nat} (h : PairO b w T xb n) (hm : n ≤ m) : PairO b w T xb m := by
  rcases h with h | h
  · exact .inl (h.more hm)
  · exact .inr h
structure LawSt (W : World) (lb : Nat) (x : Nat → Nat) (fl : Nat → Prop) (n : Nat) (w : World) (T : Nat → Nat → Prop) : Prop where
  p : ∀ j, j < 2 → PairO (fl j) w (T j) (x j) n
  dis : ∀ i j, i < 2 → j < 2 → i ≠ j → ∀ b, T i b → ¬ T j b
  lo : ∀ j b, j < 2 → T j b → W.heap.size ≤ b ∧ b ≠ lb
  blk : OBlk w lb 51 [.pointer (some ⟨x 0, 0, none⟩), .pointer (some ⟨x 1, 0, none⟩)]
  below : Below W.heap.size W w
theorem LawSt.drew {W : World} {lb : Nat} {x : Nat → Nat} {fl : Nat → Prop} {n : Nat} {w : World} {T : Nat → Nat → Prop} (h : LawSt W lb x fl n w T) : LawSt W lb x fl n w.drew T :=
  ⟨fun j hj => (h.p j hj).turn (G := fun _ => False) (Turn.refl _ w).drew (fun _ _ h => h), h.dis, h.lo, h.blk.drew, h.below.drew⟩
theorem LawSt.belowW {W : World} {lb : Nat} {x : Nat → Nat} {fl : Nat → Prop} {n : Nat} {w w' : World} {T : Nat → Nat → Prop} (h : LawSt W lb x fl n w T) (hb : Below w.heap.size w w') : LawSt W lb x fl n w' T :=
  ⟨fun j hj => (h.p j hj).turn (G := fun _ => False) ⟨hb.os, hb.tape, hb.output, hb.size, fun k hk _ => hb.block k hk⟩ (fun _ _ h => h), h.dis, h.lo, h.blk.below hb h.blk.lt, h.below.trans (hb.mono h.below.size)⟩
/-- One of the two takes a step. -/
theorem LawSt.step {W : World} {lb : Nat} {x : Nat → Nat} {fl fl' : Nat → Prop} {n m : Nat} {w w' : World} {T : Nat → Nat → Prop} (h : LawSt W lb x fl n w T) {j : Nat} (hj : j < 2) {T' : Nat → Prop} (hp : Pair (fl' j) w' T' (x j) m) (hs : Step (T j) w T' w') (hm : n ≤ m) (hfl : ∀ i, i ≠ j → fl' i = fl i) :
    LawSt W lb x fl' m w' (fun i => if i = j then T' else T i) where
  p := fun i hi => by
    by_cases e : i = j
    · subst e
      rw [if_pos rfl]
      exact .inl hp
    · rw [if_neg e, hfl i e]
      exact ((h.p i hi).turn hs.turn (h.dis i j hi hj e)).more hm
  dis := fun i k hi hk hik b hb hb' => by
    by_cases e : i = j
    · subst e
      rw [if_pos rfl] at hb
      rw [if_neg (fun e => hik e.symm)] at hb'
      rcases hs.grow b hb with h1 | h1
      · exact h.dis i k hi hk hik b h1 hb'
      · have := (h.p k hk).lt b hb'; omega
    · rw [if_neg e] at hb
      by_cases e2 : k = j
      · subst e2
        rw [if_pos rfl] at hb'
        rcases hs.grow b hb' with h1 | h1
        · exact h.dis i k hi hk hik b hb h1
        · have := (h.p i hi).lt b hb; omega
      · rw [if_neg e2] at hb'
        exact h.dis i k hi hk hik b hb hb'
  lo := fun i b hi hb => by
    by_cases e : i = j
    · subst e
      rw [if_pos rfl] at hb
      rcases hs.grow b hb with h1 | h1
      · exact h.lo i b hi h1
      · have := h.below.size; have := h.blk.lt; omega
    · rw [if_neg e] at hb
      exact h.lo i b hi hb
  blk := h.blk.turn hs.turn (fun e => (h.lo j lb hj e).2 rfl)
  below := h.below.trans (hs.turn.below h.below.size (fun b hb => (h.lo j b hj hb).1))
theorem LawSt.flag {W : World} {lb : Nat} {x : Nat → Nat} {fl fl' : Nat → Prop} {n m : Nat} {w : World} {T : Nat → Nat → Prop} (h : LawSt W lb x fl n w T) (hf : ∀ j, fl' j → fl j) (hm : n ≤ m) : LawSt W lb x fl' m w T :=
  ⟨fun j hj => by
    rcases h.p j hj with ⟨r, q, S, D, R, cv, cs, wv, ls, h0, h1, h2, h3⟩ | h0
    · exact .inl ⟨r, q, S, D, R, cv, cs, wv, ls, h0, by omega, by omega, fun l hl => ⟨(h3 l hl).1, fun e => (h3 l hl).2 (hf j e)⟩⟩
    · exact .inr h0, h.dis, h.lo, h.blk, h.below⟩
theorem LawSt.cell {W : World} {lb : Nat} {x : Nat → Nat} {fl : Nat → Prop} {n : Nat} {w : World} {T : Nat → Nat → Prop} (h : LawSt W lb x fl n w T) {j : Nat} (hj : j < 2) : w.cell? ⟨lb, j, none⟩ = some (.pointer (some ⟨x j, 0, none⟩)) := by
  rcases (by omega : j = 0 ∨ j = 1) with rfl | rfl
  · exact h.blk.cell 0
  · exact h.blk.cell 1
theorem and_one (n : Int) : ∃ z : Nat, bits .and .i64 n 1 = (z : Int) ∧ z < 2 := by
  have e : bits .and .i64 n 1 = IntKind.i64.wrap (((BitVec.ofInt 64 n) &&& (BitVec.ofInt 64 1)).toNat : Int) := rfl
  have h7 : (BitVec.ofInt 64 1).toNat = 1 := by decide
  have h : ((BitVec.ofInt 64 n) &&& (BitVec.ofInt 64 1)).toNat ≤ 1 := by
    rw [BitVec.toNat_and, h7]
    exact Nat.and_le_right
  refine ⟨((BitVec.ofInt 64 n) &&& (BitVec.ofInt 64 1)).toNat, ?_, by omega⟩
  rw [e, IntKind.wrap_i64]
  omega
def xs2 (a b : Nat) (j : Nat) : Nat := if j = 0 then a else b
def opK (k : Int) : OpV := ⟨k, 0, 0, 0, .slice none 0 0, [], .slice none 0 0, [], 0, 0⟩
theorem opK_ok (W : World) (k : Int) (hk : 0 ≤ k ∧ k ≤ 100) : (opK k).ok W :=
  ⟨RdB.nil, RdI.nil _, by simp [opK], (show i64r k by unfold i64r; omega), (show i64r 0 by unfold i64r; omega), (show i64r 0 by unfold i64r; omega), (show i64r 0 by unfold i64r; omega), (show i64r 0 by unfold i64r; omega)⟩
theorem Pair.imp {b b' : Prop} {w : World} {T : Nat → Prop} {xb n : Nat} (h : Pair b w T xb n) (hb : b' → b) : Pair b' w T xb n := by
  obtain ⟨r, q, S, D, R, cv, cs, wv, ls, h, h1, h2, h3⟩ := h
  exact ⟨r, q, S, D, R, cv, cs, wv, ls, h, h1, h2, fun l hl => ⟨(h3 l hl).1, fun e => (h3 l hl).2 (hb e)⟩⟩
theorem pair_init {w : World} {r : Raw} {q : RRaw} {S : PS} {D R : Nat → Prop} {xb : Nat} (hd : PlRaw w D r S) (hr : RfAt w R q S) (hb : OBlk w xb 55 [plPtr r, rfPtr q, .slice none 0 0, .slice none 0 0]) (hDR : ∀ b, D b → ¬ R b) (hD : ¬ D xb) (hR : ¬ R xb) (hS : S.wild = []) :
    Pair True w (fun b => D b ∨ R b ∨ b = xb) xb 0 := by
  have hO : ∀ b, OO xb (.slice none 0 0) (.slice none 0 0) [] b → b = xb := fun b hb => by
    rcases hb with h | h | h | ⟨j, u, hj, _⟩
    · exact h
    · cases h
    · cases h
    · simp at hj
  exact ⟨r, q, S, D, R, _, [], _, [],
    { dev := hd, ref := hr, blk := hb, came := Own.nil _ _ _ _, want := Own.nil _ _ _ _, len := rfl
      each := fun j u hj => by simp at hj
      apart := fun i j u u' _ hj => by simp at hj
      sepD := fun b h => ⟨hDR b h, fun h' => hD (hO b h' ▸ h)⟩
      sepR := fun b h h' => hR (hO b h' ▸ h)
      tD := fun b h => .inl h, tR := fun b h => .inr (.inl h), tO := fun b h => .inr (.inr (hO b h))
      lt := fun b h => by
        rcases h with h | h | h
        · exact hd.lt b h
        · exact hr.lt b h
        · rw [h]; exact hb.lt }, by simp, by rw [hS]; simp, by simp⟩
def InitAt (W : World) (s : Value) (wx : World) : Prop := ∃ lb x0 x1 T, s = .slice (some ⟨lb, 0, none⟩) 2 2 ∧ LawSt W lb (xs2 x0 x1) (fun _ => True) 0 wx T
theorem init_of {W w w' : World} {x0 x1 : Nat} {T0 T1 : Nat → Prop} (hB : Below W.heap.size W w) (h0 : PairO True w T0 x0 0) (h1 : PairO True w T1 x1 0) (hT0 : ∀ b, T0 b → W.heap.size ≤ b) (hT1 : ∀ b, T1 b → W.heap.size ≤ b) (hd : ∀ b, T0 b → ¬ T1 b)
    (hw : w' = w.alloc (.cells #[.pointer (some ⟨x0, 0, none⟩), .pointer (some ⟨x1, 0, none⟩)] 51)) : InitAt W (.slice (some ⟨w.heap.size, 0, none⟩) 2 2) w' := by
  subst hw
  have hb : Below w.heap.size w (w.alloc (.cells #[.pointer (some ⟨x0, 0, none⟩), .pointer (some ⟨x1, 0, none⟩)] 51)) := (Below.refl _ _).alloc (Nat.le_refl _) _
  have ht : Turn (fun _ => False) w (w.alloc (.cells #[.pointer (some ⟨x0, 0, none⟩), .pointer (some ⟨x1, 0, none⟩)] 51)) := ⟨hb.os, hb.tape, hb.output, hb.size, fun k hk _ => hb.block k hk⟩
  refine ⟨w.heap.size, x0, x1, fun j => if j = 0 then T0 else T1, rfl, ⟨fun j hj => ?_, fun i j hi hj hij b hb hb' => ?_, fun j b hj hb => ?_, OBlk.new' w _ _, hB.trans (hb.mono hB.size)⟩⟩
  · rcases (by omega : j = 0 ∨ j = 1) with rfl | rfl
    · exact h0.turn ht (fun _ _ h => h)
    · exact h1.turn ht (fun _ _ h => h)
  · rcases (by omega : (i = 0 ∧ j = 1) ∨ (i = 1 ∧ j = 0)) with ⟨rfl, rfl⟩ | ⟨rfl, rfl⟩
    · exact hd b hb hb'
    · exact hd b hb' hb
  · rcases (by omega : j = 0 ∨ j = 1) with rfl | rfl
    · exact ⟨hT0 b hb, fun e => by have := h0.lt b hb; omega⟩
    · exact ⟨hT1 b hb, fun e => by have := h1.lt b hb; omega⟩
set_option maxRecDepth 100000 in
set_option maxHeartbeats 8000000 in
theorem plays_any (size pages : Int) (hsr : i64r size) (v : Value) (l : List OpV) (W : World) (hl : RdOps W v l) (hn : l.length ≤ 1048576) (hs : ∀ o ∈ l, o.keep.length ≤ 1048576 ∧ o.data.length ≤ 1048576) :
    Calls Try.prog 6 #[.int .i64 size, .int .i64 pages, v] W fun e w' => e = .returned (.bool true) ∧ Below W.heap.size W w' := by
  obtain ⟨A, c, rfl, hlc, hcm, hcells⟩ := hl.form
  have hok := hl.ok
  have hcm' : c ≤ 9223372036854775807 := hcm
  have hbg := fun w => big_any size pages hsr w
  clear hcm hl
  go_enter Try.func6, Try.ntmps6
  cases hb : bigB size pages
  case true =>
    rw [hb] at hbg
    clear hb
    go_wp2_with (first
      | (go_at_call 7; refine (awake_any _).mono ?_; rintro e w1 ⟨rfl, hb1⟩)
      | (go_at_call 26; refine (hbg _).mono ?_; rintro e w2 ⟨rfl, hb2⟩)
      | fail)
    go_ret
    exact ⟨rfl, hb1.trans (hb2.mono hb1.size)⟩
  case false =>
    rw [hb] at hbg
    clear hb
    go_upto_region 7 with (first
      | (go_at_call 7; refine (awake_any _).mono ?_; rintro e w1 ⟨rfl, hb1⟩)
      | (go_at_call 26; refine (hbg _).mono ?_; rintro e w2 ⟨rfl, hb2⟩)
      | fail)
    have hB2 := hb1.trans (hb2.mono hb1.size)
    clear hbg hb1 hb2
    go_cut [9] (fun s wx => InitAt W s wx)
    case first =>
      cases hd : devB size pages
      · have hn1 := New_bad size pages hsr hd w2
        have hn2 := RNew_bad size pages hsr hd w2
        clear hd
        go_wp2_with fail
        refine hn1.mono ?_
        rintro e w3 ⟨rfl, rfl⟩
        go_wp2_with fail
        refine hn2.mono ?_
        rintro e w3 ⟨rfl, rfl⟩
        have hA : Below w2.heap.size w2 (w2.alloc (.cells #[.pointer none, .pointer none, .slice none 0 0, .slice none 0 0] 55)) := (Below.refl _ _).alloc (Nat.le_refl _) _
        have hx0 := OBlk.new' w2 55 [.pointer none, .pointer none, .slice none 0 0, .slice none 0 0]
        go_wp2_with fail
        generalize w2.alloc (.cells #[.pointer none, .pointer none, .slice none 0 0, .slice none 0 0] 55) = w3 at *
        refine (New_ok 512 4 dev4 _).mono ?_
        rintro e w4 ⟨r4, D4, rfl, hD4, hD4w, hb4⟩
        unfold plPtr
        go_wp2_with fail
        refine (RNew_ok 512 4 dev4 _).mono ?_
        rintro e w5 ⟨q5, R5, rfl, hR5, hR5w, hb5⟩
        unfold rfPtr
        have hD5 := hD4.below hb5
        have hA5 : Below w5.heap.size w5 (w5.alloc (.cells #[plPtr r4, rfPtr q5, .slice none 0 0, .slice none 0 0] 55)) := (Below.refl _ _).alloc (Nat.le_refl _) _
        have hx1 := OBlk.new' w5 55 [plPtr r4, rfPtr q5, .slice none 0 0, .slice none 0 0]
        have hz1 := hA.size
        have hz2 := hb4.size
        have hz3 := hb5.size
        have hz4 := hB2.size
        have hl0 := hx0.lt
        have hx06 := (((hx0.below hb4 hx0.lt).below hb5 (by omega)).alloc (.cells #[plPtr r4, rfPtr q5, .slice none 0 0, .slice none 0 0] 55))
        have hP1 := pair_init (hD5.below hA5) (hR5.below hA5) hx1 (fun b h h' => by have := hD4.lt b h; have := hR5w b h'; omega) (fun h => by have := hD5.lt _ h; omega) (fun h => by have := hR5.lt _ h; omega) rfl
        have hB6 := ((((hB2.trans (hA.mono hz4)).trans (hb4.mono (by omega))).trans (hb5.mono (by omega))).trans (hA5.mono (by omega)))
        have hz6 := hA5.size
        have hin := init_of hB6 (T0 := fun b => b = w2.heap.size) (.inr ⟨hx06, rfl, fun b e => by have e' : b = w2.heap.size := e; omega⟩) (.inl hP1) (fun b e => by have e' : b = w2.heap.size := e; omega) (fun b h => by
          rcases h with h | h | h
          · have := hD4w b h; omega
          · have := hR5w b h; omega
          · omega) (fun b e h => by
          have e' : b = w2.heap.size := e
          rcases h with h | h | h
          · have := hD4w b h; omega
          · have := hR5w b h; omega
          · omega) rfl
        have HIN := Lib.hid hin
        clear hin hP1 hx06 hx1 hx0 hA5 hA hb4 hb5 hD4 hR5 hD5
        unfold plPtr rfPtr at HIN
        go_wp2_with fail
        go_meet
        have hin := HIN.out
        rw [World.size_alloc] at hin
        exact hin
      · obtain ⟨s, m, rfl, rfl⟩ := dev_nat hd
        have HD := Lib.hid hd
        clear hd
        go_wp2_with fail
        refine (New_ok s m HD.out _).mono ?_
        rintro e w3 ⟨r3, D3, rfl, hD3, hD3w, hb3⟩
        unfold plPtr
        go_wp2_with fail
        refine (RNew_ok s m HD.out _).mono ?_
        rintro e w4 ⟨q4, R4, rfl, hR4, hR4w, hb4⟩
        unfold rfPtr
        have hD4 := hD3.below hb4
        have hA4 : Below w4.heap.size w4 (w4.alloc (.cells #[plPtr r3, rfPtr q4, .slice none 0 0, .slice none 0 0] 55)) := (Below.refl _ _).alloc (Nat.le_refl _) _
        have hx0 := OBlk.new' w4 55 [plPtr r3, rfPtr q4, .slice none 0 0, .slice none 0 0]
        have hz1 := hb3.size
        have hz2 := hb4.size
        have hz3 := hA4.size
        have hz4 := hB2.size
        have hP0 := pair_init (hD4.below hA4) (hR4.below hA4) hx0 (fun b h h' => by have := hD3.lt b h; have := hR4w b h'; omega) (fun h => by have := hD4.lt _ h; omega) (fun h => by have := hR4.lt _ h; omega) rfl
        have HP0 := Lib.hid hP0
        have hB4 := (((hB2.trans (hb3.mono hz4)).trans (hb4.mono (by omega))).trans (hA4.mono (by omega)))
        have hl3 := hx0.lt
        have h2lt : ∀ b, D3 b ∨ R4 b ∨ b = w4.heap.size → w2.heap.size ≤ b ∧ b < (w4.alloc (.cells #[plPtr r3, rfPtr q4, .slice none 0 0, .slice none 0 0] 55)).heap.size := fun b h => by
          refine ⟨?_, hP0.lt b h⟩
          rcases h with h | h | h
          · exact hD3w b h
          · have := hR4w b h; omega
          · omega
        clear hP0 hx0 hA4 hb3 hb4 hD3 hR4 hD4
        unfold plPtr rfPtr at HP0 hB4 hl3 hz3 h2lt
        go_wp2_with fail
        generalize w4.alloc (.cells #[.pointer (some ⟨r3.pb, 0, none⟩), .pointer (some ⟨q4.pb, 0, none⟩), .slice none 0 0, .slice none 0 0] 55) = w5 at *
        refine (New_ok 512 4 dev4 _).mono ?_
        rintro e w6 ⟨r6, D6, rfl, hD6, hD6w, hb6⟩
        unfold plPtr
        go_wp2_with fail
        refine (RNew_ok 512 4 dev4 _).mono ?_
        rintro e w7 ⟨q7, R7, rfl, hR7, hR7w, hb7⟩
        unfold rfPtr
        have hD7 := hD6.below hb7
        have hA7 : Below w7.heap.size w7 (w7.alloc (.cells #[plPtr r6, rfPtr q7, .slice none 0 0, .slice none 0 0] 55)) := (Below.refl _ _).alloc (Nat.le_refl _) _
        have hx1 := OBlk.new' w7 55 [plPtr r6, rfPtr q7, .slice none 0 0, .slice none 0 0]
        have hz5 := hb6.size
        have hz6 := hb7.size
        have hz7 := hA7.size
        have hP1 := pair_init (hD7.below hA7) (hR7.below hA7) hx1 (fun b h h' => by have := hD6.lt b h; have := hR7w b h'; omega) (fun h => by have := hD7.lt _ h; omega) (fun h => by have := hR7.lt _ h; omega) rfl
        have hb58 := (hb6.trans (hb7.mono hz5)).trans (hA7.mono (by omega))
        have hP08 := HP0.out.turn (G := fun _ => False) ⟨hb58.os, hb58.tape, hb58.output, hb58.size, fun k hk _ => hb58.block k hk⟩ (fun _ _ h => h)
        have hB8 := hB4.trans (hb58.mono (by omega))
        have hin := init_of hB8 (.inl hP08) (.inl hP1) (fun b h => by have := (h2lt b h).1; omega) (fun b h => by
          rcases h with h | h | h
          · have := hD6w b h; omega
          · have := hR7w b h; omega
          · omega) (fun b e h => by
          have := (h2lt b e).2
          rcases h with h | h | h
          · have := hD6w b h; omega
          · have := hR7w b h; omega
          · omega) rfl
        have HIN := Lib.hid hin
        clear hin hP1 hP08 hx1 hA7 hb6 hb7 hD6 hR7 hD7 hb58 HP0
        unfold plPtr rfPtr at HIN
        go_wp2_with fail
        go_meet
        have hin := HIN.out
        rw [World.size_alloc] at hin
        exact hin
    case rest =>
      clear hB2
      obtain ⟨lb, x0, x1, T, rfl, hSt⟩ := hcut
      generalize xs2 x0 x1 = x at *
      go_wp2_with fail
      go_loopw [10] (fun i wr => ∃ k : Nat, k ≤ 2 ∧ i = .int .i64 (k : Int) ∧ LawSt W lb x (fun _ => True) 0 wr T) (fun i _ => 2 - (intOf i).toNat)
      case atStart => exact ⟨0, by omega, rfl, hSt⟩
      case round =>
        clear hSt
        obtain ⟨k, hk, rfl, hSt⟩ := hrel
        by_cases hlt : k < 2
        · have c0 := hSt.cell hlt
          have hpo := hSt.p k hlt
          have ik : (k : Int) < 2 := by omega
          have HST := Lib.hid hSt
          clear hSt
          generalize x k = xk at *
          rcases hpo with ⟨r, q, S, D, R, cv, cs, wv, ls, hP, _⟩ | ⟨hb, _⟩
          · have d0 := hP.blk.cell' (j := 0) rfl
            have d1 := hP.blk.cell' (j := 1) rfl
            unfold plPtr at d0
            unfold rfPtr at d1
            clear hP
            go_upto_region 11 with (fail)
            go_region
            go_wp2_with fail
            exact ⟨⟨k + 1, by omega, by go_num, HST.out.drew⟩, by simp only [intOf, IntKind.wrap_i64]; omega⟩
          · have d0 := hb.cell' (j := 0) rfl
            have d1 := hb.cell' (j := 1) rfl
            clear hb
            go_upto_region 11 with (fail)
            go_region
            go_wp2_with fail
            exact ⟨⟨k + 1, by omega, by go_num, HST.out.drew⟩, by simp only [intOf, IntKind.wrap_i64]; omega⟩
        · obtain rfl : k = 2 := by omega
          rw [show ((2 : Nat) : Int) = 2 from rfl]
          go_wp2_with fail
          go_loopw [11] (fun i wr => ∃ (k : Nat) (T : Nat → Nat → Prop), k ≤ l.length ∧ i = .int .i64 (k : Int) ∧ LawSt W lb x (fun _ => True) k wr T) (fun i _ => l.length - (intOf i).toNat)
          case atStart => exact ⟨0, T, Nat.zero_le _, rfl, hSt⟩
          case round =>
            clear hSt
            obtain ⟨k, T, hk, rfl, hSt⟩ := hrel
            by_cases hlt : k < l.length
            · have ik : (k : Int) < (l.length : Int) := by omega
              obtain ⟨ad, rfl, hcl⟩ := hcells k hlt
              have hoo := hok _ (List.getElem_mem hlt)
              obtain ⟨hkl, hdl⟩ := hs _ (List.getElem_mem hlt)
              have hcw : ∀ r u, l[k].cells[r]? = some u → wr.cell? (ad.add (k * 8 + r)) = some u := fun r u hu => by
                have h1 := hcl r u hu
                exact (hSt.below.cell (World.block_lt_of_cell? W _ h1)).trans h1
              generalize l[k] = o at *
              have e0 := hcw 0 _ rfl
              have e1 := hcw 1 _ rfl
              have e2 := hcw 2 _ rfl
              have e3 := hcw 3 _ rfl
              have e4 := hcw 4 _ rfl
              have e5 := hcw 5 _ rfl
              have e6 := hcw 6 _ rfl
              have e7 := hcw 7 _ rfl
              rw [← add_of_add] at e0 e1 e2 e3 e4 e5 e6 e7
              have f0 : wr.cell? (ad.add (k * 8)) = some (.int .i64 o.kind) := e0
              have f1 : wr.cell? ⟨(ad.add (k * 8)).block, (ad.add (k * 8)).off + 1, none⟩ = some (.int .i64 o.on) := e1
              have f2 : wr.cell? ⟨(ad.add (k * 8)).block, (ad.add (k * 8)).off + 2, none⟩ = some (.int .i64 o.n) := e2
              have f3 : wr.cell? ⟨(ad.add (k * 8)).block, (ad.add (k * 8)).off + 3, none⟩ = some (.int .u8 (o.byte.toNat : Int)) := e3
              have f4 : wr.cell? ⟨(ad.add (k * 8)).block, (ad.add (k * 8)).off + 4, none⟩ = some o.dv := e4
              have f5 : wr.cell? ⟨(ad.add (k * 8)).block, (ad.add (k * 8)).off + 5, none⟩ = some o.kv := e5
              have f6 : wr.cell? ⟨(ad.add (k * 8)).block, (ad.add (k * 8)).off + 6, none⟩ = some (.int .i64 o.torn) := e6
              have f7 : wr.cell? ⟨(ad.add (k * 8)).block, (ad.add (k * 8)).off + 7, none⟩ = some (.int .i64 o.at_) := e7
              clear e0 e1 e2 e3 e4 e5 e6 e7 hcl hcw
              obtain ⟨z, hz, hz2⟩ := and_one o.on
              have iz : (z : Int) < 2 := by omega
              have c0 := hSt.cell hz2
              have hpo := hSt.p z hz2
              have HST := Lib.hid hSt
              have hlow := fun b hb => (hSt.lo z b hz2 hb).1
              have hbw := hSt.below
              clear hSt
              obtain ⟨xz, hxz⟩ : ∃ xz, xz = x z := ⟨_, rfl⟩
              rw [← hxz] at c0 hpo
              have HXZ := Lib.hid hxz
              clear hxz
              rcases hpo with hP | ⟨hb, _⟩
              · have hpl := play_any True W wr (T z) xz k o hP (by omega) hoo hbw hlow (by omega) (by omega)
                unfold pairV opV at hpl
                have HPL := Lib.hid hpl
                obtain ⟨r, q, S, D, R, cv, cs, wv, ls, hPA, _⟩ := hP
                have d0 := hPA.blk.cell' (j := 0) rfl
                have d1 := hPA.blk.cell' (j := 1) rfl
                unfold plPtr at d0
                unfold rfPtr at d1
                clear hPA hpl
                go_upto_region 19 with (first
                  | (go_at_call 27; refine HPL.out.mono ?_; rintro e w3 ⟨rfl, T3, hP3, hS3⟩)
                  | fail)
                have hSt3 := HST.out.step (fl' := fun _ => True) hz2 (by rw [← HXZ.out]; exact hP3) hS3 (Nat.le_succ k) (fun _ _ => rfl)
                have HST3 := Lib.hid hSt3
                obtain ⟨r3, q3, S3, D3, R3, cv3, cs3, wv3, ls3, hPA3, _⟩ := hP3
                clear hSt3 d0 d1 f0 f1 f2 f3 f4 f5 f6 f7 c0 hS3
                have d0 := hPA3.blk.cell' (j := 0) rfl
                have d1 := hPA3.blk.cell' (j := 1) rfl
                have u1 := Up_any w3 D3 r3 S3 hPA3.dev
                have u2 := RUp_any (w3.drewN 1) R3 q3 S3 (hPA3.drewN 1).ref
                have u3 := Page_any (w3.drewN 1) D3 r3 S3 (hPA3.drewN 1).dev
                have u4 := RPage_any (w3.drewN 1) R3 q3 S3 (hPA3.drewN 1).ref
                have u5 := Pages_any (w3.drewN 1) D3 r3 S3 (hPA3.drewN 1).dev
                have u6 := fun w' (hb : Below (w3.drewN 1).heap.size (w3.drewN 1) w') => RPages_any w' R3 q3 S3 ((hPA3.drewN 1).below hb).ref
                unfold plPtr at d0 u1 u3 u5
                unfold rfPtr at d1 u2 u4 u6
                have U6 := Lib.hid u6
                have HPA3 := Lib.hid hPA3
                clear u6 hPA3
                go_upto_region 20 with (first
                  | (go_at_call 14; refine u1.mono ?_; rintro e w4 ⟨rfl, rfl⟩)
                  | fail)
                generalize (!S3.down) = dn at *
                go_region_held3 (fun w' => w'.cell? ⟨xz, 0, none⟩ = some (.pointer (some ⟨r3.pb, 0, none⟩)) ∧ w'.cell? ⟨xz, 1, none⟩ = some (.pointer (some ⟨q3.pb, 0, none⟩)))
                  (first | exact ⟨d0, d1⟩ | exact ⟨hx1, hx2⟩)
                  (first
                    | (go_at_call 28; refine u2.mono ?_; rintro e w4 ⟨rfl, rfl⟩)
                    | (go_at_call 19; refine u3.mono ?_; rintro e w4 ⟨rfl, rfl⟩)
                    | (go_at_call 29; refine u4.mono ?_; rintro e w4 ⟨rfl, rfl⟩)
                    | (go_at_call 20; refine u5.mono ?_; rintro e w4 ⟨rfl, hb4⟩; have hq4 := (HPA3.out.drewN 1).below hb4; have hx1 := hq4.blk.cell' (j := 0) rfl; have hx2 := hq4.blk.cell' (j := 1) rfl; unfold plPtr at hx1; unfold rfPtr at hx2)
                    | (go_at_call 25; refine (U6.out _ hb4).mono ?_; rintro e w5 ⟨rfl, rfl⟩)
                    | fail)
                go_wp2_with fail
                exact ⟨⟨k + 1, _, by omega, by go_num, HST3.out.drew.belowW hb4⟩, by simp only [intOf, IntKind.wrap_i64]; omega⟩
              · have d0 := hb.cell' (j := 0) rfl
                clear hb
                go_wp2_with fail
                exact ⟨⟨k + 1, T, by omega, by go_num, ⟨fun j hj => (HST.out.p j hj).more (Nat.le_succ k), HST.out.dis, HST.out.lo, HST.out.blk, HST.out.below⟩⟩, by simp only [intOf, IntKind.wrap_i64]; omega⟩
            · obtain rfl : k = l.length := by omega
              go_wp2_with fail
              go_loopw [15] (fun i wr => ∃ (k : Nat) (T : Nat → Nat → Prop), k ≤ 2 ∧ i = .int .i64 (k : Int) ∧ LawSt W lb x (fun j => k ≤ j) (l.length + 3 * k) wr T) (fun i _ => 2 - (intOf i).toNat)
              case atStart => exact ⟨0, T, by omega, rfl, hSt.flag (fun _ _ => trivial) (by omega)⟩
              case round =>
                clear hSt
                obtain ⟨k, T, hk, rfl, hSt⟩ := hrel
                by_cases hlt : k < 2
                · have c0 := hSt.cell hlt
                  have hpo := hSt.p k hlt
                  have ik : (k : Int) < 2 := by omega
                  have HST := Lib.hid hSt
                  have hlow := fun b hb => (hSt.lo k b hlt hb).1
                  have hbw := hSt.below
                  clear hSt
                  obtain ⟨xk, hxk⟩ : ∃ xk, xk = x k := ⟨_, rfl⟩
                  rw [← hxk] at c0 hpo
                  have HXK := Lib.hid hxk
                  clear hxk
                  rcases hpo with hP | ⟨hb, _⟩
                  · have hpl := play_any (k ≤ k) W wr (T k) xk _ (opK 7) hP (by omega) (opK_ok W 7 (by omega)) hbw hlow (by simp [opK]) (by simp [opK])
                    unfold pairV opV opK at hpl
                    have HPL := Lib.hid hpl
                    obtain ⟨r, q, S, D, R, cv, cs, wv, ls, hPA, _⟩ := hP
                    have d0 := hPA.blk.cell' (j := 0) rfl
                    unfold plPtr at d0
                    clear hPA hpl hlow hbw
                    go_upto_region 27 with (first
                      | (go_at_call 27; refine HPL.out.mono ?_; rintro e w3 ⟨rfl, T3, hP3, hS3⟩)
                      | fail)
                    have hSt3 := HST.out.step (fl' := fun j => k ≤ j) hlt (by rw [← HXK.out]; exact hP3) hS3 (Nat.le_succ _) (fun _ _ => rfl)
                    have hlow3 := fun b (hb : T3 b) => (hSt3.lo k b hlt (by simp only [if_pos]; exact hb)).1
                    have hpl := play_any (k ≤ k) W w3 T3 xk _ (opK 9) hP3 (by omega) (opK_ok W 9 (by omega)) hSt3.below hlow3 (by simp [opK]) (by simp [opK])
                    unfold pairV opV opK at hpl
                    have HPL3 := Lib.hid hpl
                    have c3 := hSt3.cell hlt
                    rw [← HXK.out] at c3
                    have HST3 := Lib.hid hSt3
                    clear hSt3 hpl d0 c0 hlow3 hP3 hS3
                    go_upto_region 28 with (first
                      | (go_at_call 27; refine HPL3.out.mono ?_; rintro e w4 ⟨rfl, T4, hP4, hS4⟩)
                      | fail)
                    have hSt4 := HST3.out.step (fl' := fun j => k ≤ j) (j := k) hlt (by rw [← HXK.out]; exact hP4) (by simp only [if_pos]; exact hS4) (Nat.le_succ _) (fun _ _ => rfl)
                    have how := owned_any w4 T4 xk _ (hP4.imp (fun _ => Nat.le_refl k)) (by omega)
                    unfold pairV at how
                    have HOW := Lib.hid how
                    have c4 := hSt4.cell hlt
                    rw [← HXK.out] at c4
                    have HST4 := Lib.hid hSt4
                    clear hSt4 how c3 hP4 hS4
                    go_upto_region 29 with (first
                      | (go_at_call 30; refine HOW.out.mono ?_; rintro e w5 ⟨rfl, hP5, hT5⟩)
                      | fail)
                    have hSt5 := HST4.out.step (fl' := fun j => k + 1 ≤ j) (j := k) hlt (by rw [← HXK.out]; exact hP5.imp (fun e => by omega)) (by simp only [if_pos]; exact Step.mk0 hT5) (Nat.le_refl _) (fun i hi => propext ⟨fun h => by omega, fun h => by omega⟩)
                    have hlow5 := fun b (hb : T4 b) => (hSt5.lo k b hlt (by simp only [if_pos]; exact hb)).1
                    have hpl := play_any False W w5 T4 xk _ (opK 7) hP5 (by omega) (opK_ok W 7 (by omega)) hSt5.below hlow5 (by simp [opK]) (by simp [opK])
                    unfold pairV opV opK at hpl
                    have HPL5 := Lib.hid hpl
                    have c5 := hSt5.cell hlt
                    rw [← HXK.out] at c5
                    have HST5 := Lib.hid hSt5
                    clear hSt5 hpl c4 hlow5 hP5 hT5
                    go_upto_region 30 with (first
                      | (go_at_call 27; refine HPL5.out.mono ?_; rintro e w6 ⟨rfl, T6, hP6, hS6⟩)
                      | fail)
                    have hSt6 := HST5.out.step (fl' := fun j => k + 1 ≤ j) (j := k) hlt (by rw [← HXK.out]; exact hP6.imp (fun e => by omega)) (by simp only [if_pos]; exact hS6) (Nat.le_succ _) (fun _ _ => rfl)
                    have HST6 := Lib.hid hSt6
                    clear hSt6 c5 hP6 hS6
                    go_wp2_with fail
                    exact ⟨⟨k + 1, _, by omega, by go_num, HST6.out.flag (m := l.length + 3 * (k + 1)) (fun j h => h) (by omega)⟩, by simp only [intOf, IntKind.wrap_i64]; omega⟩
                  · have d0 := hb.cell' (j := 0) rfl
                    clear hb
                    go_wp2_with fail
                    exact ⟨⟨k + 1, T, by omega, by go_num, HST.out.flag (fun j h => by omega) (by omega)⟩, by simp only [intOf, IntKind.wrap_i64]; omega⟩
                · obtain rfl : k = 2 := by omega
                  have hbw := hSt.below
                  clear hSt
                  go_wp2_with fail
                  go_ret
                  exact ⟨rfl, hbw⟩
end Go.Proofs.Ytipjngoenklioaa

-- The bounds of an integer that came in; a row whose statement bears the bound on the bulk.
namespace Go.Proofs.Ytipjngoenklioaa
open Go.RowKit Go.WideShapes Go.ChangeShapes
theorem wf_i64 {n : Int} (h : (Lit.int .i64 n).wf = true) : -9223372036854775808 ≤ n ∧ n ≤ 9223372036854775807 := by
  simp [Lit.wf, IntKind.min, IntKind.max, IntKind.signed, IntKind.bits] at h
  exact h
theorem wf_u64 {n : Int} (h : (Lit.int .u64 n).wf = true) : ∃ k : Nat, n = (k : Int) ∧ k < 18446744073709551616 := by
  simp [Lit.wf, IntKind.min, IntKind.max, IntKind.signed, IntKind.bits] at h
  exact ⟨n.toNat, by omega, by omega⟩
theorem wf_u32 {n : Int} (h : (Lit.int .u32 n).wf = true) : ∃ k : Nat, n = (k : Int) ∧ k < 4294967296 := by
  simp [Lit.wf, IntKind.min, IntKind.max, IntKind.signed, IntKind.bits] at h
  exact ⟨n.toNat, by omega, by omega⟩
end Go.Proofs.Ytipjngoenklioaa

-- An argument of type [][]byte.
namespace Go.Proofs.Ytipjngoenklioaa
open Go.RowKit Go.WideShapes Go.ChangeShapes Go.Joins Go.Deep
section
variable {H : Type} {enc : TypeId × Value → H} {W : World}
theorem cells_L : Try.prog.cellsOf 28 = 1 := by kernel_rfl
theorem weightsAll_mem {P : Program} {e : TypeId} : ∀ {l : List (DataW H)} {d : DataW H}, d ∈ l → ∀ n ∈ d.weights P e, n ∈ DataW.weightsAll P e l
  | x :: l, d, hd, n, hn => by
    simp only [DataW.weightsAll, List.mem_append]
    rcases List.mem_cons.mp hd with rfl | hd
    · exact Or.inl hn
    · exact Or.inr (weightsAll_mem hd n hn)
def rowB (Z : Nat → List Int) (L : Nat → Nat) (r : Nat) : List UInt8 := ((Z r).take (L r)).map fun z => UInt8.ofNat z.toNat
theorem rowB_len {Z : Nat → List Int} {L C : Nat → Nat} {r : Nat} (h1 : L r ≤ C r) (h2 : (Z r).length = C r) : (rowB Z L r).length = L r := by simp [rowB]; omega
/-- One row. -/
theorem rowB_rd {A : Nat → Option Addr} {L C : Nat → Nat} {Z : Nat → List Int} {r : Nat} (h1 : L r ≤ C r) (h2 : C r ≤ maxLen) (h3 : (Z r).length = C r) (h4 : ∀ n ∈ Z r, (Lit.int .u8 n).wf = true) (h5 : A r = none → C r = 0)
    (h6 : ∀ a', A r = some a' → 0 ≤ a'.block ∧ ∀ c, c < C r → W.cell? (a'.add c) = some (.int .u8 ((Z r).getD c 0))) : RdB W (.slice (A r) (L r) (C r)) (rowB Z L r) := by
  have hlen := rowB_len (Z := Z) h1 h3
  refine ⟨A r, C r, by rw [hlen], by rw [hlen]; exact h1, h2, fun j hj => ?_⟩
  rw [hlen] at hj
  have hjz : j < (Z r).length := by omega
  cases ha : A r with
  | none => have := h5 ha; omega
  | some a =>
    refine ⟨a, rfl, ?_⟩
    rw [(h6 a ha).2 j (by omega)]
    have hw := h4 _ (List.getElem_mem hjz)
    have hg : (Z r).getD j 0 = (Z r)[j] := by simp [List.getD, hjz]
    rw [hg]
    simp [Lit.wf, IntKind.min, IntKind.max, IntKind.signed, IntKind.bits] at hw
    simp [rowB]
    omega
theorem open_rowsB {base : Nat} {v : Value} {d : DataW H} {p : List MemPlace} {ts : List TypeId} {ds : List (DataW H)} {j : Nat} (hv : Value.okWide Try.prog W .any base 52 v) (h : DataW.Trod enc Try.prog W 0 (fun _ => true) true 52 v d p)
    (hsz : (DataW.weightsEach Try.prog ts ds).all (· ≤ reachBytes) = true) (ht : ts[j]? = some 52) (hd : ds[j]? = some d) :
    ∃ ls : List (List UInt8), RdL W v ls ∧ ∀ l ∈ ls, l.length ≤ 140737488351232 := by
  obtain ⟨a0, len, cap, rfl⟩ := okWide_slice Try.underlying52 hv
  obtain ⟨fuel, hf⟩ := h
  rcases open_int_rows Try.underlying52 Try.underlying28 Try.underlying5 cells_L cells_u8 hf with ⟨hcs, _⟩ | ⟨a, len', cap', A, L, C, Z, hcs, _, hl, hm, hx, hr⟩
  · simp [Value.cells] at hcs
    obtain ⟨rfl, rfl, rfl⟩ := hcs
    exact ⟨[], ⟨[], Rd.nil, rfl, fun i hi => by simp at hi⟩, by simp⟩
  · simp [Value.cells] at hcs
    obtain ⟨rfl, rfl, rfl⟩ := hcs
    simp only [Prod.mk.injEq] at hx
    obtain ⟨rfl, _⟩ := hx
    refine ⟨(List.range len).map (rowB Z L), ⟨(List.range len).map fun r => .slice (A r) (L r) (C r), ⟨by simp, some a, cap, by simp, by simp; exact hl, hm, fun k u hk => ?_⟩, by simp, fun i hi => ?_⟩, fun l hl' => ?_⟩
    · have hkl : k < len := by
        have := (List.getElem?_eq_some_iff.mp hk).1
        simpa using this
      refine ⟨a, rfl, ?_⟩
      rw [(hr k (by omega)).1]
      simpa [hkl] using hk
    · have hil : i < len := by simpa using hi
      refine ⟨.slice (A i) (L i) (C i), by simp [hil], ?_⟩
      obtain ⟨_, h1, h2, h3, h4, h5, h6⟩ := hr i (by omega)
      simpa using rowB_rd h1 h2 h3 h4 h5 h6
    · obtain ⟨r, hr1, rfl⟩ := List.mem_map.mp hl'
      have hrl : r < len := by simpa using hr1
      obtain ⟨_, h1, h2, h3, h4, h5, h6⟩ := hr r (by omega)
      rw [rowB_len h1 h3]
      cases ha : A r with
      | none => have := h5 ha; omega
      | some ar =>
        have hmem : intRow (H := H) .u8 (A r) (L r) (Z r) ∈ (List.range len).map fun r => intRow (H := H) .u8 (A r) (L r) (Z r) := List.mem_map.mpr ⟨r, hr1, rfl⟩
        have hw : ((Z r).length) * Try.prog.bytesOf 5 ∈ (intRow (H := H) .u8 (A r) (L r) (Z r)).weights Try.prog 28 := by
          rw [ha]
          simp only [intRow, DataW.weights, Try.underlying28]
          refine List.mem_cons.mpr (Or.inl ?_)
          simp only [lits, List.length_map, List.length_take, List.length_drop]
          congr 1
          omega
        have h7 := weightsAll_mem hmem _ hw
        have h8 : (Z r).length * Try.prog.bytesOf 5 ≤ reachBytes := by
          have := List.all_eq_true.1 hsz _ (DataW.weights_mem_each ht hd _ (by
            simp only [DataW.weights, Try.underlying52]
            exact List.mem_cons.mpr (Or.inr (List.mem_append.mpr (Or.inl h7)))))
          simpa using this
        rw [bytes_u8, Nat.mul_one, h3] at h8
        simp only [reachBytes] at h8
        omega
end
end Go.Proofs.Ytipjngoenklioaa

-- A law's '..UptoSaid': what the bound on the bulk gives; from the walk to the row's own form.
namespace Go.Proofs.Ytipjngoenklioaa
open Go.RowKit Go.WideShapes Go.ChangeShapes Go.Joins Go.Deep
section
variable {H : Type} {enc : TypeId × Value → H} {W : World}
theorem bulk_pos (d : DataW H) : 1 ≤ Rows.uptoBulk d := by
  cases d with
  | lit l => cases l <;> simp [Rows.uptoBulk]
  | nil => simp [Rows.uptoBulk]
  | ptr d => simp [Rows.uptoBulk]
  | slice elems spare => simp [Rows.uptoBulk]
  | agg parts => simp [Rows.uptoBulk]
  | iface t d => simp [Rows.uptoBulk]
  | map entries => simp [Rows.uptoBulk]
  | held h => simp [Rows.uptoBulk]
theorem bulk_mem {d : DataW H} : ∀ {l : List (DataW H)}, d ∈ l → Rows.uptoBulk d ≤ Rows.uptoBulkAll l
  | x :: r, h => by
    simp only [Rows.uptoBulkAll]
    rcases List.mem_cons.1 h with rfl | e
    · omega
    · have := bulk_mem e
      omega
theorem bulk_length : ∀ l : List (DataW H), l.length ≤ Rows.uptoBulkAll l
  | [] => by simp [Rows.uptoBulkAll]
  | x :: r => by
    have h1 := bulk_pos x
    have h2 := bulk_length r
    simp only [Rows.uptoBulkAll, List.length_cons]
    omega
theorem bulk_places (elems spare : List (DataW H)) : elems.length + spare.length + 1 ≤ Rows.uptoBulk (.slice elems spare) := by
  have h1 := bulk_length elems
  have h2 := bulk_length spare
  simp only [Rows.uptoBulk]
  omega
/-- An argument of type []byte, of bulk at most the bound. -/
theorem open_bytes_upto {base : Nat} {v : Value} {d : DataW H} {p : List MemPlace} {ds : List (DataW H)} {j : Nat} (hv : Value.okWide Try.prog W .any base 28 v) (h : DataW.Trod enc Try.prog W 0 (fun _ => true) true 28 v d p)
    (hk : Rows.uptoBulkAll ds ≤ 1048576) (hd : ds[j]? = some d) :
    ∃ l : List UInt8, RdB W v l ∧ l.length ≤ 1048576 := by
  obtain ⟨a0, len, cap, rfl⟩ := okWide_slice Try.underlying28 hv
  have hbd := bulk_mem (List.mem_of_getElem? hd)
  obtain ⟨fuel, hf⟩ := h
  rcases open_ints Try.underlying28 Try.underlying5 cells_u8 hf with ⟨hcs, _⟩ | ⟨a, len', cap', zs, hcs, _, hl, hm, hz, hx, hcell, hwz⟩
  · simp [Value.cells] at hcs
    obtain ⟨rfl, rfl, rfl⟩ := hcs
    exact ⟨[], RdB.nil, by simp⟩
  · simp [Value.cells] at hcs
    obtain ⟨rfl, rfl, rfl⟩ := hcs
    simp only [if_true] at hz
    simp only [Prod.mk.injEq] at hx
    obtain ⟨rfl, _⟩ := hx
    have hs := Nat.le_trans (bulk_places _ _) hbd
    simp only [lits, List.length_map, List.length_take, List.length_drop] at hs
    refine ⟨(zs.take len).map fun z => UInt8.ofNat z.toNat, ?_, by simp; omega⟩
    have hlen : ((zs.take len).map fun z => UInt8.ofNat z.toNat).length = len := by simp; omega
    refine ⟨some a, cap, by rw [hlen], by rw [hlen]; exact hl, hm, fun j hj => ⟨a, rfl, ?_⟩⟩
    rw [hlen] at hj
    rw [hcell j (by omega)]
    have hjz : j < zs.length := by omega
    have hmem : zs[j] ∈ zs := List.getElem_mem hjz
    have hw := hwz _ hmem
    have hg : zs.getD j 0 = zs[j] := by simp [List.getD, hjz]
    rw [hg]
    simp [Lit.wf, IntKind.min, IntKind.max, IntKind.signed, IntKind.bits] at hw
    simp
    omega
/-- An argument of type [][]byte, of bulk at most the bound. -/
theorem open_rows_upto {base : Nat} {v : Value} {d : DataW H} {p : List MemPlace} {ds : List (DataW H)} {j : Nat} (hv : Value.okWide Try.prog W .any base 52 v) (h : DataW.Trod enc Try.prog W 0 (fun _ => true) true 52 v d p)
    (hk : Rows.uptoBulkAll ds ≤ 1048576) (hd : ds[j]? = some d) :
    ∃ ls : List (List UInt8), RdL W v ls ∧ ls.length ≤ 1048576 ∧ ∀ l ∈ ls, l.length ≤ 1048576 := by
  obtain ⟨a0, len, cap, rfl⟩ := okWide_slice Try.underlying52 hv
  have hbd := bulk_mem (List.mem_of_getElem? hd)
  obtain ⟨fuel, hf⟩ := h
  rcases open_int_rows Try.underlying52 Try.underlying28 Try.underlying5 cells_L cells_u8 hf with ⟨hcs, _⟩ | ⟨a, len', cap', A, L, C, Z, hcs, _, hl, hm, hx, hr⟩
  · simp [Value.cells] at hcs
    obtain ⟨rfl, rfl, rfl⟩ := hcs
    exact ⟨[], ⟨[], Rd.nil, rfl, fun i hi => by simp at hi⟩, by simp, by simp⟩
  · simp [Value.cells] at hcs
    obtain ⟨rfl, rfl, rfl⟩ := hcs
    simp only [Prod.mk.injEq] at hx
    obtain ⟨rfl, _⟩ := hx
    have hs := Nat.le_trans (bulk_places _ _) hbd
    simp only [List.length_map, List.length_range] at hs
    refine ⟨(List.range len).map (rowB Z L), ⟨(List.range len).map fun r => .slice (A r) (L r) (C r), ⟨by simp, some a, cap, by simp, by simp; exact hl, hm, fun k u hk => ?_⟩, by simp, fun i hi => ?_⟩, by simp; omega, fun l hl' => ?_⟩
    · have hkl : k < len := by
        have := (List.getElem?_eq_some_iff.mp hk).1
        simpa using this
      refine ⟨a, rfl, ?_⟩
      rw [(hr k (by omega)).1]
      simpa [hkl] using hk
    · have hil : i < len := by simpa using hi
      refine ⟨.slice (A i) (L i) (C i), by simp [hil], ?_⟩
      obtain ⟨_, h1, h2, h3, h4, h5, h6⟩ := hr i (by omega)
      simpa using rowB_rd h1 h2 h3 h4 h5 h6
    · obtain ⟨r, hr1, rfl⟩ := List.mem_map.mp hl'
      have hrl : r < len := by simpa using hr1
      obtain ⟨_, h1, h2, h3, h4, h5, h6⟩ := hr r (by omega)
      rw [rowB_len h1 h3]
      cases ha : A r with
      | none => have := h5 ha; omega
      | some ar =>
        have hmem : intRow (H := H) .u8 (A r) (L r) (Z r) ∈ (List.range len).map fun r => intRow (H := H) .u8 (A r) (L r) (Z r) := List.mem_map.mpr ⟨r, hr1, rfl⟩
        have h7 := bulk_mem hmem
        simp only [Rows.uptoBulk] at hbd
        generalize Rows.uptoBulkAll ((List.range len).map fun r => intRow (H := H) .u8 (A r) (L r) (Z r)) = t at h7 hbd
        rw [ha] at h7
        simp only [intRow] at h7
        have h8 := Nat.le_trans (bulk_places _ _) h7
        simp only [lits, List.length_map, List.length_take, List.length_drop] at h8
        omega
end
theorem law_lifts_upto {H : Type} {enc : TypeId × Value → H} {C : Checked} {os : Os} {fno : FuncId} {fn : Func} {s : ChangeSpec} {conds : List PathCond} {tb : TypeId} {F : Stop.Interp}
    (own : ownKnob C.prog.godebug = none) (started : os.Started) (noInit : C.prog.inits.idxOf? fno = none) (hfn : C.prog.funcs[fno]? = some fn)
    (witness : ∃ (w : World) (tape : Tape) (i : Input), w.os = os ∧ (w.forCall tape i).Shaped C.prog ∧ i.vars = [] ∧ Input.okWide C.prog (w.forCall tape i) .any w.heap.size fno i ∧
      (Rows.OpenSpec.upto s).pre6 enc C.prog fn conds false (w.forCall tape i).memory i.args ∧ ({} : Assume).holds C.prog (lone (Frame.enter C.prog fno i.args .normal) [] (w.forCall tape i)))
    (hvars : s.vars = []) (hrt : fn.resultTypes = #[tb]) (htb : C.prog.underlying tb = some .bool) (hl : laidOutB C.prog = true)
    (hr : (fn.params.toList.all fun t => C.prog.readableRec t && decide (t < C.prog.types.size)) = true) (hs : ∀ ds : List (DataW H), ds.length = fn.params.size → s.fn H ds = { results := [.lit (.bool true)], args := ds })
    (walk : ∀ (W : World) (base : Nat) (args : Array Value) (ds : List (DataW H)) (p : List MemPlace), (∀ (j : Nat) t v, fn.params[j]? = some t → args[j]? = some v → Value.okWide C.prog W .any base t v) →
      DataW.TrodAll enc C.prog W 0 (fun _ => true) true fn.params.toList args.toList ds p → Rows.uptoBulkAll ds ≤ 1048576 →
      Calls C.prog fno args W fun e W' => e = .returned (.bool true) ∧ Below W.heap.size W W') :
    ReturnsInHanded {} C os fno .any ((Rows.OpenSpec.upto s).pre6 enc C.prog fn conds false) (((Rows.OpenSpec.upto s).at F).post enc C.prog fn false true false false) := by
  refine returnsInHanded_of_cond (s := Rows.OpenSpec.upto s) (k := Rows.uptoSmall) rfl own started noInit hfn witness ?_
  intro W base args ds gs before hval hW _ hk _
  have hW' : DataW.Whole enc C.prog fn.params.toList s.vars false W args.toList ds gs before := hW
  obtain ⟨p, q, hA, hV, _, _, _⟩ := hW
  have hV : DataW.TrodVars enc C.prog W (fun _ => true) s.vars gs q := hV
  rw [hvars] at hV
  obtain ⟨rfl, rfl⟩ := trodVars_none hV
  rw [List.append_nil] at hk
  refine (walk W base args ds p hval hA (of_decide_eq_true hk)).mono fun e W' h => ?_
  obtain ⟨rfl, hb⟩ := h
  exact ⟨_, rfl, law_post hvars hrt htb hl hr hs hW' hb⟩
end Go.Proofs.Ytipjngoenklioaa

-- Scripts over devices: an argument of type []Op, of bulk at most the bound.
namespace Go.Proofs.Ytipjngoenklioaa
open Go.RowKit Go.WideShapes Go.ChangeShapes Go.Deep
section
variable {H : Type} {enc : TypeId × Value → H} {W : World}
theorem open_ops_upto {base : Nat} {v : Value} {d : DataW H} {p : List MemPlace} {ds : List (DataW H)} {j : Nat} (hv : Value.okWide Try.prog W .any base 23 v) (h : DataW.Trod enc Try.prog W 0 (fun _ => true) true 23 v d p)
    (hk : Rows.uptoBulkAll ds ≤ 1048576) (hd : ds[j]? = some d) :
    ∃ l : List OpV, RdOps W v l ∧ l.length ≤ 1048576 ∧ ∀ o ∈ l, o.data.length ≤ 1048576 ∧ o.keep.length ≤ 1048576 := by
  obtain ⟨a0, len, cap, rfl⟩ := okWide_slice Try.underlying23 hv
  have hbd := bulk_mem (List.mem_of_getElem? hd)
  obtain ⟨fuel, hf⟩ := h
  rcases open_slice Try.underlying23 hf with ⟨hcs, _⟩ | ⟨a, len', cap', m, n, D, Pl, hcs, _, hl, hm, hmm, hx, hi⟩
  · simp [Value.cells] at hcs
    obtain ⟨rfl, rfl, rfl⟩ := hcs
    exact ⟨[], ⟨⟨none, 0, rfl, by simp, by simp, fun i hi => by simp at hi⟩, by simp⟩, by simp, by simp⟩
  · simp [Value.cells] at hcs
    obtain ⟨rfl, rfl, rfl⟩ := hcs
    simp only [if_true] at hmm
    subst hmm
    simp only [Prod.mk.injEq] at hx
    obtain ⟨rfl, _⟩ := hx
    have key : ∀ i, i < m → ∃ o : OpV, (∀ r u, o.cells[r]? = some u → W.cell? (a.add (i * 8 + r)) = some u) ∧ o.ok W ∧ ∃ y0 y1 y2 y3 y4 y5 y6 y7, D i = .agg [y0, y1, y2, y3, y4, .agg [y5, y6, y7]] ∧ ((y4 = .nil ∧ o.data = []) ∨ ∃ e s, y4 = .slice e s ∧ o.data.length ≤ e.length + s.length) ∧ ((y5 = .nil ∧ o.keep = []) ∨ ∃ e s, y5 = .slice e s ∧ o.keep.length ≤ e.length + s.length) := fun i him => by
      obtain ⟨cs', hc, ht'⟩ := hi i him
      obtain ⟨o, rfl, hok, hy⟩ := open_op ht'
      refine ⟨o, fun r u hu => ?_, hok, hy⟩
      obtain ⟨_, hcl, hat⟩ := World.cells?_some hc
      have hr : r < Try.prog.cellsOf 33 := by
        have := (List.getElem?_eq_some_iff.1 hu).1
        rw [← hcl]; exact this
      have := hat r hr
      rw [cells_Op] at this
      rw [← add_of_add, this, hu]
    obtain ⟨f, hf'⟩ := choose_lt key
    refine ⟨(List.range len).map f, ⟨⟨some a, m, by simp, by simpa using hl, hm, fun i hi' => ⟨a, rfl, ?_⟩⟩, ?_⟩, ?_, ?_⟩
    · have hil : i < len := by simpa using hi'
      simpa using (hf' i (by omega)).1
    · intro o ho
      obtain ⟨i, hi', rfl⟩ := List.mem_map.1 ho
      have := List.mem_range.1 hi'
      exact (hf' i (by omega)).2.1
    · have hs := Nat.le_trans (bulk_places _ _) hbd
      simp only [List.length_map, List.length_range] at hs
      simp only [List.length_map, List.length_range]
      omega
    · intro o ho
      obtain ⟨i, hi', rfl⟩ := List.mem_map.1 ho
      have hil := List.mem_range.1 hi'
      obtain ⟨_, _, y0, y1, y2, y3, y4, y5, y6, y7, hD, w4, w5⟩ := hf' i (by omega)
      have hmem : D i ∈ (List.range len).map D := List.mem_map.2 ⟨i, hi', rfl⟩
      have h7 := bulk_mem hmem
      simp only [Rows.uptoBulk] at hbd
      rw [hD] at h7
      simp only [Rows.uptoBulk, Rows.uptoBulkAll] at h7
      constructor
      · rcases w4 with ⟨_, e⟩ | ⟨e, s, rfl, hle⟩
        · rw [e]; simp
        · have := bulk_places e s
          omega
      · rcases w5 with ⟨_, e⟩ | ⟨e, s, rfl, hle⟩
        · rw [e]; simp
        · have := bulk_places e s
          omega
end
end Go.Proofs.Ytipjngoenklioaa

-- espalierlaw03.PlatePlays: the statement 'PlatePlaysUptoSaid' is proved: whatever the input of bulk at most 1048576, the law returns true and the input reads as it did.
namespace Go.Proofs.Ytipjngoenklioaa.platePlays
open Go.ChangeShapes Go.WideShapes Go.ChangeAt Go.RowKit
theorem own : ownKnob Try.prog.godebug = none := by kernel_rfl
theorem laidOut : laidOutB Try.prog = true := by kernel_rfl
set_option maxRecDepth 100000 in
theorem lifted (os : Os) (started : os.Started) (H : Type) (enc : TypeId × Value → H) (F : Stop.Interp) :
    ReturnsInHanded {} Try.checked os 6 .any ((Rows.OpenSpec.upto Rows.platePlaysSpec).pre6 enc Try.prog Try.f6 Rows.platePlaysUptoRow.domain false) (((Rows.OpenSpec.upto Rows.platePlaysSpec).at F).post enc Try.prog Try.f6 false true false false) := by
  refine law_lifts_upto (s := Rows.platePlaysSpec) (C := Try.checked) (tb := 4) own started (by kernel_rfl) Try.func6
    (OpenSpec.witness (enc := enc) (C := Try.checked) (s := Rows.OpenSpec.upto Rows.platePlaysSpec) (k := Rows.uptoSmall) rfl false ⟨#[], #[.int .i64 0, .int .i64 0, .slice none 0 0], []⟩ 8 (by kernel_rfl) (by kernel_rfl) (by kernel_rfl)
      (x := ([.lit (.int .i64 0), .lit (.int .i64 0), .nil], [], [])) (by kernel_rfl) rfl (by kernel_rfl))
    rfl rfl Try.underlying4 laidOut (by kernel_rfl) (fun ds hd => ?_) ?_
  · match ds, hd with
    | [d0, d1, d2], _ => rfl
  · intro W base args ds p hval0 hA0 hsz0
    have hval : ∀ (j : Nat) t v, Try.f6.params[j]? = some t → args[j]? = some v → Value.okWide Try.prog W .any base t v := hval0
    have hA : DataW.TrodAll enc Try.prog W 0 (fun _ => true) true Try.f6.params.toList args.toList ds p := hA0
    have hk : Rows.uptoBulkAll ds ≤ 1048576 := hsz0
    clear hval0 hA0 hsz0
    rw [Try.params6] at hA hval
    obtain ⟨v0, v1, v2, d0, d1, d2, p0, p1, p2, rfl, rfl, rfl, h0, h1, h2⟩ := trodAll_three hA
    obtain ⟨n0, rfl, _, _, g0⟩ := open_int Try.underlying3 (hval 0 _ v0 rfl rfl) h0
    obtain ⟨n1, rfl, _, _, g1⟩ := open_int Try.underlying3 (hval 1 _ v1 rfl rfl) h1
    obtain ⟨l, hl, hn, hs⟩ := open_ops_upto (j := 2) (hval 2 _ v2 rfl rfl) h2 hk rfl
    exact plays_any n0 n1 (wf_i64 g0) v2 l W hl hn (fun o ho => ⟨(hs o ho).2, (hs o ho).1⟩)
theorem proved : Rows.PlatePlaysUptoSaid :=
  OpenClaim.holds_of_cond 6 Try.f6 rfl rfl rfl rfl rfl rfl rfl ⟨rfl, rfl, rfl, rfl, rfl⟩ rfl rfl rfl rfl rfl (by kernel_rfl) Try.func6 (by kernel_rfl)
    (of_decide_eq_true (by kernel_rfl)) (by unfold Func.isWrapper; first | (rw [if_pos (by decide +kernel)]; kernel_rfl) | (rw [if_neg (by decide +kernel)]; exact ⟨rfl, rfl⟩))
    (fun os started H enc _ F => lifted os started H enc F)
end Go.Proofs.Ytipjngoenklioaa.platePlays
