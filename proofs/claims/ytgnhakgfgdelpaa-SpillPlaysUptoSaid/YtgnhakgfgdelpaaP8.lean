/- Texts joined: espalierref09.Decode; espalierref03.Turned; espalierref03.Book; espalierref03.Book; Pieces of memory; espalierref03.Lent, AsLent -/
import Derived.Test.YtgnhakgfgdelpaaP2
import Derived.Test.YtgnhakgfgdelpaaP3
import Derived.Test.YtgnhakgfgdelpaaP4
import Derived.Test.YtgnhakgfgdelpaaP5
import Derived.Test.YtgnhakgfgdelpaaP7
import Derived.Deep.CutRange
import Derived.Laws.BitsAllLaws
import Derived.Deep.DeepCutAuto
import Derived.Deep.QuietTactic
import Derived.BigQuiet
import Derived.Deep.RegionHeld3
-- espalierref09.Decode: the walk.
namespace Go.Proofs.Ytgnhakgfgdelpaa
open Go.RowKit
set_option maxRecDepth 100000 in
set_option maxHeartbeats 8000000 in
theorem RSDecode_any (v : Value) (b : List UInt8) (w : World) (hv : RdB w v b) : Calls Try.prog 19 #[v] w (SDecAt w b) := by
  obtain ⟨A, c, rfl, hm⟩ := hv.form
  have hPa := fun W => IsPage_any (b.length : Int) W
  cases hp : isPowB (b.length : Int) with
  | false =>
    have HN : Hid (decS b = none) := by show _ = _; unfold decS; rw [if_neg (by rw [hp]; simp)]
    rw [hp] at hPa
    clear hp
    go_enter Try.func19, Try.ntmps19
    go_wp2_with (first | (go_at_call 34; (with_reducible refine (hPa _).mono ?_); rintro e w1 ⟨rfl, rfl⟩) | fail)
    go_ret3
    exact SDecAt.bad HN.out (Below.refl _ _)
  | true =>
    obtain ⟨hP1, hP2⟩ := isPowB_range hp
    have hb1 : 512 ≤ b.length := by omega
    have hb2 : b.length ≤ 65536 := by omega
    have hD : decS b = if numAt b 8 4 + 16 ≤ b.length ∧ spZ ((numAt b 4 4 : Nat) : Int) ((b.drop 12).take (numAt b 8 4)) (b.length : Int) = 0 ∧ laidS ((numAt b 4 4 : Nat) : Int) ((b.drop 12).take (numAt b 8 4)) b.length = b then some (((numAt b 4 4 : Nat) : Int), (b.drop 12).take (numAt b 8 4)) else none := by
      unfold decS; rw [hp]; simp
    rw [hp] at hPa
    clear hp
    have hN1 : Calls Try.prog 40 #[.slice A b.length c, .int .i64 4, .int .i64 4] w fun e w' => e = .returned (.tuple #[.int .u64 (numAt b 4 4 : Nat), .int .i64 0]) ∧ w = w' := RReadFixed_any (.slice A b.length c) b 4 4 (by omega) (by omega) (by omega) w hv
    have hN2 : Calls Try.prog 40 #[.slice A b.length c, .int .i64 8, .int .i64 4] w fun e w' => e = .returned (.tuple #[.int .u64 (numAt b 8 4 : Nat), .int .i64 0]) ∧ w = w' := RReadFixed_any (.slice A b.length c) b 8 4 (by omega) (by omega) (by omega) w hv
    have hl1 := num4_lt b 4
    have hl2 := num4_lt b 8
    generalize numAt b 4 4 = x at *
    generalize numAt b 8 4 = n at *
    have w1 : IntKind.i64.wrap (x : Int) = (x : Int) := by rw [IntKind.wrap_i64]; omega
    have w2 : IntKind.i64.wrap (n : Int) = (n : Int) := by rw [IntKind.wrap_i64]; omega
    have w3 : IntKind.i64.wrap ((b.length : Int) - 16) = (b.length : Int) - 16 := by rw [IntKind.wrap_i64]; omega
    have w4 : IntKind.i64.wrap (12 + (n : Int)) = 12 + (n : Int) := by rw [IntKind.wrap_i64]; omega
    have HD := Lib.hid hD
    clear hD
    by_cases h1 : n + 16 ≤ b.length
    · have i1 : ¬ (b.length : Int) - 16 < (n : Int) := by omega
      have i2 : (12 : Int) ≤ 12 + (n : Int) := by omega
      have i3 : (12 : Int) + (n : Int) ≤ (b.length : Int) := by omega
      have i4 : (12 : Int) ≤ (b.length : Int) := by omega
      have hdl : ((b.drop 12).take n).length = n := by rw [List.length_take, List.length_drop]; omega
      obtain ⟨A2, c2, q2', hr2⟩ := hv.run_lh 12 (12 + n) (by omega) (by omega)
      rw [show (b.take (12 + n)).drop 12 = (b.drop 12).take n by rw [List.drop_take, show 12 + n - 12 = n by omega]] at hr2
      rw [show 12 + n - 12 = n by omega] at q2' hr2
      have q2 : ∀ w', (Instr.slice 25 (.slice A b.length c) (some (.int .i64 12)) (some (.int .i64 (12 + (n : Int)))) none).run Try.prog w' = .ok (.slice A2 n c2) w' := fun w' => q2' w'
      clear q2'
      have HDL := Lib.hid hdl
      generalize (b.drop 12).take n = d at *
      have hE := fun (W : World) (u : Value) (hu : RdB W u d) => RSEncode_any (x : Int) u d (b.length : Int) W hu
      have hpl : spL (x : Int) d (b.length : Int) = if spZ (x : Int) d (b.length : Int) = 0 then laidS (x : Int) d b.length else [] := by unfold spL; rfl
      by_cases hz : spZ (x : Int) d (b.length : Int) = 0
      · rw [if_pos hz] at hpl
        rw [hz, hpl] at hE
        by_cases heq : laidS (x : Int) d b.length = b
        · have HS : Hid (decS b = some ((x : Int), d)) := by show _ = _; rw [HD.out, if_pos ⟨h1, hz, heq⟩]
          rw [heq] at hE
          clear HD hz hpl heq
          go_enter Try.func19, Try.ntmps19
          go_upto_region 11 with (first
            | (go_at_call 34; (with_reducible refine (hPa _).mono ?_); rintro e w1 ⟨rfl, rfl⟩)
            | (go_at_call 40; (with_reducible refine hN1.mono ?_); rintro e w1 ⟨rfl, rfl⟩)
            | (go_at_call 40; (with_reducible refine hN2.mono ?_); rintro e w1 ⟨rfl, rfl⟩)
            | (at_builtin; refine wp_append_B rfl _ (.tmp 39) rfl _ _ [] rfl (OwB.nil _ _) _ d rfl hr2 (by rw [HDL.out, List.length_nil]; omega) (Nat.le_refl _) ?_; intro u3 w3 ho3 hg3 hk3; have hB3 := (Below.refl _ _).grown hg3 (Nat.le_refl _) (fun q hq => by cases hq); rw [List.nil_append] at ho3)
            | (go_at_call 12; (with_reducible refine (hE _ _ ho3.rd).mono ?_); rintro e w4 ⟨u4, rfl, ho4, hB4⟩)
            | fail)
          have s1 := run_B_string ho4.rd
          have s2 := run_B_string ((hv.below hB3 (Nat.le_refl _)).below hB4 (Nat.le_refl _))
          go_wp2_with fail
          go_ret3
          obtain ⟨k1, k2, k3⟩ := dec_some HS.out
          exact ⟨u3, by rw [k1, k3]; first | done | rfl, by rw [k2]; exact Own.below' ho3 hB4 (Nat.le_refl _), hB3.trans (hB4.mono hB3.size)⟩
        · have HN : Hid (decS b = none) := by show _ = _; rw [HD.out, if_neg (fun h => heq h.2.2)]
          have hbe : (laidS (x : Int) d b.length == b) = false := beq_eq_false_iff_ne.2 heq
          generalize laidS (x : Int) d b.length = l2 at *
          clear HD hz hpl
          go_enter Try.func19, Try.ntmps19
          go_upto_region 11 with (first
            | (go_at_call 34; (with_reducible refine (hPa _).mono ?_); rintro e w1 ⟨rfl, rfl⟩)
            | (go_at_call 40; (with_reducible refine hN1.mono ?_); rintro e w1 ⟨rfl, rfl⟩)
            | (go_at_call 40; (with_reducible refine hN2.mono ?_); rintro e w1 ⟨rfl, rfl⟩)
            | (at_builtin; refine wp_append_B rfl _ (.tmp 39) rfl _ _ [] rfl (OwB.nil _ _) _ d rfl hr2 (by rw [HDL.out, List.length_nil]; omega) (Nat.le_refl _) ?_; intro u3 w3 ho3 hg3 hk3; have hB3 := (Below.refl _ _).grown hg3 (Nat.le_refl _) (fun q hq => by cases hq); rw [List.nil_append] at ho3)
            | (go_at_call 12; (with_reducible refine (hE _ _ ho3.rd).mono ?_); rintro e w4 ⟨u4, rfl, ho4, hB4⟩)
            | fail)
          have s1 := run_B_string ho4.rd
          have s2 := run_B_string ((hv.below hB3 (Nat.le_refl _)).below hB4 (Nat.le_refl _))
          go_wp2_with fail
          go_ret3
          exact SDecAt.bad HN.out (hB3.trans (hB4.mono hB3.size))
      · have HN : Hid (decS b = none) := by show _ = _; rw [HD.out, if_neg (fun h => hz h.2.1)]
        have e1 : (spZ (x : Int) d (b.length : Int) != 0) = true := by simp only [bne, beq_eq_false_iff_ne.2 hz]; rfl
        generalize spZ (x : Int) d (b.length : Int) = z at *
        clear HD hz hpl
        go_enter Try.func19, Try.ntmps19
        go_wp2_with (first
            | (go_at_call 34; (with_reducible refine (hPa _).mono ?_); rintro e w1 ⟨rfl, rfl⟩)
            | (go_at_call 40; (with_reducible refine hN1.mono ?_); rintro e w1 ⟨rfl, rfl⟩)
            | (go_at_call 40; (with_reducible refine hN2.mono ?_); rintro e w1 ⟨rfl, rfl⟩)
            | (at_builtin; refine wp_append_B rfl _ (.tmp 39) rfl _ _ [] rfl (OwB.nil _ _) _ d rfl hr2 (by rw [HDL.out, List.length_nil]; omega) (Nat.le_refl _) ?_; intro u3 w3 ho3 hg3 hk3; have hB3 := (Below.refl _ _).grown hg3 (Nat.le_refl _) (fun q hq => by cases hq); rw [List.nil_append] at ho3)
            | (go_at_call 12; (with_reducible refine (hE _ _ ho3.rd).mono ?_); rintro e w4 ⟨u4, rfl, ho4, hB4⟩)
            | fail)
        go_ret3
        exact SDecAt.bad HN.out (hB3.trans (hB4.mono hB3.size))
    · have i1 : (b.length : Int) - 16 < (n : Int) := by omega
      have HN : Hid (decS b = none) := by show _ = _; rw [HD.out, if_neg (fun h => h1 h.1)]
      clear HD
      go_enter Try.func19, Try.ntmps19
      go_wp2_with (first
            | (go_at_call 34; (with_reducible refine (hPa _).mono ?_); rintro e w1 ⟨rfl, rfl⟩)
            | (go_at_call 40; (with_reducible refine hN1.mono ?_); rintro e w1 ⟨rfl, rfl⟩)
            | (go_at_call 40; (with_reducible refine hN2.mono ?_); rintro e w1 ⟨rfl, rfl⟩)
            | fail)
      go_ret3
      exact SDecAt.bad HN.out (Below.refl _ _)
end Go.Proofs.Ytgnhakgfgdelpaa

-- espalierref03.Turned: the walk.
namespace Go.Proofs.Ytgnhakgfgdelpaa
open Go.RowKit
def turnedF (l : List UInt8) : List UInt8 := (l.map fun x => x ^^^ 1).reverse
theorem turnedF_length (l : List UInt8) : (turnedF l).length = l.length := by simp [turnedF]
theorem u8_xor1 (x : UInt8) : bits .xor .u8 (x.toNat : Int) 1 = ((x ^^^ 1).toNat : Int) := by
  have h := u8_xor_nat x.toNat 1 x.toNat_lt (by omega)
  rw [UInt8.toNat_xor]
  exact h
theorem turned_next (l : List UInt8) (j : Nat) (hj : j < l.length) : (turnedF l).take (j + 1) = (turnedF l).take j ++ [l[l.length - 1 - j] ^^^ 1] := by
  rw [List.take_succ_eq_append_getElem (by rw [turnedF_length]; exact hj)]
  congr 2
  unfold turnedF
  rw [List.getElem_reverse, List.getElem_map]
  congr 2
  simp
theorem turned_next2 (l : List UInt8) (j k : Nat) (hj : j < l.length) (hk : k = l.length - 1 - j) (hk2 : k < l.length) : (turnedF l).take (j + 1) = (turnedF l).take j ++ [l[k] ^^^ 1] := by
  subst hk; exact turned_next l j hj
set_option maxRecDepth 100000 in
set_option maxHeartbeats 2000000 in
theorem Turned_any (v : Value) (l : List UInt8) (w : World) (hv : RdB w v l) (hl : l.length ≤ 140737488355328) :
    Calls Try.prog 13 #[v] w fun e w' => ∃ u, e = .returned u ∧ OwB w' w.heap.size u (turnedF l) ∧ Below w.heap.size w w' := by
  obtain ⟨A, c, rfl, hm⟩ := hv.form
  go_enter Try.func13, Try.ntmps13
  have ewl : IntKind.i64.wrap ((l.length : Int) - 1) = (l.length : Int) - 1 := by rw [IntKind.wrap_i64]; omega
  go_upto_region 3 with (fail)
  go_loopw [3, 4] (fun u i wr => ∃ j : Nat, j ≤ l.length ∧ i = .int .i64 ((l.length : Int) - 1 - (j : Int)) ∧ OwB wr w.heap.size u ((turnedF l).take j) ∧ Below w.heap.size w wr) (fun _ i _ => ((intOf i) + 1).toNat)
  case atStart => exact ⟨0, Nat.zero_le _, by simp, by rw [List.take_zero]; exact OwB.nil _ _, Below.refl _ _⟩
  case round =>
    obtain ⟨j, hj, rfl, ho, hB⟩ := hrel
    by_cases hlt : j < l.length
    · have i1 : (0 : Int) ≤ (l.length : Int) - 1 - (j : Int) := by omega
      obtain ⟨k, hk⟩ : ∃ k : Nat, k = l.length - 1 - j := ⟨_, rfl⟩
      have hkl : k < l.length := by omega
      have ik : (l.length : Int) - 1 - (j : Int) = (k : Int) := by omega
      have HT := Lib.hid (turned_next2 l j k hlt hk hkl)
      have hvr := hv.below hB (Nat.le_refl _)
      obtain ⟨ad, rfl, hcell⟩ := hvr.at_ hkl
      have htl : ((turnedF l).take j).length + 1 ≤ 140737488355328 := by rw [List.length_take]; omega
      have i2 : (k : Int) < (l.length : Int) := by omega
      have ew2 : IntKind.i64.wrap ((k : Int) - 1) = (k : Int) - 1 := by rw [IntKind.wrap_i64]; omega
      rw [ik]
      clear i1
      generalize hxd : l[k] = x at *
      have hu := u8_xor1 x
      have HIK := Lib.hid ik
      clear hxd hk ik
      have i1 : (0 : Int) ≤ (k : Int) := by omega
      go_wp2_with (first
        | (at_builtin; refine wp_append_B1 rfl (.tmp 12) (.tmp 18) rfl w.heap.size _ _ rfl ho (x ^^^ 1) _ (by first | rfl | simp) _ rfl htl hB.size ?_; intro u2 w2 ho2 hg2 hb2)
        | fail)
      go_roundw
      case rel => exact ⟨j + 1, by omega, by rw [show (l.length : Int) - 1 - ((j + 1 : Nat) : Int) = (k : Int) - 1 by have := HIK.out; omega], by rw [HT.out]; exact ho2, hB.grown hg2 hB.size (fun q hq => (Own.lt ho q hq).1)⟩
      case measure => first | (simp [intOf]; done) | (have := HIK.out; simp [intOf]; omega)
    · obtain rfl : j = l.length := by omega
      have i1 : ¬ (0 : Int) ≤ (l.length : Int) - 1 - (l.length : Int) := by omega
      have e1 : (turnedF l).take l.length = turnedF l := List.take_of_length_le (by rw [turnedF_length]; exact Nat.le_refl _)
      rw [e1] at ho
      clear e1
      go_wp2_with fail
      go_ret
      exact ⟨_, rfl, ho, hB⟩
end Go.Proofs.Ytgnhakgfgdelpaa

-- espalierref03.Book: lists of bytes that came out: words and laws.
namespace Go.Proofs.Ytgnhakgfgdelpaa
open Go.RowKit
/-- The mark of a byte: of list k, at place q. -/
def mrk (k q : Nat) : UInt8 := UInt8.ofNat (k + q / 251)
theorem mrk_val (k q : Nat) : ((k : Int) + (q : Int) / 251) % 256 = ((mrk k q).toNat : Int) := by
  unfold mrk; rw [UInt8.toNat_ofNat']; omega
def mkL (k m : Nat) : List UInt8 := (List.range m).map (mrk k)
theorem mkL_length (k m : Nat) : (mkL k m).length = m := by simp [mkL]
theorem mkL_snoc (k m : Nat) : mkL k (m + 1) = mkL k m ++ [mrk k m] := by simp [mkL, List.range_succ]
theorem mkL_take (k : Nat) {m n : Nat} (h : m ≤ n) : (mkL k n).take m = mkL k m := by
  unfold mkL
  rw [← List.map_take, List.take_range, Nat.min_eq_left h]
theorem mkL_get (k m q : Nat) (h : q < (mkL k m).length) : (mkL k m)[q] = mrk k q := by simp [mkL]
def OwLs (w : World) (base : Nat) (vs : List Value) (f : Nat → List UInt8) : Prop := ∀ (j : Nat) (u : Value), vs[j]? = some u → OwB w base u (f j)
def ApartL (vs : List Value) : Prop := ∀ (i j : Nat) (u u' : Value), i ≠ j → vs[i]? = some u → vs[j]? = some u' → ∀ g, u.ownBlock = some g → some g ≠ u'.ownBlock
theorem OwLs.grown {w w' : World} {base : Nat} {vs : List Value} {f : Nat → List UInt8} {row : Option Nat} (h : OwLs w base vs f) (hg : w.grownBy w' row) (hne : ∀ (j : Nat) (u : Value), vs[j]? = some u → ∀ g, u.ownBlock = some g → some g ≠ row) : OwLs w' base vs f :=
  fun j u hj => (h j u hj).grown hg (hne j u hj)
theorem OwLs.below' {w w' : World} {base B : Nat} {vs : List Value} {f : Nat → List UInt8} (h : OwLs w base vs f) (hb : Below B w w') (hB : w.heap.size ≤ B) : OwLs w' base vs f := fun j u hj => (h j u hj).below' hb hB
theorem OwLs.alloc {w : World} {base : Nat} {vs : List Value} {f : Nat → List UInt8} (h : OwLs w base vs f) (o : Obj) : OwLs (w.alloc o) base vs f := fun j u hj => (h j u hj).alloc o
/-- One byte of one of them is written. -/
theorem OwLs.set {w : World} {base : Nat} {vs : List Value} {f : Nat → List UInt8} (h : OwLs w base vs f) (ha : ApartL vs) {i g n c : Nat} (hi : vs[i]? = some (.slice (some ⟨g, 0, none⟩) n c)) (j : Nat) (x : UInt8) {f' : Nat → List UInt8} (hf : f' i = (f i).set j x) (hf' : ∀ k, k ≠ i → f' k = f k) :
    OwLs (w.setCell ⟨g, j, none⟩ (.int .u8 (x.toNat : Int))) base vs f' := by
  intro k u hk
  by_cases e : k = i
  · subst e
    rw [hi] at hk
    injection hk with hk
    subst hk
    rw [hf]
    exact (h k _ hi).set j x
  · rw [hf' k e]
    exact (h k u hk).grown (grownBy_setCell w _ _) (fun g' hg' => by
      have := ha k i u _ e hk hi g' hg'
      simpa [Value.ownBlock] using this)
/-- The slice e holds the marks of list b; where it lies in x's block it is no longer than n, and b is x's list. -/
def EOk (w : World) (base : Nat) (x : Value) (n : Nat) (bx : Nat) (e : Value) (m b : Nat) : Prop := OwB w base e (mkL b m) ∧ (∀ g, e.ownBlock = some g → x.ownBlock = some g → m ≤ n ∧ b = bx)
/-- What an append to x leaves of e. -/
theorem EOk.step {w w' : World} {base n s : Nat} {x x' e : Value} {bx m b : Nat} (h : EOk w base x n bx e m b) (hx : OwB w base x (mkL bx n)) (hx' : OwB w' base x (mkL bx n)) (hg : w.grownBy w' x.ownBlock)
    (hb : x'.ownBlock = x.ownBlock ∨ x'.ownBlock = some s) (hs : w.heap.size ≤ s) : EOk w' base x' (n + 1) bx e m b := by
  obtain ⟨ho, hm⟩ := h
  have hnew : ∀ g, e.ownBlock = some g → x'.ownBlock = some g → m ≤ n + 1 ∧ b = bx := by
    intro g he hxe
    rcases hb with hb | hb
    · rw [hb] at hxe
      have := hm g he hxe
      exact ⟨by omega, this.2⟩
    · rw [hb] at hxe
      injection hxe with hxe
      have := (ho.lt g he).2; omega
  refine ⟨?_, hnew⟩
  by_cases hsame : ∃ g, e.ownBlock = some g ∧ x.ownBlock = some g
  · obtain ⟨g, he, hxg⟩ := hsame
    obtain ⟨hmn, rfl⟩ := hm g he hxg
    rcases ho.form with ⟨rfl, _⟩ | ⟨g1, c1, rfl, _⟩
    · cases he
    rcases hx.form with ⟨rfl, _⟩ | ⟨g2, c2, rfl, _⟩
    · cases hxg
    simp [Value.ownBlock] at he hxg
    subst he; subst hxg
    have hc := ho.cap_eq hx
    subst hc
    have := hx'.take (m := m) (by rw [mkL_length]; exact hmn)
    rw [mkL_take _ hmn] at this
    rw [mkL_length]
    exact this
  · exact ho.grown hg (fun g he hr => hsame ⟨g, he, hr.symm⟩)
theorem EOk.grown {w w' : World} {base n : Nat} {x e : Value} {bx m b : Nat} {row : Option Nat} (h : EOk w base x n bx e m b) (hg : w.grownBy w' row) (hne : ∀ g, e.ownBlock = some g → some g ≠ row) : EOk w' base x n bx e m b :=
  ⟨h.1.grown hg hne, h.2⟩
/-- Another slice comes into x's place: one in another block. -/
theorem EOk.fresh {w : World} {base n n' : Nat} {x y e : Value} {bx by' m b : Nat} (h : EOk w base x n bx e m b) (hne : ∀ g, e.ownBlock = some g → y.ownBlock ≠ some g) : EOk w base y n' by' e m b :=
  ⟨h.1, fun g he hy => absurd hy (hne g he)⟩
theorem OwB.ne_own' {w : World} {b b' : Nat} {u v : Value} {l : List UInt8} {n : Nat} {vs : List Value} (h : OwB w b u l) (h' : Own w b' 25 1 v n vs) : ∀ g, u.ownBlock = some g → some g ≠ v.ownBlock :=
  fun _ hg he => h.ne_own h' he.symm hg.symm
/-- How many of the first q are kept. -/
def cntQ (q : Nat) : Nat := min q 3 + (if 8 < q then 1 else 0) + (if 19 < q then 1 else 0)
def keptQ (q : Nat) : Bool := decide (q < 3 ∨ q = 8 ∨ q = 19)
theorem cntQ_keep {q : Nat} (h : keptQ q = true) : cntQ (q + 1) = cntQ q + 1 ∧ cntQ q < 5 := by
  have h := of_decide_eq_true h
  unfold cntQ
  rcases h with h | rfl | rfl
  · rw [if_neg (by omega), if_neg (by omega), if_neg (by omega), if_neg (by omega)]; omega
  · decide
  · decide
theorem cntQ_drop {q : Nat} (h : keptQ q = false) (hq : q < 20) : cntQ (q + 1) = cntQ q := by
  have h := of_decide_eq_false h
  unfold cntQ
  by_cases h1 : 8 < q
  · rw [if_pos (by omega), if_pos h1, if_neg (by omega), if_neg (by omega)]; omega
  · rw [if_neg (by omega), if_neg h1, if_neg (by omega), if_neg (by omega)]; omega
/-- Where the growing of slice k stands. -/
structure InvQ (F : Nat → Prop) (w : World) (s2 base : Nat) (vs : List Value) (f : Nat → List UInt8) (v : Value) (k q : Nat) (gr x : Value) (es : List Value) (wi : World) : Prop where
  len : es.length = 5 * k + cntQ q
  own : Own wi s2 25 1 gr es.length es
  ox : OwB wi base x (mkL k ((f k).length + q))
  hE : ∀ (j : Nat) (e : Value), es[j]? = some e → (∃ m, EOk wi base x ((f k).length + q) k e m (j / 5)) ∧ ∀ (i : Nat) (u : Value), k < i → vs[i]? = some u → ∀ g, e.ownBlock = some g → u.ownBlock ≠ some g
  hk : ∀ (u : Value), vs[k]? = some u → EOk wi base x ((f k).length + q) k u (f k).length k
  hx : ∀ (i : Nat) (u : Value), i ≠ k → vs[i]? = some u → ∀ g, x.ownBlock = some g → u.ownBlock ≠ some g
  hv : Own wi base 25 1 v vs.length vs
  hl : ∀ (j : Nat) (u : Value), j ≠ k → vs[j]? = some u → OwB wi base u (mkL j (f j).length)
  hs : ∀ (j : Nat) (u : Value), vs[j]? = some u → ∀ g, u.ownBlock = some g → g < s2
  ht : Turn F w wi
  hxF : ∀ g, x.ownBlock = some g → F g ∨ w.heap.size ≤ g
  s2w : w.heap.size ≤ s2
  size : s2 ≤ wi.heap.size
section
variable {F : Nat → Prop} {w wi w3 w4 : World} {s2 base : Nat} {vs : List Value} {f : Nat → List UInt8} {v : Value} {k q : Nat} {gr x x3 gr4 : Value} {es : List Value}
/-- A byte is put behind x. -/
theorem InvQ.grow (h : InvQ F w s2 base vs f v k q gr x es wi)
    (ho3 : OwB w3 base x3 (mkL k ((f k).length + q) ++ [mrk k ((f k).length + q)])) (hg3 : wi.grownBy w3 x.ownBlock) (hb3 : x3.ownBlock = x.ownBlock ∨ x3.ownBlock = some (wi.heap.size + 1)) (hk3 : OwB w3 base x (mkL k ((f k).length + q)))
    (hq : es.length = 5 * k + cntQ (q + 1) ∨ es.length = 5 * k + cntQ q) :
    Own w3 s2 25 1 gr es.length es ∧ OwB w3 base x3 (mkL k ((f k).length + (q + 1))) ∧
    (∀ (j : Nat) (e : Value), es[j]? = some e → (∃ m, EOk w3 base x3 ((f k).length + (q + 1)) k e m (j / 5)) ∧ ∀ (i : Nat) (u : Value), k < i → vs[i]? = some u → ∀ g, e.ownBlock = some g → u.ownBlock ≠ some g) ∧
    (∀ (u : Value), vs[k]? = some u → EOk w3 base x3 ((f k).length + (q + 1)) k u (f k).length k) ∧
    (∀ (i : Nat) (u : Value), i ≠ k → vs[i]? = some u → ∀ g, x3.ownBlock = some g → u.ownBlock ≠ some g) ∧
    Own w3 base 25 1 v vs.length vs ∧ (∀ (j : Nat) (u : Value), j ≠ k → vs[j]? = some u → OwB w3 base u (mkL j (f j).length)) ∧ Turn F w w3 ∧ (∀ g, x3.ownBlock = some g → F g ∨ w.heap.size ≤ g) ∧ s2 ≤ w3.heap.size := by
  have hgr3 : Own w3 s2 25 1 gr es.length es := h.own.grown hg3 (fun g hg => h.ox.ne_own h.own hg)
  rw [← mkL_snoc, Nat.add_assoc] at ho3
  have hsz := h.ht.size
  have s3 := hg3.size
  have hz := h.size
  refine ⟨hgr3, ho3, fun j e hj => ?_, fun u hu => ?_, ?_, h.hv.grown hg3 (fun g hg => h.ox.ne_own h.hv hg), fun j u hj hu => (h.hl j u hj hu).grown hg3 (fun g hg he => h.hx j u hj hu g he.symm hg), h.ht.grown hg3 (fun g hg => h.hxF g hg), fun g hg => ?_, by omega⟩
  · obtain ⟨⟨m, he⟩, hne⟩ := h.hE j e hj
    exact ⟨⟨m, he.step h.ox hk3 hg3 hb3 (by omega)⟩, hne⟩
  · exact (h.hk u hu).step h.ox hk3 hg3 hb3 (by omega)
  · intro i u hi hu g hg hu'
    rcases hb3 with e | e
    · exact h.hx i u hi hu g (e ▸ hg) hu'
    · rw [e] at hg
      injection hg with hg
      have := h.hs i u hu g hu'
      omega
  · rcases hb3 with e | e
    · exact h.hxF g (e ▸ hg)
    · rw [e] at hg
      injection hg with hg
      right; omega
/-- .. and it is not kept. -/
theorem InvQ.drop (h : InvQ F w s2 base vs f v k q gr x es wi) (hq : q < 20) (hk : keptQ q = false)
    (ho3 : OwB w3 base x3 (mkL k ((f k).length + q) ++ [mrk k ((f k).length + q)])) (hg3 : wi.grownBy w3 x.ownBlock) (hb3 : x3.ownBlock = x.ownBlock ∨ x3.ownBlock = some (wi.heap.size + 1)) (hk3 : OwB w3 base x (mkL k ((f k).length + q))) :
    InvQ F w s2 base vs f v k (q + 1) gr x3 es w3 := by
  have hlen := h.len
  have hc := cntQ_drop hk hq
  obtain ⟨h1, h2, h3, h4, h5, h6, h7, h8, h8', h9⟩ := h.grow ho3 hg3 hb3 hk3 (.inr hlen)
  exact ⟨by rw [hc]; exact hlen, h1, h2, h3, h4, h5, h6, h7, h.hs, h8, h8', h.s2w, h9⟩
/-- .. and it is kept. -/
theorem InvQ.step (h : InvQ F w s2 base vs f v k q gr x es wi) (hk : keptQ q = true)
    (hV : ∀ g, v.ownBlock = some g → g < s2)
    (ho3 : OwB w3 base x3 (mkL k ((f k).length + q) ++ [mrk k ((f k).length + q)])) (hg3 : wi.grownBy w3 x.ownBlock) (hb3 : x3.ownBlock = x.ownBlock ∨ x3.ownBlock = some (wi.heap.size + 1)) (hk3 : OwB w3 base x (mkL k ((f k).length + q)))
    (hgr4 : Own w4 s2 25 1 gr4 (es.length + 1) (es ++ [x3])) (hg4 : w3.grownBy w4 gr.ownBlock) : InvQ F w s2 base vs f v k (q + 1) gr4 x3 (es ++ [x3]) w4 := by
  have hlen := h.len
  obtain ⟨hc, hc5⟩ := cntQ_keep hk
  obtain ⟨hgr3, ho, h3, h4, h5, h6, h7, h8, h8', h9⟩ := h.grow ho3 hg3 hb3 hk3 (.inr hlen)
  have ho4 := ho.grown hg4 (ho.ne_own' hgr3)
  have s4 := hg4.size
  have hsz := h8.size
  have hne : ∀ {u : Value} {l : List UInt8}, OwB w3 base u l → ∀ g, u.ownBlock = some g → some g ≠ gr.ownBlock := fun hu => OwB.ne_own' hu hgr3
  refine ⟨by simp [hlen, hc]; omega, by simpa using hgr4, ho4, ?_, fun u hu => (h4 u hu).grown hg4 (hne (h4 u hu).1), h5, ?_, fun j u hj hu => (h7 j u hj hu).grown hg4 (hne (h7 j u hj hu)), h.hs, ?_, h8', h.s2w, by omega⟩
  · intro j e hj
    rcases Nat.lt_or_ge j es.length with hlt | hge
    · rw [List.getElem?_append_left hlt] at hj
      obtain ⟨⟨m, he⟩, hn⟩ := h3 j e hj
      exact ⟨⟨m, he.grown hg4 (hne he.1)⟩, hn⟩
    · rw [List.getElem?_append_right hge] at hj
      have hj0 : j = es.length := by
        have := (List.getElem?_eq_some_iff.mp hj).1
        simp at this; omega
      subst hj0
      simp at hj
      subst hj
      have hd : es.length / 5 = k := by rw [hlen]; omega
      rw [hd]
      exact ⟨⟨_, ho4, fun g _ _ => ⟨Nat.le_refl _, rfl⟩⟩, fun i u hi hu => h5 i u (by omega) hu⟩
  · refine h6.grown hg4 (fun g hg he => ?_)
    have h1 := hV g hg
    have h2 := (hgr3.lt g he.symm).1
    omega
  · refine h8.grown hg4 (fun g hg => ?_)
    have h1 := (hgr3.lt g hg).1
    have h2 := h.s2w
    right; omega
end
theorem InvQ.gr3 {F : Nat → Prop} {w wi : World} {s2 base : Nat} {vs : List Value} {f : Nat → List UInt8} {v : Value} {k q : Nat} {gr x : Value} {es : List Value} (h : InvQ F w s2 base vs f v k q gr x es wi) :
    ∀ w3, wi.grownBy w3 x.ownBlock → Own w3 s2 25 1 gr es.length es := fun _ hg => h.own.grown hg (fun _ hg => h.ox.ne_own h.own hg)
theorem OwB.one {w : World} {b : Nat} {u : Value} {l : List UInt8} (h : OwB w b u l) : u.oneCell' = true := by
  rcases h.form with ⟨rfl, _⟩ | ⟨g, c, rfl, _⟩ <;> rfl
theorem OwB.slice' {w : World} {b n : Nat} {u : Value} {l : List UInt8} (h : OwB w b u l) (hn : l.length = n) : ∃ A c, u = .slice A n c := by
  subst hn; exact Own.slice h
def markF (f : Nat → List UInt8) (k : Nat) (j : Nat) : List UInt8 := bif decide (j < k) then mkL j (f j).length else f j
def markQ (f : Nat → List UInt8) (k q : Nat) (j : Nat) : List UInt8 := bif decide (j = k) then mkL k q ++ (f k).drop q else markF f k j
theorem markQ_0 (f : Nat → List UInt8) (k j : Nat) : markQ f k 0 j = markF f k j := by
  unfold markQ markF
  by_cases h : j = k <;> simp [h, mkL]
theorem markQ_n (f : Nat → List UInt8) (k j : Nat) : markQ f k (f k).length j = markF f (k + 1) j := by
  unfold markQ markF
  by_cases h : j = k
  · simp [h]
  · by_cases h2 : j < k
    · have : j < k + 1 := by omega
      simp [h, h2, this]
    · have : ¬ j < k + 1 := by omega
      simp [h, h2, this]
theorem markQ_set (f : Nat → List UInt8) (k q : Nat) (hq : q < (f k).length) : markQ f k (q + 1) k = (markQ f k q k).set q (mrk k q) := by
  unfold markQ
  simp only [decide_true, cond_true]
  rw [List.set_append_right _ _ (by rw [mkL_length]; exact Nat.le_refl _)]
  rw [mkL_length, Nat.sub_self, List.drop_eq_getElem_cons hq, List.set_cons_zero, mkL_snoc, List.append_assoc]
  rfl
theorem markQ_ne (f : Nat → List UInt8) (k q j : Nat) (h : j ≠ k) : markQ f k (q + 1) j = markQ f k q j := by
  unfold markQ; simp [h]
section laws
variable {w : World} {ops : Array Oper} {rest : List Oper} {o : Oper} {a : Act} {Q : Exit → Act → World → Prop}
/-- append(vs, u) of one slice that has just been laid. -/
theorem wp_append_L (hgd : o.guard = none) (s x : Operand)
    (ho : o.op = .call { callee := .builtin .append, args := #[s, x], argTypes := #[32, 32] })
    (base : Nat) (v : Value) (vs : List Value) (hs : a.eval s = v) (hown : Own w base 25 1 v vs.length vs)
    (u : Value) (hu : u.oneCell' = true) (T : TypeId) (hx : a.eval x = .slice (some ⟨w.heap.size, 0, none⟩) 1 1) (hsm : (vs.length + 1) * 24 ≤ 140737488355328) (hbase : base ≤ w.heap.size)
    (h : ∀ v' w', Own w' base 25 1 v' (vs.length + 1) (vs ++ [u]) → w.grownBy w' v.ownBlock → (v'.ownBlock = v.ownBlock ∨ (v'.ownBlock = some (w.heap.size + 1))) → wpList Try.prog ops Q rest (a.put o.dst v') w') :
    wpList Try.prog ops Q (o :: rest) a (w.alloc (.cells #[u] T)) := by
  obtain ⟨i, hi, hz0, hz1, hz2⟩ := info_parts L_info
  refine wp_append hgd s x _ _ ho base 25 i _ 1 24 Try.underlying32 hi hz0 hz1 hz2 rfl v vs.length vs hs (hown.alloc _) (.slice (some ⟨w.heap.size, 0, none⟩) 1 1) 1 [u] hx
    (Rd.src _ Try.underlying32 (by omega) (Rd.one w u T) (by simpa using hu)) (by omega) (by omega) (by simp; omega) ?_
  intro v' w' h1 h2 h3
  refine h v' w' h1 ⟨h2.os, h2.tape, h2.output, ?_, fun k hk hne => (h2.block k (by simp; omega) hne).trans (Below.heap_alloc _ _ _ hk)⟩ (by simpa using h3)
  have := h2.size
  simp at this; omega
end laws
end Go.Proofs.Ytgnhakgfgdelpaa

-- espalierref03.Book: marked, Take, Owned: walks.
namespace Go.Proofs.Ytgnhakgfgdelpaa
open Go.RowKit
set_option maxRecDepth 20000 in
set_option maxHeartbeats 2000000 in
theorem marked_any (v : Value) (n m : Nat) (w : World) (hv : RdB w v (mkL n m)) (hn : n ≤ 1000000000000) : Calls Try.prog 39 #[v, .int .i64 (n : Int)] w fun e w' => e = .returned (.bool true) ∧ w = w' := by
  have hm := hv.le
  obtain ⟨A, c, rfl, hc⟩ := hv.form
  rw [mkL_length] at hc hv hm ⊢
  go_enter Try.func39, Try.ntmps39
  go_wp2_with fail
  go_loopw [5] (fun i wr => ∃ q : Nat, q ≤ m ∧ i = .int .i64 (q : Int) ∧ w = wr) (fun i _ => m - (intOf i).toNat)
  case atStart => exact ⟨0, Nat.zero_le _, rfl, rfl⟩
  case round =>
    obtain ⟨q, hq, rfl, rfl⟩ := hrel
    by_cases hlt : q < m
    · obtain ⟨ad, rfl, hcell⟩ := hv.at_ (j := q) (by rw [mkL_length]; exact hlt)
      rw [mkL_get, ← mrk_val] at hcell
      have i1 : (q : Int) < (m : Int) := by omega
      go_wp2_with fail
      exact ⟨⟨q + 1, by omega, by go_num, trivial⟩, by simp [intOf]; omega⟩
    · obtain rfl : q = m := by omega
      go_wp2_with fail
      go_ret
      exact ⟨rfl, rfl⟩
theorem Own.ne_Tb {w : World} {b n size : Nat} {v : Value} {xs : List Value} {T T' : TypeId} {g : Nat} {cs : List Value} (h : Own w b T size v n xs) (hg : OBlk w g T' cs) (hT : T ≠ T') : some g ≠ v.ownBlock := by
  rcases h.2 with ⟨rfl, _⟩ | ⟨g', cap, cs', rfl, _, hg', _⟩
  · simp [Value.ownBlock]
  · intro e
    simp [Value.ownBlock] at e
    subst e
    exact (hg'.ne hg hT) rfl
/-- A book: its block, its lists. -/
structure BookAt (w : World) (b0 : Nat) (bb : Nat) (v : Value) (vs : List Value) (f : Nat → List UInt8) (T : TypeId := 34) (rest : List Value := []) : Prop where
  blk : OBlk w bb T (v :: rest)
  own : Own w b0 25 1 v vs.length vs
  each : OwLs w 0 vs f
  apart : ApartL vs
def InL (vs : List Value) (b : Nat) : Prop := ∃ (j : Nat) (u : Value), vs[j]? = some u ∧ u.ownBlock = some b
theorem BookAt.below {w w' : World} {b0 bb : Nat} {v : Value} {vs : List Value} {f : Nat → List UInt8} {T : TypeId} {rest : List Value} (h : BookAt w b0 bb v vs f T rest) (hb : Below w.heap.size w w') : BookAt w' b0 bb v vs f T rest :=
  ⟨h.blk.below hb h.blk.lt, Own.below' h.own hb (Nat.le_refl _), h.each.below' hb (Nat.le_refl _), h.apart⟩
set_option maxRecDepth 20000 in
set_option maxHeartbeats 2000000 in
/-- A list comes into the book. -/
theorem Take_gen {T : TypeId} {rest : List Value} (hT1 : 5 ≠ T) (hT2 : 25 ≠ T) (w : World) (b0 bb : Nat) (v : Value) (vs : List Value) (f : Nat → List UInt8) (u : Value) (l : List UInt8) (h : BookAt w b0 bb v vs f T rest) (h0 : b0 ≤ w.heap.size) (hn : vs.length ≤ 100000000) (hu : OwB w 0 u l) (ha : ∀ (j : Nat) (y : Value), vs[j]? = some y → ∀ g, u.ownBlock = some g → y.ownBlock ≠ some g) :
    Calls Try.prog 17 #[.pointer (some ⟨bb, 0, none⟩), u] w fun e w' => (∃ x, e = .returned x) ∧ ∃ v', BookAt w' b0 bb v' (vs ++ [u]) (fun j => if j = vs.length then l else f j) T rest ∧ Turn (fun b => b = bb ∨ v.ownBlock = some b) w w' ∧ (∀ g, v'.ownBlock = some g → v.ownBlock = some g ∨ w.heap.size ≤ g) := by
  obtain ⟨A, c, hv⟩ := Own.slice h.own
  have c0 := h.blk.cell' (j := 0) rfl
  have hone := OwB.one hu
  obtain ⟨A', c', hus⟩ := Own.slice hu
  subst hv
  subst hus
  have HH := Lib.hid h
  have lb := h.blk.lt
  clear h
  go_enter Try.func17, Try.ntmps17
  go_wp2_with (first
    | (at_builtin; refine wp_append_L rfl (.tmp 8) (.tmp 10) rfl b0 _ vs rfl HH.out.own _ hone _ rfl (by omega) h0 ?_; intro v' w' ho hg hk; obtain ⟨V, d, rfl⟩ := Own.slice ho; have hb' := HH.out.blk.grown hg (fun e => HH.out.own.ne_Tb HH.out.blk hT2 e); have c0' := hb'.cell' (j := 0) (u := .slice A vs.length c) rfl; have f0' := hb'.frozen (j := 0) (by simp))
    | fail)
  refine bodyPost_end (results_none rfl _ _ _) rfl ?_
  have hg2 := grownBy_setCell w' ⟨bb, 0, none⟩ (.slice V (vs.length + 1) d)
  have hh := HH.out
  have hbT : ∀ {x : Value} {m : List UInt8}, OwB w 0 x m → OwB (w'.setCell ⟨bb, 0, none⟩ (.slice V (vs.length + 1) d)) 0 x m := fun {x m} hx => by
    have h1 : OwB w' 0 x m := Own.grown hx hg (fun g hg' e => hx.ne_own hh.own e.symm (by rw [hg']))
    exact Own.grown h1 hg2 (fun g hg' e => OwB.ne_blk h1 hb' hT1 (by rw [hg', e]))
  refine ⟨⟨_, rfl⟩, .slice V (vs.length + 1) d, ⟨hb'.set 0 _, ?_, ?_, ?_⟩, ?_, ?_⟩
  · rw [List.length_append]
    exact Own.grown ho hg2 (fun g hg' e => ho.ne_Tb hb' hT2 (by rw [hg', e]))
  · intro j y hj
    rcases Nat.lt_or_ge j vs.length with hlt | hge
    · rw [List.getElem?_append_left hlt] at hj
      show OwB _ 0 y (if j = vs.length then l else f j)
      rw [if_neg (show ¬ j = vs.length by omega)]
      exact hbT (hh.each j y hj)
    · rw [List.getElem?_append_right hge] at hj
      have hj0 : j = vs.length := by
        have := (List.getElem?_eq_some_iff.mp hj).1
        simp at this; omega
      subst hj0
      simp at hj
      subst hj
      show OwB _ 0 _ (if vs.length = vs.length then l else f vs.length)
      rw [if_pos rfl]
      exact hbT hu
  · intro i j y y' hij hi hj g hg' e
    have split : ∀ (i : Nat) (y : Value), (vs ++ [Value.slice A' l.length c'])[i]? = some y → (i < vs.length ∧ vs[i]? = some y) ∨ (i = vs.length ∧ y = .slice A' l.length c') := fun i y hi => by
      rcases Nat.lt_or_ge i vs.length with hlt | hge
      · rw [List.getElem?_append_left hlt] at hi
        exact .inl ⟨hlt, hi⟩
      · rw [List.getElem?_append_right hge] at hi
        have h0 : i = vs.length := by
          have := (List.getElem?_eq_some_iff.mp hi).1
          simp at this; omega
        subst h0
        simp at hi
        exact .inr ⟨rfl, hi.symm⟩
    rcases split i y hi with ⟨h1, h2⟩ | ⟨h1, rfl⟩
    · rcases split j y' hj with ⟨h3, h4⟩ | ⟨h3, rfl⟩
      · exact hh.apart i j y y' hij h2 h4 g hg' e
      · exact ha i y h2 g e.symm hg'
    · rcases split j y' hj with ⟨h3, h4⟩ | ⟨h3, rfl⟩
      · exact ha j y' h4 g hg' e.symm
      · omega
  · exact (Turn.of_grown hg (fun k e => .inr e)).grown hg2 (fun b e => by cases e; exact .inl (.inl rfl))
  · intro g hg'
    rcases hk with e | e
    · exact .inl (e ▸ hg')
    · right
      have := e.symm.trans hg'
      injection this with this
      omega

theorem Take_any (w : World) (b0 bb : Nat) (v : Value) (vs : List Value) (f : Nat → List UInt8) (u : Value) (l : List UInt8) (h : BookAt w b0 bb v vs f) (h0 : b0 ≤ w.heap.size) (hn : vs.length ≤ 100000000) (hu : OwB w 0 u l) (ha : ∀ (j : Nat) (y : Value), vs[j]? = some y → ∀ g, u.ownBlock = some g → y.ownBlock ≠ some g) :
    Calls Try.prog 17 #[.pointer (some ⟨bb, 0, none⟩), u] w fun e w' => (∃ x, e = .returned x) ∧ ∃ v', BookAt w' b0 bb v' (vs ++ [u]) (fun j => if j = vs.length then l else f j) ∧ Turn (fun b => b = bb ∨ v.ownBlock = some b) w w' ∧ (∀ g, v'.ownBlock = some g → v.ownBlock = some g ∨ w.heap.size ≤ g) :=
  Take_gen (by decide) (by decide) w b0 bb v vs f u l h h0 hn hu ha
theorem OBlk.grownL {T : TypeId} (hT1 : 5 ≠ T) {w w' : World} {bb : Nat} {cs : List Value} {u : Value} {l : List UInt8} {b : Nat} (h : OBlk w bb T cs) (hu : OwB w b u l) (hg : w.grownBy w' u.ownBlock) : OBlk w' bb T cs :=
  h.grown hg (fun e => OwB.ne_blk hu h hT1 e)
set_option maxRecDepth 100000 in
set_option maxHeartbeats 8000000 in
theorem BookOwned_gen {T : TypeId} {rest : List Value} (hT1 : 5 ≠ T) (hT2 : 25 ≠ T) (v : Value) (vs : List Value) (f : Nat → List UInt8) (b0 bb : Nat) (w : World) (h : BookAt w b0 bb v vs f T rest) (hn : vs.length ≤ 8388608) (hsz : ∀ j, j < vs.length → (f j).length ≤ 1000000000) :
    Calls Try.prog 18 #[.pointer (some ⟨bb, 0, none⟩)] w fun e w' => e = .returned (.bool true) ∧ Turn (InL vs) w w' ∧ OwLs w' 0 vs (fun j => mkL j (f j).length) := by
  obtain ⟨hblk, hv0, hl, ha⟩ := h
  have hv : Own w 0 25 1 v vs.length vs := Own.low hv0 (Nat.zero_le _)
  obtain ⟨A, cv, rfl⟩ := hv.slice
  clear hv0
  go_enter Try.func18, Try.ntmps18
  go_wp2_with fail
  go_loopw [3] (fun i wr => ∃ k : Nat, i = .int .i64 (k : Int) ∧ k ≤ vs.length ∧ Own wr 0 25 1 (.slice A vs.length cv) vs.length vs ∧ OwLs wr 0 vs (markF f k) ∧ OBlk wr bb T (.slice A vs.length cv :: rest) ∧ Turn (InL vs) w wr)
    (fun i _ => vs.length - (intOf i).toNat)
  case atStart => exact ⟨0, rfl, Nat.zero_le _, hv, fun j u hj => by simpa [markF] using hl j u hj, hblk, Turn.refl _ _⟩
  case round =>
    clear hv hl hblk
    obtain ⟨k, rfl, hk, hv, hl, hblk, hT⟩ := hrel
    have c0 := hblk.cell' (j := 0) rfl
    by_cases hlt : k < vs.length
    · obtain ⟨gL, rfl⟩ : ∃ gL, A = some ⟨gL, 0, none⟩ := by
        rcases hv.form with ⟨h, h0⟩ | ⟨g, c, h, _⟩
        · omega
        · injection h with h; exact ⟨g, h⟩
      have hku : vs[k]? = some vs[k] := List.getElem?_eq_getElem hlt
      have how := hl k _ hku
      have hcell := hv.cells k _ hku
      have hlen : (markF f k k) = f k := by simp [markF]
      rw [hlen] at how
      obtain ⟨B, c, hform⟩ := how.slice
      rw [hform] at hku hcell
      have HU := Lib.hid hku
      have hm1 := hsz k hlt
      clear hlen how hform hku
      go_wp2_with fail
      obtain ⟨wq, rfl⟩ : ∃ wq, wq = wr := ⟨_, rfl⟩
      go_loopw [5] (fun i wi => ∃ q : Nat, i = .int .i64 (q : Int) ∧ q ≤ (f k).length ∧ Own wi 0 25 1 (.slice (some ⟨gL, 0, none⟩) vs.length cv) vs.length vs ∧ OwLs wi 0 vs (markQ f k q) ∧ OBlk wi bb T (.slice (some ⟨gL, 0, none⟩) vs.length cv :: rest) ∧ Turn (InL vs) w wi)
        (fun i _ => (f k).length - (intOf i).toNat)
      case atStart => exact ⟨0, rfl, Nat.zero_le _, hv, fun j u hj => by rw [markQ_0]; exact hl j u hj, hblk, hT⟩
      case round =>
        clear hv hl hblk hT hcell c0
        obtain ⟨q, rfl, hq, hv, hl, hblk, hT⟩ := hrel
        by_cases hql : q < (f k).length
        · have how := hl k _ HU.out
          have hlen : (markQ f k q k).length = (f k).length := by simp [markQ, mkL_length]; omega
          obtain ⟨g, rfl⟩ : ∃ g, B = some ⟨g, 0, none⟩ := by
            rcases how.form with ⟨_, h0⟩ | ⟨g, c, h, _⟩
            · rw [h0] at hlen; simp at hlen; omega
            · injection h with h; exact ⟨g, h⟩
          have hc2 := how.cell (j := q) (by omega)
          have hf2 := how.frozen (j := q) (by omega)
          have hgb := how.lt g rfl
          have hne := how.ne_own hv rfl
          have hnb := fun x => hblk.far (p := ⟨g, q, none⟩) (fun e => OwB.ne_blk how hblk hT1 (by rw [e]; rfl)) x
          have HNB := Lib.hid hnb
          have HIN : Hid (InL vs g) := Lib.hid ⟨k, _, HU.out, rfl⟩
          clear hnb
          generalize ((markQ f k q k)[q]'(by omega)).toNat = y at hc2
          clear how hlen
          go_wp2_with fail
          go_roundw
          case rel =>
            refine ⟨q + 1, by go_num, by omega, ?_, ?_, HNB.out _, hT.setCell _ _ (.inl HIN.out)⟩
            · exact hv.far (p := ⟨g, q, none⟩) hne _
            · rw [mrk_val]
              exact hl.set ha HU.out q (mrk k q) (markQ_set f k q hql) (fun j hj => markQ_ne f k q j hj)
          case measure => simp [intOf]; omega
        · obtain rfl : q = (f k).length := by omega
          go_wp2_with fail
          go_roundw
          case rel => exact ⟨k + 1, by go_num, by omega, hv, fun j u hj => by rw [← markQ_n]; exact hl j u hj, hblk, hT⟩
          case measure => simp [intOf]; omega
    · obtain rfl : k = vs.length := by omega
      have hl2 : ∀ (j : Nat) (u : Value), vs[j]? = some u → OwB wr 0 u (mkL j (f j).length) := fun j u hj => by
        have hjl := (List.getElem?_eq_some_iff.mp hj).1
        have := hl j u hj
        simpa [markF, hjl] using this
      clear hl
      go_wp2_with fail
      obtain ⟨w2, rfl⟩ : ∃ w2, w2 = wr := ⟨_, rfl⟩
      have hw2 := hT.size
      go_loopw [6, 7] (fun gr i wr => ∃ (k : Nat) (es : List Value), i = .int .i64 (k : Int) ∧ k ≤ vs.length ∧ es.length = 5 * k ∧ Own wr w2.heap.size 25 1 gr es.length es ∧
          (∀ (j : Nat) (e : Value), es[j]? = some e → (∃ m, EOk wr 0 (.slice none 0 0) 0 0 e m (j / 5)) ∧ ∀ (i : Nat) (u : Value), k ≤ i → vs[i]? = some u → ∀ g, e.ownBlock = some g → u.ownBlock ≠ some g) ∧
          Own wr 0 25 1 (.slice A vs.length cv) vs.length vs ∧ (∀ (j : Nat) (u : Value), vs[j]? = some u → OwB wr 0 u (mkL j (f j).length)) ∧ (∀ (j : Nat) (u : Value), vs[j]? = some u → ∀ g, u.ownBlock = some g → g < w2.heap.size) ∧
          OBlk wr bb T (.slice A vs.length cv :: rest) ∧ Turn (InL vs) w wr ∧ w2.heap.size ≤ wr.heap.size)
        (fun _ i _ => vs.length - (intOf i).toNat)
      case atStart => exact ⟨0, [], rfl, Nat.zero_le _, rfl, Own.nil _ _ _ _, fun j e h => by simp at h, hv, hl2, fun j u hj g hg => ((hl2 j u hj).lt g hg).2, hblk, hT, Nat.le_refl _⟩
      case round =>
        have hvlt := fun g h => (hv.lt g h).2
        have HV := Lib.hid hvlt
        clear hvlt hv hl2 hT c0 hblk
        obtain ⟨k, es, rfl, hk, hes, hgr, hE, hv, hl, hs, hblk, hT, hsz2⟩ := hrel
        have c0 := hblk.cell' (j := 0) rfl
        by_cases hlt : k < vs.length
        · obtain ⟨gL, rfl⟩ : ∃ gL, A = some ⟨gL, 0, none⟩ := by
            rcases hv.form with ⟨h, h0⟩ | ⟨g, c, h, _⟩
            · omega
            · injection h with h; exact ⟨g, h⟩
          have hku : vs[k]? = some vs[k] := List.getElem?_eq_getElem hlt
          have how := hl k _ hku
          have hcell := hv.cells k _ hku
          generalize vs[k] = u at *
          have hm1 := hsz k hlt
          have HU := Lib.hid hku
          have HES := Lib.hid hes
          obtain ⟨G, cG, rfl⟩ := hgr.slice
          clear hku
          rw [hes]
          clear hes
          go_wp2_with fail
          obtain ⟨wq, rfl⟩ : ∃ wq, wq = wr := ⟨_, rfl⟩
          go_loopw [6, 8, 9] (fun gr x j wi => ∃ (q : Nat) (es : List Value), j = .int .i64 (q : Int) ∧ q ≤ 20 ∧ InvQ (InL vs) w w2.heap.size 0 vs f (.slice (some ⟨gL, 0, none⟩) vs.length cv) k q gr x es wi ∧ OBlk wi bb T (.slice (some ⟨gL, 0, none⟩) vs.length cv :: rest))
            (fun _ _ j _ => 20 - (intOf j).toNat)
          case atStart =>
            refine ⟨0, es, rfl, by omega, ⟨HES.out, ?_, how, ?_, ?_, ?_, hv, fun j u _ hu => hl j u hu, hs, hT, fun g hg => .inl ⟨k, u, HU.out, hg⟩, hw2, hsz2⟩, hblk⟩
            · rw [HES.out]; rw [HES.out] at hgr; exact hgr
            · exact fun j e hj => ⟨⟨(hE j e hj).1.choose, (hE j e hj).1.choose_spec.fresh (fun g hg => (hE j e hj).2 k u (Nat.le_refl _) HU.out g hg)⟩, fun i u' hi hu' => (hE j e hj).2 i u' (Nat.le_of_lt hi) hu'⟩
            · intro u' hu'
              rw [HU.out] at hu'
              injection hu' with hu'
              subst hu'
              exact ⟨how, fun g _ _ => ⟨Nat.le_refl _, rfl⟩⟩
            · exact fun i u' hi hu' g hg hg' => ha k i u u' (fun e => hi e.symm) HU.out hu' g hg hg'.symm
          case round =>
            clear hgr hE hv hl hs hT hsz2 how hcell hblk c0
            obtain ⟨q, es, rfl, hq, hI, hblk⟩ := hrel
            by_cases hql : q < 20
            · have hlen3 := hI.len
              have hc5 : cntQ q ≤ 5 := by unfold cntQ; split <;> split <;> omega
              have hel : es.length ≤ 50000000 := by omega
              have hgr3 := hI.gr3
              have hs2 := hI.size
              have hox := hI.ox
              have HI := Lib.hid hI
              obtain ⟨n, hN⟩ : ∃ n, n = (f k).length + q := ⟨_, rfl⟩
              rw [← hN] at hox
              have HN := Lib.hid hN
              have hnb : n ≤ 2000000000 := by omega
              have hmv := mrk_val k n
              have HMV := Lib.hid hmv
              obtain ⟨X, cX, rfl⟩ := hox.slice' (n := n) (mkL_length _ _)
              clear hlen3 hN hmv hI
              have iq : (q : Int) < 20 := by omega
              go_upto_region 18 with (first
                | (at_builtin; refine wp_append_keep_B1 rfl (.tmp 64) (.tmp 71) rfl 0 _ _ rfl hox (mrk k n) _ (congrArg (Value.int .u8) HMV.out) 5 rfl (by rw [mkL_length]; omega) (Nat.zero_le _) ?_; intro x3 w3 ho3 hg3 hb3 hk3; obtain ⟨B3, c3, rfl⟩ := ho3.slice' (n := n + 1) (by rw [List.length_append, mkL_length]; rfl))
                | fail)
              have hblk3 := hblk.grownL hT1 hox hg3
              have ho1 := OwB.one ho3
              have hgrn := hgr3 _ hg3
              clear hox hgr3
              cases hkq : keptQ q
              · have hd := of_decide_eq_false hkq
                have j1 : ¬ (q : Int) < 3 := by omega
                have j2 : ((q : Int) == 8) = false := beq_eq_false_iff_ne.2 (by omega)
                have j3 : ((q : Int) == 19) = false := beq_eq_false_iff_ne.2 (by omega)
                have HK := Lib.hid hkq
                clear hd hkq
                go_wp2_with fail
                have hN := HN.out
                subst hN
                go_roundw
                case rel => exact ⟨q + 1, es, by go_num, by omega, HI.out.drop hql HK.out ho3 hg3 hb3 hk3, hblk3⟩
                case measure => simp [intOf]; omega
              · have hd := of_decide_eq_true hkq
                have HK := Lib.hid hkq
                clear hkq
                rcases hd with hd | hd | hd
                · have j1 : (q : Int) < 3 := by omega
                  clear hd
                  go_wp2_with (first
                    | (at_builtin; refine wp_append_L rfl (.tmp 83) (.tmp 85) rfl w2.heap.size _ es rfl hgrn _ ho1 25 rfl (by omega) (Nat.le_trans hs2 hg3.size) ?_; intro gr4 w4 hgr4 hg4 _)
                    | fail)
                  have hblk4 := hblk3.grown hg4 (fun e => hgrn.ne_Tb hblk3 hT2 e)
                  have hN := HN.out
                  subst hN
                  go_roundw
                  case rel => exact ⟨q + 1, _, by go_num, by omega, HI.out.step HK.out HV.out ho3 hg3 hb3 hk3 hgr4 hg4, hblk4⟩
                  case measure => simp [intOf]; omega
                · have j1 : ¬ (q : Int) < 3 := by omega
                  have j2 : ((q : Int) == 8) = true := beq_iff_eq.2 (by omega)
                  clear hd
                  go_wp2_with (first
                    | (at_builtin; refine wp_append_L rfl (.tmp 83) (.tmp 85) rfl w2.heap.size _ es rfl hgrn _ ho1 25 rfl (by omega) (Nat.le_trans hs2 hg3.size) ?_; intro gr4 w4 hgr4 hg4 _)
                    | fail)
                  have hblk4 := hblk3.grown hg4 (fun e => hgrn.ne_Tb hblk3 hT2 e)
                  have hN := HN.out
                  subst hN
                  go_roundw
                  case rel => exact ⟨q + 1, _, by go_num, by omega, HI.out.step HK.out HV.out ho3 hg3 hb3 hk3 hgr4 hg4, hblk4⟩
                  case measure => simp [intOf]; omega
                · have j1 : ¬ (q : Int) < 3 := by omega
                  have j2 : ((q : Int) == 8) = false := beq_eq_false_iff_ne.2 (by omega)
                  have j3 : ((q : Int) == 19) = true := beq_iff_eq.2 (by omega)
                  clear hd
                  go_wp2_with (first
                    | (at_builtin; refine wp_append_L rfl (.tmp 83) (.tmp 85) rfl w2.heap.size _ es rfl hgrn _ ho1 25 rfl (by omega) (Nat.le_trans hs2 hg3.size) ?_; intro gr4 w4 hgr4 hg4 _)
                    | fail)
                  have hblk4 := hblk3.grown hg4 (fun e => hgrn.ne_Tb hblk3 hT2 e)
                  have hN := HN.out
                  subst hN
                  go_roundw
                  case rel => exact ⟨q + 1, _, by go_num, by omega, HI.out.step HK.out HV.out ho3 hg3 hb3 hk3 hgr4 hg4, hblk4⟩
                  case measure => simp [intOf]; omega
            · obtain rfl : q = 20 := by omega
              have i1 : ¬ ((20 : Nat) : Int) < 20 := by omega
              have hI' := hI
              have HI := Lib.hid hI'
              have hlen3 := hI.len
              have hc20 : cntQ 20 = 5 := rfl
              rw [hc20] at hlen3
              clear hI hI'
              go_wp2_with fail
              go_roundw
              case rel =>
                have hI := HI.out
                refine ⟨k + 1, es, by go_num, by omega, by omega, hI.own, fun j e hj => ⟨⟨(hI.hE j e hj).1.choose, (hI.hE j e hj).1.choose_spec.fresh (fun g _ h => by cases h)⟩, fun i u' hi hu' => (hI.hE j e hj).2 i u' (by omega) hu'⟩, hI.hv, fun j u' hu' => ?_, hI.hs, hblk, hI.ht, hI.size⟩
                by_cases e : j = k
                · subst e; exact (hI.hk u' hu').1
                · exact hI.hl j u' e hu'
              case measure => simp [intOf]; omega
        · obtain rfl : k = vs.length := by omega
          have hE2 : ∀ (j : Nat) (e : Value), es[j]? = some e → ∃ m, OwB wr 0 e (mkL (j / 5) m) := fun j e hj => by
            obtain ⟨⟨m, h1⟩, _⟩ := hE j e hj
            exact ⟨m, h1.1⟩
          clear hE
          obtain ⟨G, cG, rfl⟩ := hgr.slice
          have hsm : es.length ≤ 50000000 := by omega
          have HE := Lib.hid hE2
          have HL := Lib.hid hl
          clear hE2 hes hl
          go_wp2_with fail
          obtain ⟨w5, rfl⟩ : ∃ w5, w5 = wr := ⟨_, rfl⟩
          go_loopw [10] (fun i wr => ∃ j : Nat, i = .int .i64 (j : Int) ∧ j ≤ vs.length ∧ wr = w5)
            (fun i _ => vs.length - (intOf i).toNat)
          case atStart => exact ⟨0, rfl, Nat.zero_le _, rfl⟩
          case round =>
            obtain ⟨j, rfl, hj, rfl⟩ := hrel
            by_cases hjl : j < vs.length
            · have hju : vs[j]? = some vs[j] := List.getElem?_eq_getElem hjl
              have how := HL.out j _ hju
              have hsj := hsz j hjl
              obtain ⟨gL, rfl⟩ : ∃ gL, A = some ⟨gL, 0, none⟩ := by
                rcases hv.form with ⟨h, h0⟩ | ⟨g, c, h, _⟩
                · omega
                · injection h with h; exact ⟨g, h⟩
              have hcell := hv.cells j _ hju
              have hmk := marked_any _ j (f j).length wr how.rd (by omega)
              generalize vs[j] = e at *
              clear hju how
              go_wp2_with fail
              refine hmk.mono ?_
              rintro e2 w6 ⟨rfl, rfl⟩
              go_wp2_with fail
              exact ⟨⟨j + 1, by go_num, by omega, trivial⟩, by simp [intOf]; omega⟩
            · obtain rfl : j = vs.length := by omega
              go_wp2_with fail
              obtain ⟨w5, rfl⟩ : ∃ w5, w5 = wr := ⟨_, rfl⟩
              go_loopw [12] (fun i wr => ∃ j : Nat, i = .int .i64 (j : Int) ∧ j ≤ es.length ∧ wr = w5)
                (fun i _ => es.length - (intOf i).toNat)
              case atStart => exact ⟨0, rfl, Nat.zero_le _, rfl⟩
              case round =>
                obtain ⟨j, rfl, hj, rfl⟩ := hrel
                by_cases hjl : j < es.length
                · have hju : es[j]? = some es[j] := List.getElem?_eq_getElem hjl
                  obtain ⟨m, how⟩ := HE.out j _ hju
                  obtain ⟨gG, rfl⟩ : ∃ gG, G = some ⟨gG, 0, none⟩ := by
                    rcases hgr.form with ⟨h, h0⟩ | ⟨g, c, h, _⟩
                    · omega
                    · injection h with h; exact ⟨g, h⟩
                  have hcell := hgr.cells j _ hju
                  have hmk := marked_any _ (j / 5) m wr how.rd (by omega)
                  rw [show ((j / 5 : Nat) : Int) = (j : Int) / 5 by omega] at hmk
                  generalize es[j] = e at *
                  clear hju how
                  go_wp2_with fail
                  refine hmk.mono ?_
                  rintro e2 w6 ⟨rfl, rfl⟩
                  go_wp2_with fail
                  exact ⟨⟨j + 1, by go_num, by omega, trivial⟩, by simp [intOf]; omega⟩
                · obtain rfl : j = es.length := by omega
                  go_wp2_with fail
                  go_ret
                  exact ⟨rfl, hT, fun j u hj => HL.out j u hj⟩
theorem BookOwned_any (v : Value) (vs : List Value) (f : Nat → List UInt8) (b0 bb : Nat) (w : World) (h : BookAt w b0 bb v vs f) (hn : vs.length ≤ 8388608) (hsz : ∀ j, j < vs.length → (f j).length ≤ 1000000000) :
    Calls Try.prog 18 #[.pointer (some ⟨bb, 0, none⟩)] w fun e w' => e = .returned (.bool true) ∧ Turn (InL vs) w w' ∧ OwLs w' 0 vs (fun j => mkL j (f j).length) :=
  BookOwned_gen (by decide) (by decide) v vs f b0 bb w h hn hsz
end Go.Proofs.Ytgnhakgfgdelpaa

-- Pieces of memory: a book.
namespace Go.Proofs.Ytgnhakgfgdelpaa
open Go.RowKit
/-! ### the book -/
def bkF (xs : List (Value × List UInt8)) (j : Nat) : List UInt8 := (xs.getD j (.slice none 0 0, [])).2
def bookE (bb : Nat) (v : Value) (xs : List (Value × List UInt8)) : Ent :=
  ⟨fun g => g = bb ∨ v.ownBlock = some g ∨ InL (xs.map Prod.fst) g, fun w => BookAt w 0 bb v (xs.map Prod.fst) (bkF xs), fun h k =>
    ⟨k.blk.of_heap (h bb (.inl rfl)), Own.heap k.own (fun g hg => h g (.inr (.inl hg))), fun j u hj => Own.heap (k.each j u hj) (fun g hg => h g (.inr (.inr ⟨j, u, hj, hg⟩))), k.apart⟩⟩
theorem Sep.book {w0 w : World} {L : List Ent} (h : Sep w0 w L) : Sep w0 (w.alloc (.cells #[.slice none 0 0] 34)) (bookE w.heap.size (.slice none 0 0) [] :: L) := by
  refine (h.alloc 34 [.slice none 0 0]).weak (fun hp => ⟨hp, Own.nil _ _ _ _, fun j u hj => by simp at hj, fun i j u u' _ hi => by simp at hi⟩) (fun g hg => ?_)
  rcases hg with rfl | hg | ⟨j, u, hj, _⟩
  · rfl
  · cases hg
  · simp at hj
theorem Take_sep {w0 w : World} {L : List Ent} {bb : Nat} {v u : Value} {xs : List (Value × List UInt8)} {l : List UInt8} (h : Sep w0 w (bookE bb v xs :: bytesE u l :: L)) (hn : xs.length ≤ 100000000) :
    Calls Try.prog 17 #[.pointer (some ⟨bb, 0, none⟩), u] w fun e w' => (∃ x, e = .returned x) ∧ ∃ v', Sep w0 w' (bookE bb v' (xs ++ [(u, l)]) :: L) := by
  have hB : BookAt w 0 bb v (xs.map Prod.fst) (bkF xs) := h.head
  have hU : OwB w 0 u l := h.tail.head
  refine (Take_any w 0 bb v _ _ u l hB (Nat.zero_le _) (by simpa using hn) hU (fun j y hj g hg hy => h.far (List.mem_cons_self ..) g (.inr (.inr ⟨j, y, hj, hy⟩)) hg)).mono ?_
  rintro e w' ⟨hx, v', hb', ht, hv'⟩
  refine ⟨hx, v', h.join.upd (ht.mono fun b hb => .inl (hb.elim .inl (fun h => .inr (.inl h)))) (E' := bookE bb v' (xs ++ [(u, l)])) ?_ (fun g hg => ?_)⟩
  · refine ⟨hb'.blk, by simpa using hb'.own, fun j y hj => ?_, by simpa using hb'.apart⟩
    rw [List.map_append] at hj
    have h1 := hb'.each j y hj
    have hlt := (List.getElem?_eq_some_iff.1 hj).1
    simp only [List.length_append, List.length_map, List.map_cons, List.map_nil, List.length_singleton] at hlt
    have e1 : bkF (xs ++ [(u, l)]) j = if j = (xs.map Prod.fst).length then l else bkF xs j := by
      unfold bkF
      rw [List.length_map]
      by_cases hj' : j = xs.length
      · subst hj'; simp [List.getD]
      · rw [if_neg hj']
        simp [List.getD, List.getElem?_append_left (show j < xs.length by omega)]
    rw [e1]; exact h1
  · have hsz := ht.size
    rcases hg with rfl | hg | ⟨j, y, hj, hy⟩
    · exact ⟨.inl (.inl (.inl rfl)), hb'.blk.lt⟩
    · refine ⟨?_, (Own.lt hb'.own g hg).2⟩
      rcases hv' g hg with h1 | h1
      · exact .inl (.inl (.inr (.inl h1)))
      · exact .inr h1
    · refine ⟨.inl ?_, (Own.lt (hb'.each j y (by simpa using hj)) g hy).2⟩
      rw [List.map_append, List.getElem?_append] at hj
      split at hj
      · exact .inl (.inr (.inr ⟨j, y, hj, hy⟩))
      · right
        rw [List.map_cons, List.map_nil, List.getElem?_singleton] at hj
        split at hj
        · injection hj with hj; rw [← hj] at hy; exact hy
        · cases hj
theorem Owned_sep {w0 w : World} {L : List Ent} {bb : Nat} {v : Value} {xs : List (Value × List UInt8)} (h : Sep w0 w (bookE bb v xs :: L)) (hn : xs.length ≤ 8388608) (hl : ∀ p ∈ xs, p.2.length ≤ 1000000000) :
    Calls Try.prog 18 #[.pointer (some ⟨bb, 0, none⟩)] w fun e w' => e = .returned (.bool true) ∧ Sep w0 w' L := by
  refine (BookOwned_any v _ _ 0 bb w h.head (by simpa using hn) (fun j hj => ?_)).mono ?_
  · rw [List.length_map] at hj
    have e : bkF xs j = xs[j].2 := by simp [bkF, List.getD, hj]
    rw [e]; exact hl _ (List.getElem_mem hj)
  · rintro e w' ⟨rfl, ht, _⟩
    exact ⟨rfl, h.kill (ht.mono fun b hb => .inr (.inr hb))⟩
end Go.Proofs.Ytgnhakgfgdelpaa

-- espalierref03.Lent, AsLent: walks.
namespace Go.Proofs.Ytgnhakgfgdelpaa
open Go.RowKit
def mk9 (j : Nat) : List UInt8 := (List.range j).map fun (i : Nat) => UInt8.ofNat (200 + i)
theorem mk9_length (j : Nat) : (mk9 j).length = j := by simp [mk9]
theorem mk9_succ (j : Nat) : mk9 (j + 1) = mk9 j ++ [UInt8.ofNat (200 + j)] := by unfold mk9; rw [List.range_succ, List.map_append]; rfl
theorem mk9_get (j i : Nat) (h : i < j) : (mk9 j)[i]? = some (UInt8.ofNat (200 + i)) := by
  unfold mk9
  rw [List.getElem?_map, List.getElem?_range h]; rfl
def lent9 (l : List UInt8) (j : Nat) : List UInt8 := l ++ (mk9 j ++ List.replicate (9 - j) 0)
theorem lent9_length (l : List UInt8) (j : Nat) (h : j ≤ 9) : (lent9 l j).length = l.length + 9 := by simp [lent9, mk9_length]; omega
theorem lent9_set (l : List UInt8) (j : Nat) (h : j < 9) : (lent9 l j).set (l.length + j) (UInt8.ofNat (200 + j)) = lent9 l (j + 1) := by
  unfold lent9
  rw [List.set_append_right _ _ (by omega), Nat.add_sub_cancel_left]
  congr 1
  rw [List.set_append_right _ _ (by rw [mk9_length]; exact Nat.le_refl _), mk9_length, Nat.sub_self, mk9_succ, List.append_assoc]
  congr 1
  rw [show 9 - j = (9 - (j + 1)) + 1 by omega, List.replicate_succ, List.set_cons_zero]
  rfl
theorem lent9_start (l : List UInt8) : splice (List.replicate (l.length + 9) 0) 0 (l.take (min l.length (l.length + 9))) = lent9 l 0 := by
  rw [Nat.min_eq_left (by omega), List.take_length]
  unfold splice lent9
  simp [mk9, List.drop_replicate]
def marks9 : List UInt8 := mk9 9
theorem lent9_end (l : List UInt8) : lent9 l 9 = l ++ marks9 := by unfold lent9 marks9; simp
theorem b200 (j : Nat) (h : j < 9) : ((UInt8.ofNat (200 + j)).toNat : Int) = 200 + (j : Int) := by
  rw [UInt8.toNat_ofNat']
  omega
set_option maxHeartbeats 1000000 in
set_option maxRecDepth 20000 in
theorem Lent_any (v : Value) (l : List UInt8) (w : World) (hv : RdB w v l) (hl : l.length ≤ 140737488355328) :
    Calls Try.prog 14 #[v] w fun e w' => ∃ g, e = .returned (.slice (some ⟨g, 0, none⟩) l.length (l.length + 9)) ∧ OwB w' w.heap.size (.slice (some ⟨g, 0, none⟩) (l.length + 9) (l.length + 9)) (l ++ marks9) ∧ Below w.heap.size w w' := by
  obtain ⟨A, c, rfl, hm⟩ := hv.form
  go_enter Try.func14, Try.ntmps14
  go_wp2_with (first
    | (at_make; refine wp_make_B rfl (.tmp 7) (.tmp 7) rfl _ (l.length + 9) rfl rfl (by go_num) (by omega) ?_; intro w1 hb1 hw1 hs1)
    | ((with_reducible refine at_copy ?_); refine wp_copy_B rfl (.tmp 9) (.tmp 10) rfl _ (l.length + 9) _ w.heap.size 0 rfl _ hb1 (fun _ => rfl) (by simp) _ l rfl (hv.below hw1 (Nat.le_refl _)) ?_; intro w2 hb2 hg2; rw [lent9_start] at hb2)
    | fail)
  have hw2 := hw1.grown hg2 hw1.size (fun k hk => Nat.le_of_eq (Option.some.inj hk))
  clear hb1 hw1 hg2
  go_loopw [4] (fun i wr => ∃ d : Nat, d ≤ 9 ∧ i = .int .i64 ((l.length + d : Nat) : Int) ∧ OBlk wr w.heap.size 5 (bvs (lent9 l d)) ∧ Below w.heap.size w wr) (fun i _ => l.length + 9 - (intOf i).toNat)
  case atStart => exact ⟨0, by omega, rfl, hb2, hw2⟩
  case round =>
    clear hb2 hw2
    obtain ⟨d, hd, rfl, hb, hw⟩ := hrel
    by_cases hlt : d < 9
    · have hml := lent9_length l d (by omega)
      have hc := hb.cell' (bvs_get' (lent9 l d) (l.length + d) (by omega))
      have hf := hb.frozen (j := l.length + d) (by rw [bvs_length]; omega)
      have hset := hb.set (l.length + d) (.int .u8 ((UInt8.ofNat (200 + d)).toNat : Int))
      rw [← bvs_set, lent9_set l d hlt, b200 d hlt] at hset
      generalize ((lent9 l d)[l.length + d]'(by omega)).toNat = y at hc
      obtain ⟨k, hk⟩ : ∃ k, k = l.length + d := ⟨_, rfl⟩
      have e1 : (200 : Int) + (k : Int) - (l.length : Int) = 200 + (d : Int) := by omega
      have e2 : IntKind.u8.wrap (200 + (d : Int)) = 200 + (d : Int) := IntWalk.u8_in _ (by omega)
      have ik : k < l.length + 9 := by omega
      rw [← hk] at hc hf hset ⊢
      have HK := Lib.hid hk
      clear hml hk
      go_wp2_with fail
      go_roundw
      case rel => exact ⟨d + 1, by omega, by rw [HK.out]; go_num, hset, hw.setCell (Nat.le_refl _) _⟩
      case measure => have := HK.out; simp [intOf]; omega
    · obtain rfl : d = 9 := by omega
      have ho := hb.owB' (base := w.heap.size) (Nat.le_refl _) (by rw [lent9_length l 9 (by omega)]; simp only [maxLen]; omega)
      rw [lent9_length l 9 (by omega), lent9_end] at ho
      clear hb
      go_wp2_with fail
      go_ret
      exact ⟨w.heap.size, rfl, ho, hw⟩
end Go.Proofs.Ytgnhakgfgdelpaa
