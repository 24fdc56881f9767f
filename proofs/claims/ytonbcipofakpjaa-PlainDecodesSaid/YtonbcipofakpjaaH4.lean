/- Texts joined: Cells of pages, where they lie.; plain.may, plain.long; Powers of two from 512 to 65536.; plain.isKind, isPage, Size, number, part; espalierref06.May; espalierref01.Fixed, step, SumOf -/
import Derived.Test.YtonbcipofakpjaaH1
import Derived.Test.YtonbcipofakpjaaH2
import Derived.Test.YtonbcipofakpjaaH3
import Derived.Deep.CutRange
import Derived.Deep.DeepCutAuto
import Derived.Deep.QuietTactic
import Derived.BigQuiet
import Derived.Outline
-- Cells of pages, where they lie.
namespace Go.Proofs.Ytonbcipofakpjaa
open Go.RowKit
structure CV where
  kv : Value
  vv : Value
  c : PC
instance : Inhabited CV := ⟨⟨.slice none 0 0, .slice none 0 0, default⟩⟩
def CV.cells (x : CV) : List Value := [x.kv, .int .i64 x.c.kind, x.vv, .int .i64 x.c.page, .int .i64 x.c.count]
def cellV (x : CV) : Value := .agg #[x.kv, .int .i64 x.c.kind, x.vv, .int .i64 x.c.page, .int .i64 x.c.count]
def i64r (n : Int) : Prop := -9223372036854775808 ≤ n ∧ n ≤ 9223372036854775807
structure CV.ok (W : World) (x : CV) : Prop where
  k : RdB W x.kv x.c.key
  v : RdB W x.vv x.c.val
  r1 : i64r x.c.kind
  r2 : i64r x.c.page
  r3 : i64r x.c.count
def flatC (l : List CV) : List Value := l.flatMap CV.cells
theorem flatC_length (l : List CV) : (flatC l).length = l.length * 5 := by
  induction l with
  | nil => rfl
  | cons x r ih =>
    have : flatC (x :: r) = x.cells ++ flatC r := rfl
    rw [this, List.length_append, ih, List.length_cons]
    show 5 + _ = _
    omega
theorem flatC_append (a b : List CV) : flatC (a ++ b) = flatC a ++ flatC b := by simp [flatC]
theorem flatC_at : ∀ (l : List CV) (i r : Nat) (hi : i < l.length), r < 5 → (flatC l)[i * 5 + r]? = l[i].cells[r]?
  | x :: s, 0, r, _, hr => by
    have : flatC (x :: s) = x.cells ++ flatC s := rfl
    rw [this, List.getElem?_append_left (by show _ < 5; omega)]
    simp
  | x :: s, i + 1, r, hi, hr => by
    have : flatC (x :: s) = x.cells ++ flatC s := rfl
    rw [this, List.getElem?_append_right (by show 5 ≤ _; omega)]
    have := flatC_at s i r (by simpa using hi) hr
    rw [show (i + 1) * 5 + r - x.cells.length = i * 5 + r by show _ - 5 = _; omega, this]
    rfl
structure RdCs (W : World) (v : Value) (l : List CV) : Prop where
  form : Rd W 5 v l.length (flatC l)
  ok : ∀ x ∈ l, x.ok W
def pcs (l : List CV) : List PC := l.map CV.c
theorem pcs_length (l : List CV) : (pcs l).length = l.length := by simp [pcs]
theorem CV.ok.below {w w' : World} {x : CV} (h : x.ok w) (hb : Below w.heap.size w w') : x.ok w' := { h with k := h.k.below hb (Nat.le_refl _), v := h.v.below hb (Nat.le_refl _) }
theorem RdCs.below {w w' : World} {v : Value} {l : List CV} (h : RdCs w v l) (hb : Below w.heap.size w w') : RdCs w' v l :=
  ⟨h.form.below hb (Nat.le_refl _), fun x hx => (h.ok x hx).below hb⟩
theorem RdCs.slice {w : World} {v : Value} {l : List CV} (h : RdCs w v l) : ∃ A c, v = .slice A l.length c ∧ l.length ≤ c ∧ c ≤ 9223372036854775807 := by
  obtain ⟨_, A, c, hv, h1, h2, _⟩ := h.form
  exact ⟨A, c, hv, h1, h2⟩
theorem RdCs.at_ {w : World} {A : Option Addr} {m c i : Nat} {l : List CV} (h : RdCs w (.slice A m c) l) (hi : i < l.length) :
    ∃ ad, A = some ad ∧ w.cell? (ad.add (i * 5)) = some l[i].kv ∧ w.cell? ⟨(ad.add (i * 5)).block, (ad.add (i * 5)).off + 1, none⟩ = some (.int .i64 l[i].c.kind) ∧ w.cell? ⟨(ad.add (i * 5)).block, (ad.add (i * 5)).off + 2, none⟩ = some l[i].vv ∧
      w.cell? ⟨(ad.add (i * 5)).block, (ad.add (i * 5)).off + 3, none⟩ = some (.int .i64 l[i].c.page) ∧ w.cell? ⟨(ad.add (i * 5)).block, (ad.add (i * 5)).off + 4, none⟩ = some (.int .i64 l[i].c.count) := by
  obtain ⟨_, A', c', hv, _, _, h3⟩ := h.form
  injection hv with hA
  subst hA
  have key : ∀ r u, r < 5 → l[i].cells[r]? = some u → ∃ ad, A = some ad ∧ w.cell? (ad.add (i * 5 + r)) = some u := fun r u hr hu => h3 (i * 5 + r) u (by rw [flatC_at l i r hi hr]; exact hu)
  obtain ⟨ad, rfl, e0⟩ := key 0 _ (by omega) rfl
  obtain ⟨_, he, e1⟩ := key 1 _ (by omega) rfl
  cases he
  obtain ⟨_, he, e2⟩ := key 2 _ (by omega) rfl
  cases he
  obtain ⟨_, he, e3⟩ := key 3 _ (by omega) rfl
  cases he
  obtain ⟨_, he, e4⟩ := key 4 _ (by omega) rfl
  cases he
  refine ⟨ad, rfl, e0, ?_, ?_, ?_, ?_⟩
  · have := e1; rw [← add_of_add] at this; exact this
  · have := e2; rw [← add_of_add] at this; exact this
  · have := e3; rw [← add_of_add] at this; exact this
  · have := e4; rw [← add_of_add] at this; exact this
/-- A cell's own block: five cells. -/
theorem cells5 {w : World} {g : Nat} {T : TypeId} {a0 a1 a2 a3 a4 : Value} (h : OBlk w g T [a0, a1, a2, a3, a4]) :
    w.cell? ⟨g, 0, none⟩ = some a0 ∧ w.cell? ⟨g, 1, none⟩ = some a1 ∧ w.cell? ⟨g, 2, none⟩ = some a2 ∧ w.cell? ⟨g, 3, none⟩ = some a3 ∧ w.cell? ⟨g, 4, none⟩ = some a4 :=
  ⟨h.cell 0, h.cell 1, h.cell 2, h.cell 3, h.cell 4⟩
/-- Owned cells. -/
structure OwCs (w : World) (base : Nat) (v : Value) (l : List CV) : Prop where
  own : Own w base 32 5 v l.length (flatC l)
  each : ∀ x ∈ l, OwB w base x.kv x.c.key ∧ OwB w base x.vv x.c.val
  rng : ∀ x ∈ l, i64r x.c.kind ∧ i64r x.c.page ∧ i64r x.c.count
  apart : ((l.flatMap fun x => [x.kv.ownBlock, x.vv.ownBlock]).filterMap id).Pairwise (· < ·)
theorem below_drewN {B : Nat} {w w' : World} (h : Below B w w') : ∀ n, Below B w (w'.drewN n)
  | 0 => h
  | n + 1 => (below_drewN h n).drew
theorem CV.form {x : CV} {w : World} (h : x.ok w) : ∃ A a B b key ck val pg ct, x = ⟨.slice A key.length a, .slice B val.length b, ⟨key, ck, val, pg, ct⟩⟩ ∧ key.length ≤ 9223372036854775807 ∧ val.length ≤ 9223372036854775807 := by
  obtain ⟨kv, vv, key, ck, val, pg, ct⟩ := x
  obtain ⟨A, ca, hkv, hka⟩ := h.k.form
  obtain ⟨B, cb, hvv, hvb⟩ := h.v.form
  simp only at hkv hvv hka hvb
  subst hkv hvv
  exact ⟨A, ca, B, cb, key, ck, val, pg, ct, rfl, hka, hvb⟩
theorem pcs_at {l : List CV} {i : Nat} (hi : i < l.length) : (pcs l)[i]'(by rw [pcs_length]; exact hi) = l[i].c := by simp [pcs]
theorem Rd.five (w : World) (a b c d e : Value) (T : TypeId) : Rd (w.alloc (.cells #[a, b, c, d, e] T)) 5 (.slice (some ⟨w.heap.size, 0, none⟩) 1 1) 1 [a, b, c, d, e] :=
  ⟨by simp, _, _, rfl, Nat.le_refl _, by simp [maxLen], fun j u hj => ⟨_, rfl, by rw [add_row, (OBlk.new w T #[a, b, c, d, e]).cell]; simpa using hj⟩⟩
theorem cell_info : (Try.prog.info? 32).map (fun i => (i.zero, i.size, i.bytes)) = some (some (.agg #[.slice none 0 0, .int .i64 0, .slice none 0 0, .int .i64 0, .int .i64 0]), 5, 72) := by kernel_rfl
end Go.Proofs.Ytonbcipofakpjaa

-- plain.may, plain.long: walks.
namespace Go.Proofs.Ytonbcipofakpjaa
open Go.RowKit
set_option maxRecDepth 100000 in
set_option maxHeartbeats 4000000 in
theorem long_any (x : CV) (w : World) (hx : x.ok w) (hl : x.c.key.length + x.c.val.length ≤ 9223372036854775000) : Calls Try.prog 53 #[cellV x] w fun e w' => e = .returned (.int .i64 (longF x.c : Nat)) ∧ Below w.heap.size w w' := by
  obtain ⟨kv, vv, key, kind, val, pg, ct⟩ := x
  obtain ⟨A, ca, hkv, hka⟩ := hx.k.form
  obtain ⟨B, cb, hvv, hvb⟩ := hx.v.form
  simp only at hkv hvv hka hvb hl
  subst hkv hvv
  have hA : Below w.heap.size w (w.alloc (.cells #[.slice A key.length ca, .int .i64 kind, .slice B val.length cb, .int .i64 pg, .int .i64 ct] 32)) := (Below.refl _ _).alloc (Nat.le_refl _) _
  obtain ⟨c0, c1, c2, c3, c4⟩ := cells5 (OBlk.new' w 32 [.slice A key.length ca, .int .i64 kind, .slice B val.length cb, .int .i64 pg, .int .i64 ct])
  by_cases h1 : kind = 1
  · subst h1
    unfold cellV
    go_enter Try.func53, Try.ntmps53
    go_wp2_with fail
    go_ret
    exact ⟨by unfold longF; rw [if_pos rfl]; go_num, hA⟩
  · have hb : (kind == 1) = false := beq_eq_false_iff_ne.2 h1
    have HL : Hid (longF ⟨key, kind, val, pg, ct⟩ = 11 + key.length) := by show _ = _; unfold longF; rw [if_neg h1]
    clear h1
    unfold cellV
    go_enter Try.func53, Try.ntmps53
    go_wp2_with fail
    go_ret
    exact ⟨by rw [HL.out]; go_num, hA⟩
set_option maxRecDepth 100000 in
set_option maxHeartbeats 4000000 in
theorem may_any (x : CV) (kind : Int) (P : Nat) (hP : P ≤ 65536) (w : World) (hx : x.ok w) : Calls Try.prog 50 #[.int .i64 kind, .int .i64 (P : Int), cellV x] w fun e w' => e = .returned (.bool (mayP kind P x.c)) ∧ Below w.heap.size w w' := by
  obtain ⟨kv, vv, key, ck, val, pg, ct⟩ := x
  obtain ⟨A, ca, hkv, hka⟩ := hx.k.form
  obtain ⟨B, cb, hvv, hvb⟩ := hx.v.form
  simp only at hkv hvv hka hvb
  subst hkv hvv
  have hA : Below w.heap.size w (w.alloc (.cells #[.slice A key.length ca, .int .i64 ck, .slice B val.length cb, .int .i64 pg, .int .i64 ct] 32)) := (Below.refl _ _).alloc (Nat.le_refl _) _
  obtain ⟨c0, c1, c2, c3, c4⟩ := cells5 (OBlk.new' w 32 [.slice A key.length ca, .int .i64 ck, .slice B val.length cb, .int .i64 pg, .int .i64 ct])
  unfold cellV
  go_enter Try.func50, Try.ntmps50
  go_upto_region 1 with (fail)
  go_cut [7, 8] (fun a b wx => a = .bool (decide (childP ⟨key, ck, val, pg, ct⟩)) ∧ b = .bool (decide (thereP ⟨key, ck, val, pg, ct⟩)) ∧ ∃ m, wx = (w.alloc (.cells #[.slice A key.length ca, .int .i64 ck, .slice B val.length cb, .int .i64 pg, .int .i64 ct] 32)).drewN m)
  case first =>
    have HCH : Hid (decide (childP ⟨key, ck, val, pg, ct⟩) = (decide (2 ≤ pg) && decide (pg < 65536))) := by
      show _ = _
      rw [Bool.eq_iff_iff, Bool.and_eq_true, decide_eq_true_iff, decide_eq_true_iff, decide_eq_true_iff]; exact Iff.rfl
    have HTH : Hid (decide (thereP ⟨key, ck, val, pg, ct⟩) = ((pg == 0) && (ct == 0))) := by
      show _ = _
      rw [Bool.eq_iff_iff, Bool.and_eq_true, decide_eq_true_iff, beq_iff_eq, beq_iff_eq]; exact Iff.rfl
    by_cases a1 : 2 ≤ pg
    · have e1 : (pg == 0) = false := beq_eq_false_iff_ne.2 (by omega)
      by_cases a2 : pg < 65536
      · go_region
        go_wp2_with fail
        go_meet
        exact ⟨by rw [HCH.out]; simp [a1, a2], by rw [HTH.out]; simp [e1], 1, rfl⟩
      · go_region
        go_wp2_with fail
        go_meet
        exact ⟨by rw [HCH.out, decide_eq_false (show ¬ pg < 65536 by omega), Bool.and_false], by rw [HTH.out]; simp [e1], 1, rfl⟩
    · by_cases a3 : pg = 0
      · subst a3
        rcases Bool.eq_false_or_eq_true (ct == 0) with a4 | a4
        · go_region
          go_wp2_with fail
          go_meet
          exact ⟨by rw [HCH.out]; simp, by rw [HTH.out]; simp [a4], 1, rfl⟩
        · go_region
          go_wp2_with fail
          go_meet
          exact ⟨by rw [HCH.out]; simp, by rw [HTH.out]; simp [a4], 1, rfl⟩
      · have e1 : (pg == 0) = false := beq_eq_false_iff_ne.2 a3
        clear a3
        go_region
        go_wp2_with fail
        go_meet
        exact ⟨by rw [HCH.out, decide_eq_false (show ¬ 2 ≤ pg by omega), Bool.false_and], by rw [HTH.out]; simp [e1], 1, rfl⟩
  case rest =>
    obtain ⟨rfl, rfl, m, rfl⟩ := hcut
    have HM : ∀ bd : Bool, bd = decide (P / 8 < key.length ∨ (kind = 2 ∧ key.length = 0) ∨ (ck ≠ 1 ∧ 0 < val.length)) → Hid (mayP kind P ⟨key, ck, val, pg, ct⟩ = bif bd then false
      else if kind = 3 then (ck == 3) && (decide (childP ⟨key, ck, val, pg, ct⟩) && (decide (1 ≤ ct) && decide (ct ≤ 1073741824)))
      else if ck = 1 then decide (thereP ⟨key, ck, val, pg, ct⟩) && decide (val.length ≤ P / 16 * 3)
      else if ck = 2 then decide (childP ⟨key, ck, val, pg, ct⟩) && (decide ((P : Int) / 16 * 3 < ct) && decide (ct ≤ 65536))
      else if ck = 4 then decide (thereP ⟨key, ck, val, pg, ct⟩) || (decide (childP ⟨key, ck, val, pg, ct⟩) && (decide (1 ≤ ct) && decide (ct ≤ 1073741824)))
      else false) := by
      intro bd hbd
      show _ = _
      unfold mayP
      by_cases hc : P / 8 < key.length ∨ (kind = 2 ∧ key.length = 0) ∨ (ck ≠ 1 ∧ 0 < val.length)
      · rw [if_pos hc, hbd, decide_eq_true hc]; rfl
      · rw [if_neg hc, hbd, decide_eq_false hc]
        simp only [Bool.cond_false, Bool.decide_and, Bool.decide_or]
        rfl
    go_upto_region 2 with (fail)
    go_cut [51] (fun s wx => s = .bool (decide (P / 8 < key.length ∨ (kind = 2 ∧ key.length = 0) ∨ (ck ≠ 1 ∧ 0 < val.length))) ∧ ∃ m, wx = (w.alloc (.cells #[.slice A key.length ca, .int .i64 ck, .slice B val.length cb, .int .i64 pg, .int .i64 ct] 32)).drewN m)
    case first =>
      clear HM
      generalize decide (childP ⟨key, ck, val, pg, ct⟩) = ch at *
      generalize decide (thereP ⟨key, ck, val, pg, ct⟩) = th at *
      by_cases b1 : P / 8 < key.length
      · have b1i : (P : Int) / 8 < (key.length : Int) := by omega
        go_wp2_with fail
        go_meet
        refine ⟨?_, m, ?_⟩
        · first | (simp [b1, b1i]; done) | (simp [b1, b1i]; omega)
        · rfl
      · have b1i : ¬ ((P : Int) / 8 < (key.length : Int)) := by omega
        by_cases q2 : kind = 2
        · subst q2
          rcases Bool.eq_false_or_eq_true (((key.length : Nat) : Int) == 0) with z0 | z0
          · skip
            go_wp2_with fail
            go_meet
            refine ⟨?_, m, ?_⟩
            · first | (simp [b1, b1i, z0, (show key = [] by simpa using z0)]; done) | (simp [b1, b1i, z0, (show key = [] by simpa using z0)]; omega)
            · rfl
          · have z1 : ¬ key = [] := by simpa using z0
            by_cases k1 : ck = 1
            · subst k1
              go_wp2_with fail
              go_meet
              refine ⟨?_, m, ?_⟩
              · first | (simp [b1, b1i, z0, z1]; done) | (simp [b1, b1i, z0, z1]; omega)
              · rfl
            · have k1b : (ck == 1) = false := beq_eq_false_iff_ne.2 k1
              have k1c : (ck != 1) = true := by rw [bne, k1b]; rfl
              by_cases v0 : 0 < val.length
              · have v0i : (0 : Int) < (val.length : Int) := by omega
                go_wp2_with fail
                go_meet
                refine ⟨?_, m, ?_⟩
                · first | (simp [b1, b1i, z0, z1, k1, k1b, v0, v0i]; done) | (simp [b1, b1i, z0, z1, k1, k1b, v0, v0i]; omega)
                · rfl
              · have v0i : ¬ ((0 : Int) < (val.length : Int)) := by omega
                go_wp2_with fail
                go_meet
                refine ⟨?_, m, ?_⟩
                · first | (simp [b1, b1i, z0, z1, k1, k1b, v0, v0i]; done) | (simp [b1, b1i, z0, z1, k1, k1b, v0, v0i]; omega)
                · rfl
        · have q2b : (kind == 2) = false := beq_eq_false_iff_ne.2 q2
          have q2c : (kind != 2) = true := by rw [bne, q2b]; rfl
          by_cases k1 : ck = 1
          · subst k1
            go_wp2_with fail
            go_meet
            refine ⟨?_, m, ?_⟩
            · first | (simp [b1, b1i, q2, q2b]; done) | (simp [b1, b1i, q2, q2b]; omega)
            · rfl
          · have k1b : (ck == 1) = false := beq_eq_false_iff_ne.2 k1
            have k1c : (ck != 1) = true := by rw [bne, k1b]; rfl
            by_cases v0 : 0 < val.length
            · have v0i : (0 : Int) < (val.length : Int) := by omega
              go_wp2_with fail
              go_meet
              refine ⟨?_, m, ?_⟩
              · first | (simp [b1, b1i, q2, q2b, k1, k1b, v0, v0i]; done) | (simp [b1, b1i, q2, q2b, k1, k1b, v0, v0i]; omega)
              · rfl
            · have v0i : ¬ ((0 : Int) < (val.length : Int)) := by omega
              go_wp2_with fail
              go_meet
              refine ⟨?_, m, ?_⟩
              · first | (simp [b1, b1i, q2, q2b, k1, k1b, v0, v0i]; done) | (simp [b1, b1i, q2, q2b, k1, k1b, v0, v0i]; omega)
              · rfl
    case rest =>
      obtain ⟨rfl, m, rfl⟩ := hcut
      have HM := HM _ rfl
      generalize decide (P / 8 < key.length ∨ (kind = 2 ∧ key.length = 0) ∨ (ck ≠ 1 ∧ 0 < val.length)) = bd at *
      generalize decide (childP ⟨key, ck, val, pg, ct⟩) = ch at *
      generalize decide (thereP ⟨key, ck, val, pg, ct⟩) = th at *
      cases bd with
      | true =>
        go_wp2_with fail
        go_ret
        refine ⟨?_, below_drewN hA m⟩
        rw [HM.out]
        first | (simp []; done) | (simp []; omega)
      | false =>
        by_cases q3 : kind = 3
        · subst q3
          by_cases k3 : ck = 3
          · subst k3
            cases ch with
            | true =>
              by_cases d1 : 1 ≤ ct
              · skip
                by_cases d2 : ct ≤ 1073741824
                · skip
                  go_wp2_with fail
                  go_ret
                  refine ⟨?_, below_drewN hA m⟩
                  rw [HM.out]
                  first | (simp [d1, d2]; done) | (simp [d1, d2]; omega)
                · skip
                  go_wp2_with fail
                  go_ret
                  refine ⟨?_, below_drewN hA m⟩
                  rw [HM.out]
                  first | (simp [d1, d2]; done) | (simp [d1, d2]; omega)
              · skip
                go_wp2_with fail
                go_ret
                refine ⟨?_, below_drewN hA m⟩
                rw [HM.out]
                first | (simp [d1]; done) | (simp [d1]; omega)
            | false =>
              go_wp2_with fail
              go_ret
              refine ⟨?_, below_drewN hA m⟩
              rw [HM.out]
              first | (simp []; done) | (simp []; omega)
          · have k3b : (ck == 3) = false := beq_eq_false_iff_ne.2 k3
            have k3c : (ck != 3) = true := by rw [bne, k3b]; rfl
            go_wp2_with fail
            go_ret
            refine ⟨?_, below_drewN hA m⟩
            rw [HM.out]
            first | (simp [k3, k3b]; done) | (simp [k3, k3b]; omega)
        · have q3b : (kind == 3) = false := beq_eq_false_iff_ne.2 q3
          have q3c : (kind != 3) = true := by rw [bne, q3b]; rfl
          by_cases k1 : ck = 1
          · subst k1
            cases th with
            | true =>
              by_cases v2 : val.length ≤ P / 16 * 3
              · have v2i : (val.length : Int) ≤ (P : Int) / 16 * 3 := by omega
                go_wp2_with fail
                go_ret
                refine ⟨?_, below_drewN hA m⟩
                rw [HM.out]
                first | (simp [q3, q3b, v2, v2i]; done) | (simp [q3, q3b, v2, v2i]; omega)
              · have v2i : ¬ ((val.length : Int) ≤ (P : Int) / 16 * 3) := by omega
                go_wp2_with fail
                go_ret
                refine ⟨?_, below_drewN hA m⟩
                rw [HM.out]
                first | (simp [q3, q3b, v2, v2i]; done) | (simp [q3, q3b, v2, v2i]; omega)
            | false =>
              go_wp2_with fail
              go_ret
              refine ⟨?_, below_drewN hA m⟩
              rw [HM.out]
              first | (simp [q3, q3b]; done) | (simp [q3, q3b]; omega)
          · have k1b : (ck == 1) = false := beq_eq_false_iff_ne.2 k1
            have k1c : (ck != 1) = true := by rw [bne, k1b]; rfl
            by_cases k2 : ck = 2
            · subst k2
              cases ch with
              | true =>
                by_cases d3 : (P : Int) / 16 * 3 < ct
                · skip
                  by_cases d4 : ct ≤ 65536
                  · skip
                    go_wp2_with fail
                    go_ret
                    refine ⟨?_, below_drewN hA m⟩
                    rw [HM.out]
                    first | (simp [q3, q3b, k1, k1b, d3, d4]; done) | (simp [q3, q3b, k1, k1b, d3, d4]; omega)
                  · skip
                    go_wp2_with fail
                    go_ret
                    refine ⟨?_, below_drewN hA m⟩
                    rw [HM.out]
                    first | (simp [q3, q3b, k1, k1b, d3, d4]; done) | (simp [q3, q3b, k1, k1b, d3, d4]; omega)
                · skip
                  go_wp2_with fail
                  go_ret
                  refine ⟨?_, below_drewN hA m⟩
                  rw [HM.out]
                  first | (simp [q3, q3b, k1, k1b, d3]; done) | (simp [q3, q3b, k1, k1b, d3]; omega)
              | false =>
                go_wp2_with fail
                go_ret
                refine ⟨?_, below_drewN hA m⟩
                rw [HM.out]
                first | (simp [q3, q3b, k1, k1b]; done) | (simp [q3, q3b, k1, k1b]; omega)
            · have k2b : (ck == 2) = false := beq_eq_false_iff_ne.2 k2
              have k2c : (ck != 2) = true := by rw [bne, k2b]; rfl
              by_cases k4 : ck = 4
              · subst k4
                cases th with
                | true =>
                  go_wp2_with fail
                  go_ret
                  refine ⟨?_, below_drewN hA m⟩
                  rw [HM.out]
                  first | (simp [q3, q3b, k1, k1b, k2, k2b]; done) | (simp [q3, q3b, k1, k1b, k2, k2b]; omega)
                | false =>
                  cases ch with
                  | true =>
                    by_cases d1 : 1 ≤ ct
                    · skip
                      by_cases d2 : ct ≤ 1073741824
                      · skip
                        go_wp2_with fail
                        go_ret
                        refine ⟨?_, below_drewN hA m⟩
                        rw [HM.out]
                        first | (simp [q3, q3b, k1, k1b, k2, k2b, d1, d2]; done) | (simp [q3, q3b, k1, k1b, k2, k2b, d1, d2]; omega)
                      · skip
                        go_wp2_with fail
                        go_ret
                        refine ⟨?_, below_drewN hA m⟩
                        rw [HM.out]
                        first | (simp [q3, q3b, k1, k1b, k2, k2b, d1, d2]; done) | (simp [q3, q3b, k1, k1b, k2, k2b, d1, d2]; omega)
                    · skip
                      go_wp2_with fail
                      go_ret
                      refine ⟨?_, below_drewN hA m⟩
                      rw [HM.out]
                      first | (simp [q3, q3b, k1, k1b, k2, k2b, d1]; done) | (simp [q3, q3b, k1, k1b, k2, k2b, d1]; omega)
                  | false =>
                    go_wp2_with fail
                    go_ret
                    refine ⟨?_, below_drewN hA m⟩
                    rw [HM.out]
                    first | (simp [q3, q3b, k1, k1b, k2, k2b]; done) | (simp [q3, q3b, k1, k1b, k2, k2b]; omega)
              · have k4b : (ck == 4) = false := beq_eq_false_iff_ne.2 k4
                have k4c : (ck != 4) = true := by rw [bne, k4b]; rfl
                go_wp2_with fail
                go_ret
                refine ⟨?_, below_drewN hA m⟩
                rw [HM.out]
                first | (simp [q3, q3b, k1, k1b, k2, k2b, k4, k4b]; done) | (simp [q3, q3b, k1, k1b, k2, k2b, k4, k4b]; omega)
end Go.Proofs.Ytonbcipofakpjaa

-- Powers of two from 512 to 65536.
namespace Go.Proofs.Ytonbcipofakpjaa
open Go.RowKit
def isPow (p : Int) : Prop := p = 512 ∨ p = 1024 ∨ p = 2048 ∨ p = 4096 ∨ p = 8192 ∨ p = 16384 ∨ p = 32768 ∨ p = 65536
instance (p : Int) : Decidable (isPow p) := by unfold isPow; infer_instance
def isPowB (p : Int) : Bool := decide (isPow p)
theorem and_pred (k p : Nat) (h1 : 2 ^ k ≤ p) (h2 : p < 2 ^ (k + 1)) : p &&& (p - 1) = 0 ↔ p = 2 ^ k := by
  constructor
  · intro h
    rcases Nat.lt_or_ge (2 ^ k) p with hlt | hge
    · have h3 : p.testBit k = true := by
        have := Nat.testBit_two_pow_add_eq (p - 2 ^ k) k
        rw [show 2 ^ k + (p - 2 ^ k) = p by omega] at this
        rw [this, Nat.testBit_lt_two_pow (by rw [Nat.pow_succ] at h2; omega)]; rfl
      have h4 : (p - 1).testBit k = true := by
        have := Nat.testBit_two_pow_add_eq (p - 1 - 2 ^ k) k
        rw [show 2 ^ k + (p - 1 - 2 ^ k) = p - 1 by omega] at this
        rw [this, Nat.testBit_lt_two_pow (by rw [Nat.pow_succ] at h2; omega)]; rfl
      have h5 := congrArg (fun x => Nat.testBit x k) h
      simp [Nat.testBit_and, h3, h4] at h5
    · omega
  · rintro rfl
    apply Nat.eq_of_testBit_eq
    intro i
    rw [Nat.testBit_and, Nat.testBit_two_pow, Nat.testBit_two_pow_sub_one]
    by_cases h : k = i
    · subst h; simp
    · simp [h]
theorem i64_and_nat (a b : Nat) (ha : a < 9223372036854775808) (hb : b < 9223372036854775808) : bits .and .i64 (a : Int) (b : Int) = ((a &&& b : Nat) : Int) := by
  have oi : ∀ a : Nat, a < 9223372036854775808 → (BitVec.ofInt 64 (a : Int)).toNat = a := fun a ha => by
    rw [BitVec.ofInt_natCast, BitVec.toNat_ofNat]; exact Nat.mod_eq_of_lt (by omega)
  have hx : a &&& b < 2 ^ 63 := Nat.and_lt_two_pow _ (by omega)
  show IntKind.i64.wrap ((BitVec.ofInt 64 (a : Int) &&& BitVec.ofInt 64 (b : Int)).toNat : Int) = _
  rw [BitVec.toNat_and, oi a ha, oi b hb, IntKind.wrap_i64]
  omega
theorem pow_test (p : Int) (h1 : 512 ≤ p) (h2 : p ≤ 65536) : (bits .and .i64 p (p - 1) != 0) = !isPowB p := by
  obtain ⟨n, rfl⟩ := Int.eq_ofNat_of_zero_le (show 0 ≤ p by omega)
  have e : ((n : Int) - 1) = ((n - 1 : Nat) : Int) := by omega
  rw [e, i64_and_nat n (n - 1) (by omega) (by omega)]
  have key : n &&& (n - 1) = 0 ↔ isPow n := by
    unfold isPow
    rcases Nat.lt_or_ge n 1024 with h | h
    · rw [and_pred 9 n (by omega) (by omega)]; omega
    rcases Nat.lt_or_ge n 2048 with h | h
    · rw [and_pred 10 n (by omega) (by omega)]; omega
    rcases Nat.lt_or_ge n 4096 with h | h
    · rw [and_pred 11 n (by omega) (by omega)]; omega
    rcases Nat.lt_or_ge n 8192 with h | h
    · rw [and_pred 12 n (by omega) (by omega)]; omega
    rcases Nat.lt_or_ge n 16384 with h | h
    · rw [and_pred 13 n (by omega) (by omega)]; omega
    rcases Nat.lt_or_ge n 32768 with h | h
    · rw [and_pred 14 n (by omega) (by omega)]; omega
    rcases Nat.lt_or_ge n 65536 with h | h
    · rw [and_pred 15 n (by omega) (by omega)]; omega
    · rw [and_pred 16 n (by omega) (by omega)]; omega
  unfold isPowB
  by_cases h : isPow n
  · rw [key.2 h]; simp [h]
  · have : n &&& (n - 1) ≠ 0 := fun h' => h (key.1 h')
    simp only [h, decide_false, Bool.not_false, bne_iff_ne]; omega
theorem isPowB_range {p : Int} (h : isPowB p = true) : 512 ≤ p ∧ p ≤ 65536 := by
  have := of_decide_eq_true h
  unfold isPow at this
  omega
theorem pow_eq (p : Int) (h1 : 512 ≤ p) (h2 : p ≤ 65536) : (bits .and .i64 p (p - 1) == 0) = isPowB p := by
  have h := pow_test p h1 h2
  have e : (bits .and .i64 p (p - 1) != 0) = !(bits .and .i64 p (p - 1) == 0) := rfl
  rw [e] at h
  simpa using h
theorem isPowB_out {p : Int} (h : p < 512 ∨ 65536 < p) : isPowB p = false := by
  cases e : isPowB p
  · rfl
  · have := isPowB_range e
    omega
end Go.Proofs.Ytonbcipofakpjaa

-- plain.isKind, isPage, Size, number, part: walks.
namespace Go.Proofs.Ytonbcipofakpjaa
open Go.RowKit
set_option maxRecDepth 20000 in
set_option maxHeartbeats 1000000 in
theorem isPage_any (p : Int) (hp : -9223372036854775808 ≤ p ∧ p ≤ 9223372036854775807) (w : World) : Calls Try.prog 49 #[.int .i64 p] w fun e w' => e = .returned (.bool (isPowB p)) ∧ w = w' := by
  by_cases h1 : p < 512
  · have HV := Lib.hid (isPowB_out (.inl h1))
    go_enter Try.func49, Try.ntmps49
    go_wp2_with fail
    go_ret
    rw [HV.out]
    exact ⟨rfl, rfl⟩
  by_cases h2 : 65536 < p
  · have HV := Lib.hid (isPowB_out (.inr h2))
    go_enter Try.func49, Try.ntmps49
    go_wp2_with fail
    go_ret
    rw [HV.out]
    exact ⟨rfl, rfl⟩
  have hq := pow_eq p (by omega) (by omega)
  go_enter Try.func49, Try.ntmps49
  go_wp2_with fail
  go_ret
  exact ⟨rfl, rfl⟩
set_option maxRecDepth 20000 in
set_option maxHeartbeats 1000000 in
theorem isKind_any (k : Int) (w : World) : Calls Try.prog 48 #[.int .i64 k] w fun e w' => e = .returned (.bool (isKindB k)) ∧ w = w' := by
  by_cases h1 : k = 2
  · subst h1
    go_enter Try.func48, Try.ntmps48
    go_wp2_with fail
    go_ret
    exact ⟨rfl, rfl⟩
  · have e1 : (k == 2) = false := beq_eq_false_iff_ne.2 h1
    by_cases h2 : k = 3
    · subst h2
      go_enter Try.func48, Try.ntmps48
      go_wp2_with fail
      go_ret
      exact ⟨rfl, rfl⟩
    · have e2 : (k == 3) = false := beq_eq_false_iff_ne.2 h2
      have HK : Hid (isKindB k = false) := by show _ = _; unfold isKindB; exact decide_eq_false (by omega)
      clear h1 h2
      go_enter Try.func48, Try.ntmps48
      go_wp2_with fail
      go_ret
      rw [HK.out]
      exact ⟨rfl, rfl⟩
theorem longs_mem {l : List PC} {c : PC} (h : c ∈ l) : 2 + longF c ≤ sizeF l := by
  induction l with
  | nil => cases h
  | cons x r ih =>
    simp only [sizeF]
    rcases List.mem_cons.1 h with rfl | h
    · omega
    · have := ih h; omega
theorem key_long (c : PC) : c.key.length + c.val.length ≤ longF c + c.val.length := by unfold longF; split <;> omega
theorem sizeF_take (l : List PC) {i : Nat} (hi : i < l.length) : sizeF (l.take (i + 1)) = sizeF (l.take i) + (2 + longF l[i]) := by
  rw [List.take_succ_eq_append_getElem hi, sizeF_append]
  simp only [sizeF]; omega
theorem sizeF_take_le (l : List PC) (i : Nat) : sizeF (l.take i) ≤ sizeF l := by
  have : sizeF l = sizeF (l.take i) + (sizeF (l.drop i) - 8) := by rw [← sizeF_append, List.take_append_drop]
  omega
/-- Lengths that a machine has. -/
def Fit (l : List PC) : Prop := sizeF l ≤ 4611686018427387904 ∧ ∀ c ∈ l, c.key.length + c.val.length ≤ 4611686018427387904
set_option maxRecDepth 100000 in
set_option maxHeartbeats 4000000 in
theorem Size_any (kind : Int) (v : Value) (l : List CV) (w : World) (hl : RdCs w v l) (hf : Fit (pcs l)) :
    Calls Try.prog 16 #[.int .i64 kind, v] w fun e w' => e = .returned (.int .i64 (sizeF (pcs l) : Nat)) ∧ Below w.heap.size w w' := by
  obtain ⟨A, c, rfl, hm, hc⟩ := hl.slice
  obtain ⟨hf1, hf2⟩ := hf
  have HF2 := Lib.hid hf2
  clear hf2
  go_enter Try.func16, Try.ntmps16
  go_wp2_with fail
  go_loopw [5, 10] (fun n i wr => ∃ k : Nat, k ≤ l.length ∧ i = .int .i64 (k : Int) ∧ n = .int .i64 (sizeF ((pcs l).take k) : Nat) ∧ Below w.heap.size w wr) (fun _ i _ => l.length - (intOf i).toNat)
  case atStart => exact ⟨0, Nat.zero_le _, rfl, rfl, Below.refl _ _⟩
  case round =>
    obtain ⟨k, hk, rfl, rfl, hB⟩ := hrel
    by_cases hlt : k < l.length
    · have ik : (k : Int) < (l.length : Int) := by omega
      have hS := sizeF_take (pcs l) (i := k) (by rw [pcs_length]; exact hlt)
      have hS1 := sizeF_take_le (pcs l) (k + 1)
      rw [pcs_at hlt] at hS
      have hmem : l[k].c ∈ pcs l := by rw [← pcs_at hlt]; exact List.getElem_mem _
      have hkv := HF2.out _ hmem
      obtain ⟨ad, rfl, c0, c1, c2, c3, c4⟩ := (hl.below hB).at_ hlt
      have hx := (hl.below hB).ok _ (List.getElem_mem hlt)
      generalize l[k] = x at *
      obtain ⟨A1, a1, B1, b1, key, ck, val, pg, ct, rfl, _, _⟩ := CV.form hx
      have hlo := fun W => long_any ⟨.slice A1 key.length a1, .slice B1 val.length b1, ⟨key, ck, val, pg, ct⟩⟩ W
      unfold cellV at hlo
      have hA := hB.trans ((((Below.refl wr.heap.size wr).alloc (Nat.le_refl _) (.cells #[.slice A1 key.length a1, .int .i64 ck, .slice B1 val.length b1, .int .i64 pg, .int .i64 ct] 32))).mono hB.size)
      have hx' : CV.ok (wr.alloc (.cells #[.slice A1 key.length a1, .int .i64 ck, .slice B1 val.length b1, .int .i64 pg, .int .i64 ct] 32)) ⟨.slice A1 key.length a1, .slice B1 val.length b1, ⟨key, ck, val, pg, ct⟩⟩ := hx.below ((Below.refl _ _).alloc (Nat.le_refl _) _)
      have hS' : sizeF ((pcs l).take (k + 1)) = sizeF ((pcs l).take k) + (2 + longF ⟨key, ck, val, pg, ct⟩) := hS
      have HS := Lib.hid hS'
      have hkv' : key.length + val.length ≤ 4611686018427387904 := hkv
      have hS2 : sizeF ((pcs l).take k) + (2 + longF ⟨key, ck, val, pg, ct⟩) ≤ 4611686018427387904 := by omega
      generalize sizeF ((pcs l).take k) = s at *
      generalize longF ⟨key, ck, val, pg, ct⟩ = lo at *
      clear hS hS' hS1 hmem hx hB hkv
      go_wp2_with fail
      refine (hlo _ hx' (show key.length + val.length ≤ 9223372036854775000 by omega)).mono ?_
      rintro e w2 ⟨rfl, hb2⟩
      have hB2 := hA.trans (hb2.mono hA.size)
      go_wp2_with fail
      go_roundw
      case rel => exact ⟨k + 1, by omega, by go_num, by rw [HS.out]; go_num, hB2⟩
      case measure => simp [intOf]; omega
    · obtain rfl : k = l.length := by omega
      have e : (pcs l).take l.length = pcs l := List.take_of_length_le (by rw [pcs_length]; omega)
      rw [e]
      go_wp2_with fail
      go_ret
      exact ⟨rfl, hB⟩
set_option maxRecDepth 20000 in
set_option maxHeartbeats 1000000 in
theorem number_any (v : Value) (b : List UInt8) (at_ wd : Nat) (h1 : 1 ≤ wd) (h4 : wd ≤ 4) (ha : at_ + wd ≤ b.length) (w : World) (hv : RdB w v b) :
    Calls Try.prog 56 #[v, .int .i64 (at_ : Int), .int .i64 (wd : Int)] w fun e w' => e = .returned (.int .i64 (numAt b at_ wd : Nat)) ∧ w = w' := by
  have hn : numF ((b.drop at_).take wd) < 4294967296 := by
    refine Nat.lt_of_lt_of_le (numF_lt _) ?_
    calc 256 ^ ((b.drop at_).take wd).length ≤ 256 ^ 4 := Nat.pow_le_pow_right (by omega) (by simp; omega)
      _ = 4294967296 := by decide
  have hr := ReadFixed_any v b at_ wd h1 (by omega) ha w hv
  unfold numAt
  obtain ⟨A, c, rfl, hm⟩ := hv.form
  generalize numF ((b.drop at_).take wd) = q at *
  go_enter Try.func56, Try.ntmps56
  go_wp2_with fail
  refine hr.mono ?_
  rintro e w1 ⟨rfl, rfl⟩
  go_wp2_with fail
  go_ret
  exact ⟨by go_num, rfl⟩
theorem RdB.recap {w : World} {A : Option Addr} {n c c' : Nat} {l : List UInt8} (h : RdB w (.slice A n c) l) (h1 : n ≤ c') (h2 : c' ≤ maxLen) : RdB w (.slice A n c') l := by
  obtain ⟨A', c'', hv, k1, k2, k3⟩ := h
  injection hv with hA hn hc
  subst hA hn hc
  exact ⟨A, c', rfl, h1, h2, k3⟩
/-- x[lo:lo+n:lo+n] -/
theorem RdB.run_lhm {w : World} {A : Option Addr} {m c : Nat} {l : List UInt8} (h : RdB w (.slice A m c) l) (lo n : Nat) (h1 : lo + n ≤ l.length) :
    ∃ A', (∀ w', (Instr.slice 27 (.slice A m c) (some (.int .i64 (lo : Int))) (some (.int .i64 ((lo : Int) + (n : Int)))) (some (.int .i64 ((lo : Int) + (n : Int))))).run Try.prog w' = .ok (.slice A' n n) w') ∧ RdB w (.slice A' n n) ((l.drop lo).take n) := by
  obtain ⟨_, hc, hm⟩ := h.cap
  have e : ((lo : Int) + (n : Int)).toNat = lo + n := by omega
  refine ⟨if n = 0 then A else A.map (·.add lo), fun w' => ?_, ?_⟩
  · have := run_slice_lhm (P := Try.prog) w' 27 A m c u8_elem .i64 .i64 .i64 lo ((lo : Int) + n) ((lo : Int) + n) (by omega) (by omega) (by omega) (by omega)
    rw [this, u8_sizeOf]
    simp [Result.andThen, sliced, e]
  · by_cases h0 : n = 0
    · subst h0
      exact ⟨A, 0, by simp, by simp, by simp [maxLen], fun j hj => by simp at hj⟩
    · have hr := h.cut (lo := lo) (hi := lo + n) (by omega) h1
      rw [show lo + n - lo = n by omega, ← List.take_drop, if_neg (show ¬ c = lo by omega)] at hr
      rw [if_neg h0]
      exact hr.recap (Nat.le_refl _) (by simp only [maxLen]; omega)
set_option maxRecDepth 20000 in
set_option maxHeartbeats 1000000 in
theorem part_any (v : Value) (b : List UInt8) (at_ n : Nat) (ha : at_ + n ≤ b.length) (hb : b.length ≤ 140737488355328) (w : World) (hv : RdB w v b) :
    Calls Try.prog 81 #[v, .int .i64 (at_ : Int), .int .i64 (n : Int)] w fun e w' => ∃ g, e = .returned (.slice (some ⟨g, 0, none⟩) n n) ∧ g = w.heap.size ∧ OwB w' w.heap.size (.slice (some ⟨g, 0, none⟩) n n) ((b.drop at_).take n) ∧ Below w.heap.size w w' := by
  obtain ⟨A, c, rfl, hm⟩ := hv.form
  obtain ⟨A', hq, hr⟩ := hv.run_lhm at_ n ha
  have hl : ((b.drop at_).take n).length = n := by simp; omega
  have hw : IntKind.i64.wrap ((at_ : Int) + (n : Int)) = (at_ : Int) + (n : Int) := by rw [IntKind.wrap_i64]; omega
  go_enter Try.func81, Try.ntmps81
  go_wp2_with (first | (at_make; refine wp_make_B rfl (.tmp 19) (.tmp 19) rfl _ n rfl rfl rfl (by omega) ?_; intro w1 hb1 hw1 hs1) | ((with_reducible refine at_copy ?_); refine wp_copy_B rfl (.tmp 21) (.tmp 22) rfl _ n n w.heap.size 0 rfl _ hb1 (fun _ => rfl) (by simp) _ _ rfl (hr.below hw1 (Nat.le_refl _)) ?_; intro w2 hb2 hg2) | fail)
  go_ret
  have e : splice (List.replicate n (0 : UInt8)) 0 (((b.drop at_).take n).take (min ((b.drop at_).take n).length n)) = (b.drop at_).take n := by
    rw [hl, Nat.min_self, List.take_of_length_le (by omega)]
    unfold splice
    rw [hl]
    simp
  rw [e] at hb2
  have := hb2.owB' (base := w.heap.size) (Nat.le_refl _) (by rw [hl]; simp only [maxLen]; omega)
  rw [hl] at this
  exact ⟨_, rfl, rfl, this, hw1.grown hg2 hw1.size (fun k hk => Nat.le_of_eq (Option.some.inj hk))⟩
end Go.Proofs.Ytonbcipofakpjaa

-- espalierref06.May: the walk.
namespace Go.Proofs.Ytonbcipofakpjaa
open Go.RowKit
def numB (n : Int) : Bool := decide (2 ≤ n ∧ n < 65536)
set_option maxRecDepth 20000 in
theorem numbered_any (n : Int) (w : World) : Calls Try.prog 73 #[.int .i64 n] w fun e w' => e = .returned (.bool (numB n)) ∧ w = w' := by
  by_cases h1 : 2 ≤ n
  · by_cases h2 : n < 65536
    · have HV : Hid (numB n = true) := Lib.hid (decide_eq_true ⟨h1, h2⟩)
      go_enter Try.func73, Try.ntmps73
      go_wp2_with fail
      go_ret
      rw [HV.out]; exact ⟨rfl, rfl⟩
    · have HV : Hid (numB n = false) := Lib.hid (decide_eq_false (by omega))
      go_enter Try.func73, Try.ntmps73
      go_wp2_with fail
      go_ret
      rw [HV.out]; exact ⟨rfl, rfl⟩
  · have HV : Hid (numB n = false) := Lib.hid (decide_eq_false (by omega))
    go_enter Try.func73, Try.ntmps73
    go_wp2_with fail
    go_ret
    rw [HV.out]; exact ⟨rfl, rfl⟩
theorem numbered_any' (n : Int) (b : Bool) (w : World) (h : numB n = b) : Calls Try.prog 73 #[.int .i64 n] w fun e w' => e = .returned (.bool b) ∧ w' = w :=
  (numbered_any n w).mono fun e w' ⟨h1, h2⟩ => ⟨by rw [← h]; exact h1, h2.symm⟩
theorem MostKey_any' (P : Nat) (w : World) (hP : P ≤ 65536) : Calls Try.prog 72 #[.int .i64 (P : Int)] w fun e w' => e = .returned (.int .i64 ((P : Int) / 8)) ∧ w' = w := by
  go_enter Try.func72, Try.ntmps72
  go_wp2_with fail
  go_ret
  exact ⟨rfl, rfl⟩
theorem MostValue_any' (P : Nat) (w : World) (hP : P ≤ 65536) : Calls Try.prog 74 #[.int .i64 (P : Int)] w fun e w' => e = .returned (.int .i64 (3 * ((P : Int) / 16))) ∧ w' = w := by
  go_enter Try.func74, Try.ntmps74
  go_wp2_with fail
  go_ret
  exact ⟨rfl, rfl⟩
set_option maxRecDepth 100000 in
set_option maxHeartbeats 8000000 in
theorem RMay_any (kind : Int) (P : Nat) (hk : kind = 2 ∨ kind = 3) (hP : P ≤ 65536) (x : CV) (w : World) (hx : x.ok w) : Calls Try.prog 43 #[.int .i64 kind, .int .i64 (P : Int), cellV x] w fun e w' => e = .returned (.bool (mayP kind P x.c)) ∧ Below w.heap.size w w' := by
  obtain ⟨A, ca, B, cb, key, ck, val, pg, ct, rfl, _, _⟩ := CV.form hx
  have hA : Below w.heap.size w (w.alloc (.cells #[.slice A key.length ca, .int .i64 ck, .slice B val.length cb, .int .i64 pg, .int .i64 ct] 32)) := (Below.refl _ _).alloc (Nat.le_refl _) _
  obtain ⟨c0, c1, c2, c3, c4⟩ := cells5 (OBlk.new' w 32 [.slice A key.length ca, .int .i64 ck, .slice B val.length cb, .int .i64 pg, .int .i64 ct])
  unfold cellV
  clear hx
  go_enter Try.func43, Try.ntmps43
  go_upto_region 1 with (fail)
  generalize w.alloc (.cells #[.slice A key.length ca, .int .i64 ck, .slice B val.length cb, .int .i64 pg, .int .i64 ct] 32) = w0 at *
  by_cases b : P / 8 < key.length
  · have b1 : (P : Int) / 8 < (key.length : Int) := by omega
    have HV : Hid (mayP kind P ⟨key, ck, val, pg, ct⟩ = false) := Lib.hid (by unfold mayP; rw [if_pos (.inl b)])
    clear b hk
    go_quiet ((go_at_call 72; exact Calls.quiet_of_same (MostKey_any' P _ hP)))
    go_wp2_with fail
    go_ret
    rw [HV.out]
    exact ⟨rfl, below_drewN hA _⟩
  have b1 : ¬ (P : Int) / 8 < (key.length : Int) := by omega
  go_quiet ((go_at_call 72; exact Calls.quiet_of_same (MostKey_any' P _ hP)))
  have d0 : (w0.drewN nq).cell? ⟨w.heap.size, 0, none⟩ = some (.slice A key.length ca) := c0
  have d1 : (w0.drewN nq).cell? ⟨w.heap.size, 1, none⟩ = some (.int .i64 ck) := c1
  have d2 : (w0.drewN nq).cell? ⟨w.heap.size, 2, none⟩ = some (.slice B val.length cb) := c2
  have d3 : (w0.drewN nq).cell? ⟨w.heap.size, 3, none⟩ = some (.int .i64 pg) := c3
  have d4 : (w0.drewN nq).cell? ⟨w.heap.size, 4, none⟩ = some (.int .i64 ct) := c4
  have hB := below_drewN hA nq
  clear c0 c1 c2 c3 c4 hA
  generalize w0.drewN nq = w9 at *
  rcases hk with rfl | rfl
  · by_cases z : key.length = 0
    · have z1 : (key.length : Int) < 1 := by omega
      have HV : Hid (mayP 2 P ⟨key, ck, val, pg, ct⟩ = false) := Lib.hid (by unfold mayP; rw [if_pos (.inr (.inl ⟨rfl, z⟩))])
      clear z b
      go_wp2_with fail
      go_ret
      rw [HV.out]
      exact ⟨rfl, hB⟩
    · have z1 : ¬ (key.length : Int) < 1 := by omega
      by_cases k1 : ck = 1
      · have k10 : (ck == 1) = true := beq_iff_eq.2 k1
        subst k1
        clear k10
        by_cases v : val.length ≤ 3 * (P / 16)
        · have v0 : (val.length : Int) ≤ 3 * ((P : Int) / 16) := by omega
          have v1 : decide ((val.length : Int) ≤ 3 * ((P : Int) / 16)) = true := decide_eq_true (by omega)
          by_cases p : pg = 0
          · have p0 : (pg == 0) = true := beq_iff_eq.2 p
            by_cases c : ct = 0
            · have c0 : (ct == 0) = true := beq_iff_eq.2 c
              have HV : Hid (mayP 2 P ⟨key, 1, val, pg, ct⟩ = true) := Lib.hid (by unfold mayP childP thereP; dsimp only; (repeat' split) <;> first | rfl | (exfalso; omega) | exact decide_eq_true (by omega) | exact decide_eq_false (by omega))
              clear v p c
              go_upto_region 9 with (fail)
              go_quiet ((go_at_call 74; exact Calls.quiet_of_same (MostValue_any' P _ hP)))
              go_wp2_with fail
              go_ret
              rw [HV.out]
              exact ⟨rfl, below_drewN hB _⟩
            · have c0 : (ct == 0) = false := beq_eq_false_iff_ne.2 c
              have HV : Hid (mayP 2 P ⟨key, 1, val, pg, ct⟩ = false) := Lib.hid (by unfold mayP childP thereP; dsimp only; (repeat' split) <;> first | rfl | (exfalso; omega) | exact decide_eq_true (by omega) | exact decide_eq_false (by omega))
              clear v p c
              go_upto_region 9 with (fail)
              go_quiet ((go_at_call 74; exact Calls.quiet_of_same (MostValue_any' P _ hP)))
              go_wp2_with fail
              go_ret
              rw [HV.out]
              exact ⟨rfl, below_drewN hB _⟩
          · have p0 : (pg == 0) = false := beq_eq_false_iff_ne.2 p
            have HV : Hid (mayP 2 P ⟨key, 1, val, pg, ct⟩ = false) := Lib.hid (by unfold mayP childP thereP; dsimp only; (repeat' split) <;> first | rfl | (exfalso; omega) | exact decide_eq_true (by omega) | exact decide_eq_false (by omega))
            clear v p
            go_upto_region 9 with (fail)
            go_quiet ((go_at_call 74; exact Calls.quiet_of_same (MostValue_any' P _ hP)))
            go_wp2_with fail
            go_ret
            rw [HV.out]
            exact ⟨rfl, below_drewN hB _⟩
        · have v0 : ¬ (val.length : Int) ≤ 3 * ((P : Int) / 16) := by omega
          have v1 : decide ((val.length : Int) ≤ 3 * ((P : Int) / 16)) = false := decide_eq_false (by omega)
          have HV : Hid (mayP 2 P ⟨key, 1, val, pg, ct⟩ = false) := Lib.hid (by unfold mayP childP thereP; dsimp only; (repeat' split) <;> first | rfl | (exfalso; omega) | exact decide_eq_true (by omega) | exact decide_eq_false (by omega))
          clear v
          go_upto_region 9 with (fail)
          go_quiet ((go_at_call 74; exact Calls.quiet_of_same (MostValue_any' P _ hP)))
          go_wp2_with fail
          go_ret
          rw [HV.out]
          exact ⟨rfl, below_drewN hB _⟩
      · have k10 : (ck == 1) = false := beq_eq_false_iff_ne.2 k1
        by_cases k2 : ck = 2
        · have k20 : (ck == 2) = true := beq_iff_eq.2 k2
          subst k2
          clear k20 k10
          by_cases v : val.length = 0
          · have v0 : ((val.length : Int) == 0) = true := beq_iff_eq.2 (by omega)
            by_cases nb : 2 ≤ pg ∧ pg < 65536
            · have HNB : Hid (numB pg = true) := Lib.hid (decide_eq_true nb)
              by_cases g : ((3 * (P / 16) : Nat) : Int) < ct
              · have g0 : 3 * ((P : Int) / 16) < ct := by omega
                have g1 : decide (3 * ((P : Int) / 16) < ct) = true := decide_eq_true (by omega)
                by_cases h : ct ≤ 65536
                · have h0 : ct ≤ 65536 := by omega
                  have h1 : decide (ct ≤ 65536) = true := decide_eq_true (by omega)
                  have HV : Hid (mayP 2 P ⟨key, 2, val, pg, ct⟩ = true) := Lib.hid (by unfold mayP childP thereP; dsimp only; (repeat' split) <;> first | rfl | (exfalso; omega) | exact decide_eq_true (by omega) | exact decide_eq_false (by omega))
                  clear v nb g h
                  go_upto_region 11 with (fail)
                  go_quiet ((first | (go_at_call 74; exact Calls.quiet_of_same (MostValue_any' P _ hP)) | (go_at_call 73; exact Calls.quiet_of_same ((numbered_any' pg _ _ HNB.out)))))
                  go_wp2_with fail
                  go_ret
                  rw [HV.out]
                  exact ⟨rfl, below_drewN hB _⟩
                · have h0 : ¬ ct ≤ 65536 := by omega
                  have h1 : decide (ct ≤ 65536) = false := decide_eq_false (by omega)
                  have HV : Hid (mayP 2 P ⟨key, 2, val, pg, ct⟩ = false) := Lib.hid (by unfold mayP childP thereP; dsimp only; (repeat' split) <;> first | rfl | (exfalso; omega) | exact decide_eq_true (by omega) | exact decide_eq_false (by omega))
                  clear v nb g h
                  go_upto_region 11 with (fail)
                  go_quiet ((first | (go_at_call 74; exact Calls.quiet_of_same (MostValue_any' P _ hP)) | (go_at_call 73; exact Calls.quiet_of_same ((numbered_any' pg _ _ HNB.out)))))
                  go_wp2_with fail
                  go_ret
                  rw [HV.out]
                  exact ⟨rfl, below_drewN hB _⟩
              · have g0 : ¬ 3 * ((P : Int) / 16) < ct := by omega
                have g1 : decide (3 * ((P : Int) / 16) < ct) = false := decide_eq_false (by omega)
                have HV : Hid (mayP 2 P ⟨key, 2, val, pg, ct⟩ = false) := Lib.hid (by unfold mayP childP thereP; dsimp only; (repeat' split) <;> first | rfl | (exfalso; omega) | exact decide_eq_true (by omega) | exact decide_eq_false (by omega))
                clear v nb g
                go_upto_region 11 with (fail)
                go_quiet ((first | (go_at_call 74; exact Calls.quiet_of_same (MostValue_any' P _ hP)) | (go_at_call 73; exact Calls.quiet_of_same ((numbered_any' pg _ _ HNB.out)))))
                go_wp2_with fail
                go_ret
                rw [HV.out]
                exact ⟨rfl, below_drewN hB _⟩
            · have HNB : Hid (numB pg = false) := Lib.hid (decide_eq_false nb)
              have HV : Hid (mayP 2 P ⟨key, 2, val, pg, ct⟩ = false) := Lib.hid (by unfold mayP childP thereP; dsimp only; (repeat' split) <;> first | rfl | (exfalso; omega) | exact decide_eq_true (by omega) | exact decide_eq_false (by omega))
              clear v nb
              go_upto_region 11 with (fail)
              go_quiet ((first | (go_at_call 74; exact Calls.quiet_of_same (MostValue_any' P _ hP)) | (go_at_call 73; exact Calls.quiet_of_same ((numbered_any' pg _ _ HNB.out)))))
              go_wp2_with fail
              go_ret
              rw [HV.out]
              exact ⟨rfl, below_drewN hB _⟩
          · have v0 : ((val.length : Int) == 0) = false := beq_eq_false_iff_ne.2 (by omega)
            have HV : Hid (mayP 2 P ⟨key, 2, val, pg, ct⟩ = false) := Lib.hid (by unfold mayP childP thereP; dsimp only; (repeat' split) <;> first | rfl | (exfalso; omega) | exact decide_eq_true (by omega) | exact decide_eq_false (by omega))
            clear v
            go_upto_region 11 with (fail)
            go_quiet ((first | (go_at_call 74; exact Calls.quiet_of_same (MostValue_any' P _ hP)) | (go_at_call 73; exact Calls.quiet_of_same ((numbered_any' pg _ _ HNB.out)))))
            go_wp2_with fail
            go_ret
            rw [HV.out]
            exact ⟨rfl, below_drewN hB _⟩
        · have k20 : (ck == 2) = false := beq_eq_false_iff_ne.2 k2
          by_cases k4 : ck = 4
          · have k40 : (ck == 4) = true := beq_iff_eq.2 k4
            subst k4
            clear k40 k20 k10
            by_cases v : val.length = 0
            · have v0 : ((val.length : Int) == 0) = true := beq_iff_eq.2 (by omega)
              by_cases p : pg = 0
              · have p0 : (pg == 0) = true := beq_iff_eq.2 p
                by_cases c : ct = 0
                · have c0 : (ct == 0) = true := beq_iff_eq.2 c
                  have HV : Hid (mayP 2 P ⟨key, 4, val, pg, ct⟩ = true) := Lib.hid (by unfold mayP childP thereP; dsimp only; (repeat' split) <;> first | rfl | (exfalso; omega) | exact decide_eq_true (by omega) | exact decide_eq_false (by omega))
                  clear v p c
                  go_wp2_with fail
                  go_ret
                  rw [HV.out]
                  exact ⟨rfl, hB⟩
                · have c0 : (ct == 0) = false := beq_eq_false_iff_ne.2 c
                  have nb : ¬ (2 ≤ pg ∧ pg < 65536) := by omega
                  have HNB : Hid (numB pg = false) := Lib.hid (decide_eq_false nb)
                  have HV : Hid (mayP 2 P ⟨key, 4, val, pg, ct⟩ = false) := Lib.hid (by unfold mayP childP thereP; dsimp only; (repeat' split) <;> first | rfl | (exfalso; omega) | exact decide_eq_true (by omega) | exact decide_eq_false (by omega))
                  clear v p c nb
                  go_wp2_with (first | (go_at_call 73; refine (numbered_any pg _).mono ?_; rintro e w7 ⟨rfl, rfl⟩; rw [HNB.out]) | fail)
                  go_ret
                  rw [HV.out]
                  exact ⟨rfl, hB⟩
              · have p0 : (pg == 0) = false := beq_eq_false_iff_ne.2 p
                by_cases nb : 2 ≤ pg ∧ pg < 65536
                · have HNB : Hid (numB pg = true) := Lib.hid (decide_eq_true nb)
                  by_cases g : 1 ≤ ct
                  · have g0 : (1 : Int) ≤ ct := by omega
                    by_cases h : ct ≤ 1073741824
                    · have h0 : ct ≤ 1073741824 := by omega
                      have h1 : decide (ct ≤ 1073741824) = true := decide_eq_true (by omega)
                      have HV : Hid (mayP 2 P ⟨key, 4, val, pg, ct⟩ = true) := Lib.hid (by unfold mayP childP thereP; dsimp only; (repeat' split) <;> first | rfl | (exfalso; omega) | exact decide_eq_true (by omega) | exact decide_eq_false (by omega))
                      clear v p nb g h
                      go_wp2_with (first | (go_at_call 73; refine (numbered_any pg _).mono ?_; rintro e w7 ⟨rfl, rfl⟩; rw [HNB.out]) | fail)
                      go_ret
                      rw [HV.out]
                      exact ⟨rfl, hB⟩
                    · have h0 : ¬ ct ≤ 1073741824 := by omega
                      have h1 : decide (ct ≤ 1073741824) = false := decide_eq_false (by omega)
                      have HV : Hid (mayP 2 P ⟨key, 4, val, pg, ct⟩ = false) := Lib.hid (by unfold mayP childP thereP; dsimp only; (repeat' split) <;> first | rfl | (exfalso; omega) | exact decide_eq_true (by omega) | exact decide_eq_false (by omega))
                      clear v p nb g h
                      go_wp2_with (first | (go_at_call 73; refine (numbered_any pg _).mono ?_; rintro e w7 ⟨rfl, rfl⟩; rw [HNB.out]) | fail)
                      go_ret
                      rw [HV.out]
                      exact ⟨rfl, hB⟩
                  · have g0 : ¬ (1 : Int) ≤ ct := by omega
                    have HV : Hid (mayP 2 P ⟨key, 4, val, pg, ct⟩ = false) := Lib.hid (by unfold mayP childP thereP; dsimp only; (repeat' split) <;> first | rfl | (exfalso; omega) | exact decide_eq_true (by omega) | exact decide_eq_false (by omega))
                    clear v p nb g
                    go_wp2_with (first | (go_at_call 73; refine (numbered_any pg _).mono ?_; rintro e w7 ⟨rfl, rfl⟩; rw [HNB.out]) | fail)
                    go_ret
                    rw [HV.out]
                    exact ⟨rfl, hB⟩
                · have HNB : Hid (numB pg = false) := Lib.hid (decide_eq_false nb)
                  have HV : Hid (mayP 2 P ⟨key, 4, val, pg, ct⟩ = false) := Lib.hid (by unfold mayP childP thereP; dsimp only; (repeat' split) <;> first | rfl | (exfalso; omega) | exact decide_eq_true (by omega) | exact decide_eq_false (by omega))
                  clear v p nb
                  go_wp2_with (first | (go_at_call 73; refine (numbered_any pg _).mono ?_; rintro e w7 ⟨rfl, rfl⟩; rw [HNB.out]) | fail)
                  go_ret
                  rw [HV.out]
                  exact ⟨rfl, hB⟩
            · have v0 : ((val.length : Int) == 0) = false := beq_eq_false_iff_ne.2 (by omega)
              have HV : Hid (mayP 2 P ⟨key, 4, val, pg, ct⟩ = false) := Lib.hid (by unfold mayP childP thereP; dsimp only; (repeat' split) <;> first | rfl | (exfalso; omega) | exact decide_eq_true (by omega) | exact decide_eq_false (by omega))
              clear v
              go_wp2_with fail
              go_ret
              rw [HV.out]
              exact ⟨rfl, hB⟩
          · have k40 : (ck == 4) = false := beq_eq_false_iff_ne.2 k4
            have HV : Hid (mayP 2 P ⟨key, ck, val, pg, ct⟩ = false) := Lib.hid (by unfold mayP childP thereP; dsimp only; (repeat' split) <;> first | rfl | (exfalso; omega) | exact decide_eq_true (by omega) | exact decide_eq_false (by omega))
            clear k1 k2 k4
            go_wp2_with fail
            go_ret
            rw [HV.out]
            exact ⟨rfl, hB⟩
  · skip
    by_cases k : ck = 3
    · have k0 : (ck == 3) = true := beq_iff_eq.2 k
      by_cases v : val.length = 0
      · have v0 : ((val.length : Int) == 0) = true := beq_iff_eq.2 (by omega)
        by_cases nb : 2 ≤ pg ∧ pg < 65536
        · have HNB : Hid (numB pg = true) := Lib.hid (decide_eq_true nb)
          by_cases g : 1 ≤ ct
          · have g0 : (1 : Int) ≤ ct := by omega
            by_cases h : ct ≤ 1073741824
            · have h0 : ct ≤ 1073741824 := by omega
              have h1 : decide (ct ≤ 1073741824) = true := decide_eq_true (by omega)
              have HV : Hid (mayP 3 P ⟨key, ck, val, pg, ct⟩ = true) := Lib.hid (by unfold mayP childP thereP; dsimp only; (repeat' split) <;> first | rfl | (exfalso; omega) | exact decide_eq_true (by omega) | exact decide_eq_false (by omega))
              clear k v nb g h
              go_wp2_with (first | (go_at_call 73; refine (numbered_any pg _).mono ?_; rintro e w7 ⟨rfl, rfl⟩; rw [HNB.out]) | fail)
              go_ret
              rw [HV.out]
              exact ⟨rfl, hB⟩
            · have h0 : ¬ ct ≤ 1073741824 := by omega
              have h1 : decide (ct ≤ 1073741824) = false := decide_eq_false (by omega)
              have HV : Hid (mayP 3 P ⟨key, ck, val, pg, ct⟩ = false) := Lib.hid (by unfold mayP childP thereP; dsimp only; (repeat' split) <;> first | rfl | (exfalso; omega) | exact decide_eq_true (by omega) | exact decide_eq_false (by omega))
              clear k v nb g h
              go_wp2_with (first | (go_at_call 73; refine (numbered_any pg _).mono ?_; rintro e w7 ⟨rfl, rfl⟩; rw [HNB.out]) | fail)
              go_ret
              rw [HV.out]
              exact ⟨rfl, hB⟩
          · have g0 : ¬ (1 : Int) ≤ ct := by omega
            have HV : Hid (mayP 3 P ⟨key, ck, val, pg, ct⟩ = false) := Lib.hid (by unfold mayP childP thereP; dsimp only; (repeat' split) <;> first | rfl | (exfalso; omega) | exact decide_eq_true (by omega) | exact decide_eq_false (by omega))
            clear k v nb g
            go_wp2_with (first | (go_at_call 73; refine (numbered_any pg _).mono ?_; rintro e w7 ⟨rfl, rfl⟩; rw [HNB.out]) | fail)
            go_ret
            rw [HV.out]
            exact ⟨rfl, hB⟩
        · have HNB : Hid (numB pg = false) := Lib.hid (decide_eq_false nb)
          have HV : Hid (mayP 3 P ⟨key, ck, val, pg, ct⟩ = false) := Lib.hid (by unfold mayP childP thereP; dsimp only; (repeat' split) <;> first | rfl | (exfalso; omega) | exact decide_eq_true (by omega) | exact decide_eq_false (by omega))
          clear k v nb
          go_wp2_with (first | (go_at_call 73; refine (numbered_any pg _).mono ?_; rintro e w7 ⟨rfl, rfl⟩; rw [HNB.out]) | fail)
          go_ret
          rw [HV.out]
          exact ⟨rfl, hB⟩
      · have v0 : ((val.length : Int) == 0) = false := beq_eq_false_iff_ne.2 (by omega)
        have HV : Hid (mayP 3 P ⟨key, ck, val, pg, ct⟩ = false) := Lib.hid (by unfold mayP childP thereP; dsimp only; (repeat' split) <;> first | rfl | (exfalso; omega) | exact decide_eq_true (by omega) | exact decide_eq_false (by omega))
        clear k v
        go_wp2_with fail
        go_ret
        rw [HV.out]
        exact ⟨rfl, hB⟩
    · have k0 : (ck == 3) = false := beq_eq_false_iff_ne.2 k
      have HV : Hid (mayP 3 P ⟨key, ck, val, pg, ct⟩ = false) := Lib.hid (by unfold mayP childP thereP; dsimp only; (repeat' split) <;> first | rfl | (exfalso; omega) | exact decide_eq_true (by omega) | exact decide_eq_false (by omega))
      clear k
      go_wp2_with fail
      go_ret
      rw [HV.out]
      exact ⟨rfl, hB⟩
end Go.Proofs.Ytonbcipofakpjaa

-- espalierref01.Fixed, step, SumOf: walks.
namespace Go.Proofs.Ytonbcipofakpjaa
open Go.RowKit

/-! ### Fixed -/
theorem div_pow (n k : Nat) : n / 256 ^ k / 256 = n / 256 ^ (k + 1) := by rw [Nat.pow_succ, Nat.div_div_eq_div_mul]
theorem u8_mod (n : Nat) : (n : Int) % 256 % 256 = ((UInt8.ofNat n).toNat : Int) := by rw [u8_byte]; omega
set_option maxHeartbeats 400000 in
theorem RFixed_any (n : Nat) (hn : n < 18446744073709551616) (wd : Nat) (h1 : 1 ≤ wd) (h8 : wd ≤ 8) (w : World) :
    Calls Try.prog 44 #[.int .u64 n, .int .i64 wd] w fun e w' => ∃ v, e = .returned v ∧ OwB w' w.heap.size v (fixedF n wd) ∧ Below w.heap.size w w' := by
  have g1 : (1 : Int) ≤ (wd : Int) := by omega
  have g2 : (wd : Int) ≤ 8 := by omega
  go_enter Try.func44, Try.ntmps44
  go_wp2
  go_loopw [5, 6] (fun v i wr => ∃ (k : Nat), i = .int .i64 ((k : Int) - 1) ∧ k ≤ wd ∧ OwB wr w.heap.size v (fixedF (n / 256 ^ k) (wd - k)) ∧ Below w.heap.size w wr)
    (fun _ i _ => (intOf i + 1).toNat)
  case atStart => exact ⟨wd, rfl, Nat.le_refl _, by rw [Nat.sub_self]; exact OwB.nil _ _, Below.refl _ _⟩
  case round =>
    obtain ⟨k, rfl, hk, hown, hw⟩ := hrel
    rcases Nat.eq_zero_or_pos k with rfl | hpos
    · go_wp2
      go_ret
      rw [Nat.pow_zero, Nat.div_one, Nat.sub_zero] at hown
      exact ⟨_, rfl, hown, hw⟩
    · obtain ⟨k', rfl⟩ : ∃ k', k = k' + 1 := ⟨k - 1, by omega⟩
      have e1 : ((k' + 1 : Nat) : Int) - 1 = (k' : Int) := by omega
      rw [e1]
      have hfx : fixedF (n / 256 ^ k') (wd - k') = fixedF (n / 256 ^ (k' + 1)) (wd - (k' + 1)) ++ [UInt8.ofNat (n / 256 ^ k')] := by
        rw [← div_pow, show wd - k' = (wd - (k' + 1)) + 1 by omega]; rfl
      have HF := Lib.hid hfx
      clear hfx e1
      go_wp2
      obtain ⟨wo, rfl⟩ : ∃ wo : World, wo = wr := ⟨_, rfl⟩
      go_loop [7, 8] (fun m i => ∃ (j : Nat), i = .int .i64 (j : Int) ∧ j ≤ k' ∧ m = .int .u64 (n / 256 ^ j : Nat)) (fun _ i => k' - (intOf i).toNat)
      case atStart => exact ⟨0, rfl, Nat.zero_le _, by simp⟩
      case round =>
        obtain ⟨j, rfl, hj, rfl⟩ := hrel
        have hq : n / 256 ^ j < 18446744073709551616 := Nat.lt_of_le_of_lt (Nat.div_le_self _ _) hn
        by_cases hlt : j < k'
        · have HD := Lib.hid (div_pow n j)
          generalize n / 256 ^ j = q at *
          go_wp2
          go_round
          case rel => exact ⟨j + 1, by go_num, by omega, by rw [← HD.out]; go_num⟩
          case measure => simp [intOf]; omega
        · obtain rfl : j = k' := by omega
          have hlen := fixedF_length (n / 256 ^ (j + 1)) (wd - (j + 1))
          have hlen2 : (fixedF (n / 256 ^ (j + 1)) (wd - (j + 1))).length ≤ 8 := by omega
          generalize fixedF (n / 256 ^ (j + 1)) (wd - (j + 1)) = l at *
          generalize hqq : n / 256 ^ j = q at *
          have HQ := Lib.hid hqq
          clear hlen hqq
          go_wp2_with (first | (at_builtin; refine wp_append_B1 rfl (.tmp 30) (.tmp 34) rfl w.heap.size _ l rfl hown (UInt8.ofNat q) _ (congrArg (Value.int .u8) (u8_byte q).symm) 5 rfl (by omega) hw.size ?_; intro v1 w1 hown1 hg1 _hat1))
          go_roundw
          case rel =>
            rw [← HF.out, ← HQ.out] at hown1
            exact ⟨j, rfl, by omega, hown1, hw.grown hg1 hw.size (fun k hk => (hown.lt k hk).1)⟩
          case measure => simp [intOf]
theorem RFixed_4 (n : Nat) (hn : n < 18446744073709551616) (w : World) :
    Calls Try.prog 44 #[.int .u64 n, .int .i64 4] w fun e w' => ∃ v, e = .returned v ∧ OwB w' w.heap.size v (fixedF n 4) ∧ Below w.heap.size w w' :=
  RFixed_any n hn 4 (by omega) (by omega) w
theorem RFixed_8 (n : Nat) (hn : n < 18446744073709551616) (w : World) :
    Calls Try.prog 44 #[.int .u64 n, .int .i64 8] w fun e w' => ∃ v, e = .returned v ∧ OwB w' w.heap.size v (fixedF n 8) ∧ Below w.heap.size w w' :=
  RFixed_any n hn 8 (by omega) (by omega) w
set_option maxHeartbeats 400000 in
theorem step_any (r : Nat) (h : r < 4294967296) (x : UInt8) (w : World) :
    Calls Try.prog 75 #[.int .u32 r, .int .u8 (x.toNat : Int)] w fun e w' => e = .returned (.int .u32 (crcByte r x : Nat)) ∧ w = w' := by
  have hxb : x.toNat < 256 := x.toNat_lt
  have hx := u32_xor_nat r x.toNat h (by omega)
  have hy : r ^^^ x.toNat < 4294967296 := Nat.xor_lt_two_pow (n := 32) h (by omega)
  have HB : Hid (crcByte r x = crcN 8 (r ^^^ x.toNat)) := rfl
  generalize x.toNat = b at *
  generalize r ^^^ b = y at *
  go_enter Try.func75, Try.ntmps75
  go_wp2
  go_loop [5, 6] (fun q i => ∃ j : Nat, i = .int .i64 (j : Int) ∧ j ≤ 8 ∧ q = .int .u32 (crcN j y : Nat)) (fun _ i => 8 - (intOf i).toNat)
  case atStart => exact ⟨0, rfl, by omega, rfl⟩
  case round =>
    obtain ⟨j, rfl, hj, rfl⟩ := hrel
    by_cases hlt : j < 8
    · have hq := crcN_lt j y hy
      have hs : crcN (j + 1) y = crcBit (crcN j y) := crcN_add j 1 y
      have HS := Lib.hid hs
      clear hs
      generalize crcN j y = q at *
      by_cases hodd : q % 2 = 1
      · have e1 : ((q : Int) % 2 == 1) = true := by simp; omega
        have e2 : bits .xor .u32 ((q : Int) / 2) 2197175160 = (crcBit q : Nat) := by
          rw [crcBit, if_pos hodd]; exact u32_xor_nat (q / 2) 2197175160 (by omega) (by omega)
        clear hodd
        go_wp2
        go_round
        case rel => exact ⟨j + 1, by go_num, by omega, by rw [HS.out]⟩
        case measure => simp [intOf]; omega
      · have e1 : ((q : Int) % 2 == 1) = false := by simp; omega
        have e2 : Hid (crcBit q = q / 2) := by unfold crcBit; exact if_neg hodd
        clear hodd
        go_wp2
        go_round
        case rel => exact ⟨j + 1, by go_num, by omega, by rw [HS.out, e2.out]; go_num⟩
        case measure => simp [intOf]; omega
    · obtain rfl : j = 8 := by omega
      rw [← HB.out]
      go_wp2
      go_ret
      exact ⟨rfl, rfl⟩
end Go.Proofs.Ytonbcipofakpjaa
