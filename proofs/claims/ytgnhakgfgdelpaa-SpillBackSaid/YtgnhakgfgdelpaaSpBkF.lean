/- espalierlaw09.SpillBack: what its calls tell, as plain laws. -/
import Derived.Test.YtgnhakgfgdelpaaSpAwF
namespace Go.Proofs.Ytgnhakgfgdelpaa
open Go.RowKit
theorem nCh_small {len h : Nat} (h1 : 496 ≤ h) (h2 : len ≤ 65536) : nCh len h ≤ 133 := by
  rcases Nat.lt_or_ge 133 (nCh len h) with h3 | h3
  · have := (nCh_lt (len := len) (h := h) (k := 133) (by omega)).1 h3
    have : 133 * 496 ≤ 133 * h := Nat.mul_le_mul_left _ h1
    omega
  · exact h3
theorem getD_rng {l : List Int} (h : ∀ n ∈ l, 2 ≤ n ∧ n < 65536) : i64w (l.getD 0 0) := by
  unfold i64w
  cases l with
  | nil => exact ⟨by decide, by decide⟩
  | cons x r =>
    have := h x (List.mem_cons_self ..)
    show -9223372036854775808 ≤ x ∧ x ≤ 9223372036854775807
    omega
structure BackR (page : Int) (a b : List UInt8) (lo hi : Int) (x y z : Int) (d l : List UInt8) (T ps : List Int) (S1 S2 S3 S4 S5 S6 S7 S8 : BS) : Prop where
  w1 : wrF (emptyB 1 page 65536) a = (x, 0, S1)
  t1 : takenF S1 = T
  w2 : wrF S1 b = (y, 0, S2)
  r3 : allCh S2 x a.length = (0, ps, a, S3)
  s4 : ∃ q, sliceCh S3 y b.length lo hi = (z, q, d, S4)
  f5 : freeCh S4 y b.length = (0, S5)
  t5 : takenF S5 = T
  l6 : allCh S5 x a.length = (0, ps, a, S6)
  r7 : allCh S6 x a.length = (0, ps, a, S7)
  f8 : freeCh S7 x a.length = (0, S8)
  t8 : takenF S8 = []
  len : ps.length = T.length
  pages : pagesF page a.length = (ps.length : Int)
  ix : i64w x
  iy : i64w y
  may : 0 ≤ lo → lo ≤ hi → hi ≤ b.length → z = 0 ∧ d = (b.take hi.toNat).drop lo.toNat
  not : ¬ (0 ≤ lo ∧ lo ≤ hi ∧ hi ≤ b.length) → z = 1
theorem back_law {page : Int} {a b : List UInt8} (lo hi : Int) (hp : isPowB page = true) (ha1 : 1 ≤ a.length) (ha2 : a.length ≤ 65536) (hb1 : 1 ≤ b.length) (hb2 : b.length ≤ 65536) :
    ∃ x y z d l T ps S1 S2 S3 S4 S5 S6 S7 S8, BackR page a b lo hi x y z d l T ps S1 S2 S3 S4 S5 S6 S7 S8 := by
  have hpr := isPowB_range hp
  have ok0 : okB (emptyB 1 page 65536) := emptyB_ok (by unfold newB; rw [hp]; rfl)
  have hpg : (emptyB 1 page 65536).page = page.toNat := rfl
  have hps : (emptyB 1 page 65536).pages = 65536 := rfl
  have n1 := nCh_small (len := a.length) (h := page.toNat - 16) (by omega) ha2
  have n2 := nCh_small (len := b.length) (h := page.toNat - 16) (by omega) hb2
  obtain ⟨l, S1, w1, H1, A1⟩ := wrF_law ok0 ha1 ha2 (by rw [emptyB_cnt, hpg, hps]; omega)
  have p1 : S1.page = page.toNat := A1.page
  have g1 : S1.pages = 65536 := A1.pages
  have c1 : cntB S1 = l.length := by rw [A1.cnt, emptyB_cnt]; omega
  have ll : l.length = nCh a.length (page.toNat - 16) := by rw [H1.len, p1]
  obtain ⟨l', S2, w2, H2, A2⟩ := wrF_law A1.ok hb1 hb2 (by rw [c1, p1, g1]; omega)
  have p2 : S2.page = page.toNat := A2.page.trans p1
  have hd : ∀ n ∈ l, n ∉ l' := fun n hn hm => A1.new n hn (A2.old n hm)
  have H1' : HoldsV S2 l a := H1.only A2.page fun n hn => A2.rest n (hd n hn)
  obtain ⟨S3, r3, L3⟩ := allCh_law A2.ok H1' ha1 ha2
  have sb : sizeB (b.length : Int) = true := by unfold sizeB; rw [decide_eq_true (by omega), decide_eq_true (by omega)]; rfl
  have key : ∃ z d S4, (∃ q, sliceCh S3 (l'.getD 0 0) b.length lo hi = (z, q, d, S4)) ∧ Like S3 S4 ∧ (0 ≤ lo → lo ≤ hi → hi ≤ b.length → z = 0 ∧ d = (b.take hi.toNat).drop lo.toNat) ∧ (¬ (0 ≤ lo ∧ lo ≤ hi ∧ hi ≤ b.length) → z = 1) := by
    by_cases hm : 0 ≤ lo ∧ lo ≤ hi ∧ hi ≤ b.length
    · obtain ⟨S4, e, L4⟩ := sliceCh_law (L3.ok A2.ok) (H2.like L3) hb1 hb2 (lo := lo.toNat) (hi := hi.toNat) (by omega) (by omega)
      rw [show ((lo.toNat : Nat) : Int) = lo by omega, show ((hi.toNat : Nat) : Int) = hi by omega] at e
      exact ⟨0, _, S4, ⟨_, e⟩, L4, fun _ _ _ => ⟨rfl, rfl⟩, fun h => absurd hm h⟩
    · exact ⟨1, [], S3, ⟨_, sliceCh_bad sb (by omega)⟩, Like.refl _, fun h1 h2 h3 => absurd ⟨h1, h2, h3⟩ hm, fun _ => rfl⟩
  obtain ⟨z, d, S4, s4, L4, m1, m2⟩ := key
  have L4 := L3.trans L4
  obtain ⟨S5, f5, p5, g5, ok5, k5, q5⟩ := freeCh_law (L4.ok A2.ok) (H2.like L4) hb1 hb2
  have e5 : ∀ n, S5.held n = S1.held n := fun n => by
    by_cases hn : n ∈ l'
    · rw [k5 n hn, A2.old n hn]
    · rw [q5 n hn, L4.held, A2.rest n hn]
  have g5' : S5.pages = S1.pages := g5.trans (L4.pages.trans A2.pages)
  have H5 : HoldsV S5 l a := H1.only (p5.trans (L4.page.trans A2.page)) fun n _ => e5 n
  obtain ⟨S6, l6, L6⟩ := allCh_law ok5 H5 ha1 ha2
  obtain ⟨S7, r7, L7⟩ := allCh_law (L6.ok ok5) (H5.like L6) ha1 ha2
  have L7 := L6.trans L7
  obtain ⟨S8, f8, -, -, -, k8, q8⟩ := freeCh_law (L7.ok ok5) (H5.like L7) ha1 ha2
  refine ⟨_, _, z, d, [], takenF S1, l, S1, S2, S3, S4, S5, S6, S7, S8, w1, rfl, w2, r3, s4, f5, takenF_congr g5' e5, l6, r7, f8, takenF_none fun n => ?_, ?_, ?_, getD_rng H1.rng, getD_rng H2.rng, m1, m2⟩
  · by_cases hn : n ∈ l
    · exact k8 n hn
    · rw [q8 n hn, L7.held, e5, A1.rest n hn]; rfl
  · rw [takenF_length A1.ok, c1]
  · have hpp : ((page.toNat : Nat) : Int) = page := by omega
    have := (nCh_pages (p := page.toNat) (len := a.length) (by rw [hpp]; exact hp) ha1).1
    rw [hpp] at this
    rw [← this, ll]
end Go.Proofs.Ytgnhakgfgdelpaa
