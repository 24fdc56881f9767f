/- A meta of any numbers: its page, its code, and the contracts in these words. -/
import Derived.Test.YtdnfbjmapdgnnaaMetaChoose
import Derived.Test.YtdnfbjmapdgnnaaMetaBack
import Derived.Test.YtdnfbjmapdgnnaaLawAwake
import Derived.Test.YtdnfbjmapdgnnaaLawOwned
import Derived.Test.YtdnfbjmapdgnnaaRefMetaEnc
namespace Go.Proofs.Ytdnfbjmapdgnnaa
open Go.RowKit
def MetaN.okb (m : MetaN) : Bool := okB m.engine m.page m.txn m.root m.count m.free m.listed m.high
def MetaN.pg (m : MetaN) : List UInt8 := bif m.okb then encF m.engine.toNat m.page.toNat m.txn.toNat m.root.toNat m.count.toNat m.free.toNat m.listed.toNat m.high.toNat else []
def MetaN.cd (m : MetaN) : Int := bif m.okb then 0 else 1
theorem MetaN.nat {m : MetaN} (h : m.okb = true) : ∃ eg pg tx rt ct fr ls hi : Nat, m = ⟨eg, pg, tx, rt, ct, fr, ls, hi⟩ ∧ okB eg pg tx rt ct fr ls hi = true ∧ m.pg = encF eg pg tx rt ct fr ls hi := by
  have h0 := h
  have hpg : m.pg = encF m.engine.toNat m.page.toNat m.txn.toNat m.root.toNat m.count.toNat m.free.toNat m.listed.toNat m.high.toNat := by unfold MetaN.pg; rw [h]; rfl
  simp only [MetaN.okb, okB, linkB, Bool.and_eq_true] at h
  obtain ⟨⟨⟨⟨⟨⟨h1, h2⟩, h3⟩, h4⟩, ⟨⟨h5, h6⟩, _⟩⟩, h7⟩, h8⟩ := h
  have h1 := of_decide_eq_true h1
  have h2 : isPow _ := of_decide_eq_true h2
  have h3 := of_decide_eq_true h3
  have h4 := of_decide_eq_true h4
  have h5 := of_decide_eq_true h5
  have h6 := of_decide_eq_true h6
  have h7 := of_decide_eq_true h7
  have h8 := of_decide_eq_true h8
  unfold isPow at h2
  obtain ⟨a, b, c, d, e, f, g, i⟩ := m
  simp only at *
  obtain ⟨a, rfl⟩ := Int.eq_ofNat_of_zero_le (show 0 ≤ a by omega)
  obtain ⟨b, rfl⟩ := Int.eq_ofNat_of_zero_le (show 0 ≤ b by omega)
  obtain ⟨c, rfl⟩ := Int.eq_ofNat_of_zero_le (show 0 ≤ c by omega)
  obtain ⟨d, rfl⟩ := Int.eq_ofNat_of_zero_le (show 0 ≤ d by omega)
  obtain ⟨e, rfl⟩ := Int.eq_ofNat_of_zero_le (show 0 ≤ e by omega)
  obtain ⟨f, rfl⟩ := Int.eq_ofNat_of_zero_le (show 0 ≤ f by omega)
  obtain ⟨g, rfl⟩ := Int.eq_ofNat_of_zero_le (show 0 ≤ g by omega)
  obtain ⟨i, rfl⟩ := Int.eq_ofNat_of_zero_le (show 0 ≤ i by omega)
  exact ⟨a, b, c, d, e, f, g, i, rfl, h0, hpg⟩
theorem MetaN.pg_len (m : MetaN) : m.pg.length ≤ 65536 := by
  rcases tf m.okb with h | h
  · obtain ⟨eg, pg, tx, rt, ct, fr, ls, hi, _, h1, h2⟩ := m.nat h
    have := okB_page h1
    rw [h2, encF_length this.1]
    exact this.2
  · simp [MetaN.pg, h]
theorem CheckN (m : MetaN) (w : World) : Calls Try.prog 8 #[.agg #[.int .i64 m.engine, .int .i64 m.page, .int .i64 m.txn, .int .i64 m.root, .int .i64 m.count, .int .i64 m.free, .int .i64 m.listed, .int .i64 m.high]] w fun e w' =>
    e = .returned (.int .i64 m.cd) ∧ Below w.heap.size w w' := Check_any _ _ _ _ _ _ _ _ w
theorem RCheckN (m : MetaN) (w : World) : Calls Try.prog 10 #[.agg #[.int .i64 m.engine, .int .i64 m.page, .int .i64 m.txn, .int .i64 m.root, .int .i64 m.count, .int .i64 m.free, .int .i64 m.listed, .int .i64 m.high]] w fun e w' =>
    e = .returned (.int .i64 m.cd) ∧ Below w.heap.size w w' := RCheck_any _ _ _ _ _ _ _ _ w
theorem EncodeN (m : MetaN) (w : World) : Calls Try.prog 9 #[.agg #[.int .i64 m.engine, .int .i64 m.page, .int .i64 m.txn, .int .i64 m.root, .int .i64 m.count, .int .i64 m.free, .int .i64 m.listed, .int .i64 m.high]] w fun e w' =>
    ∃ A c, e = .returned (.tuple #[.slice A m.pg.length c, .int .i64 m.cd]) ∧ OwB w' w.heap.size (.slice A m.pg.length c) m.pg ∧ Below w.heap.size w w' := by
  rcases tf m.okb with h | h
  · obtain ⟨eg, pg, tx, rt, ct, fr, ls, hi, rfl, h1, h2⟩ := m.nat h
    refine (Encode_ok eg pg tx rt ct fr ls hi h1 w).mono ?_
    rintro e w' ⟨g, rfl, hg, ho, hb⟩
    have hp := okB_page h1
    have hl : (encF eg pg tx rt ct fr ls hi).length = pg := encF_length hp.1
    have hc : MetaN.cd ⟨eg, pg, tx, rt, ct, fr, ls, hi⟩ = 0 := by unfold MetaN.cd; rw [h]; rfl
    have := ho.owB' hg (by rw [hl]; simp only [maxLen]; omega)
    rw [h2, hl, hc]
    rw [hl] at this
    exact ⟨_, _, rfl, this, hb⟩
  · refine (Encode_bad _ _ _ _ _ _ _ _ h w).mono ?_
    rintro e w' ⟨rfl, hb⟩
    have hp : m.pg = [] := by unfold MetaN.pg; rw [h]; rfl
    have hc : m.cd = 1 := by unfold MetaN.cd; rw [h]; rfl
    rw [hp, hc]
    exact ⟨_, _, rfl, OwB.nil _ _, hb⟩
theorem REncodeN (m : MetaN) (w : World) : Calls Try.prog 13 #[.agg #[.int .i64 m.engine, .int .i64 m.page, .int .i64 m.txn, .int .i64 m.root, .int .i64 m.count, .int .i64 m.free, .int .i64 m.listed, .int .i64 m.high]] w fun e w' =>
    ∃ A n c k, e = .returned (.tuple #[.slice A n c, .int .i64 k]) ∧ OwB w' w.heap.size (.slice A n c) m.pg ∧ Below w.heap.size w w' := by
  rcases tf m.okb with h | h
  · obtain ⟨eg, pg, tx, rt, ct, fr, ls, hi, rfl, h1, h2⟩ := m.nat h
    refine (REncode_ok eg pg tx rt ct fr ls hi h1 w).mono ?_
    rintro e w' ⟨v, rfl, ho, hb⟩
    rw [h2]
    obtain ⟨A, c, rfl⟩ := ho.slice' rfl
    exact ⟨A, _, c, 0, rfl, ho, hb⟩
  · refine (REncode_bad _ _ _ _ _ _ _ _ h w).mono ?_
    rintro e w' ⟨rfl, hb⟩
    have hp : m.pg = [] := by unfold MetaN.pg; rw [h]; rfl
    rw [hp]
    exact ⟨_, _, _, 1, rfl, OwB.nil _ _, hb⟩
theorem OBlk.newAt {w : World} {g : Nat} (T : TypeId) (cs : List Value) (h : g = w.heap.size) : OBlk (w.alloc (.cells cs.toArray T)) g T cs := by
  subst h; exact OBlk.new' w T cs
theorem awakeN (w : World) : Calls Try.prog 7 #[] w fun e w' => e = .returned (.bool true) ∧ Below w.heap.size w w' := awake_any w
/-- Two metas that have been laid, behind awake. -/
theorem two_metas {w w1 : World} (m n : MetaN) {B : Nat} (hw1 : Below B ((w.alloc (.cells m.cells 24)).alloc (.cells n.cells 24)) w1) (hB : B = w.heap.size + 2) :
    OBlk w1 w.heap.size 24 m.cells.toList ∧ OBlk w1 (w.heap.size + 1) 24 n.cells.toList ∧ Below w.heap.size w w1 := by
  subst hB
  refine ⟨((OBlk.newAt _ m.cells.toList rfl).alloc _).below hw1 (by omega), (OBlk.newAt _ n.cells.toList (by simp)).below hw1 (by omega), ?_⟩
  exact (((Below.refl w.heap.size w).alloc (Nat.le_refl _) _).alloc (by simp) _).trans (hw1.mono (by omega))
/-- Four metas in a row, as their cells. -/
def cells32 (m n : MetaN) : List Value := (m.cells.toList ++ n.cells.toList) ++ (m.cells.toList ++ m.cells.toList)
def askM (m n : MetaN) (k : Nat) : MetaN := bif k == 1 then n else m
theorem cells_at {w : World} {g : Nat} {T : TypeId} {m n : MetaN} (h : OBlk w g T (cells32 m n)) (k : Nat) (hk : k < 4) :
    w.cell? ⟨g, k * 8, none⟩ = some (.int .i64 (askM m n k).engine) ∧ w.cell? ⟨g, k * 8 + 1, none⟩ = some (.int .i64 (askM m n k).page) ∧ w.cell? ⟨g, k * 8 + 2, none⟩ = some (.int .i64 (askM m n k).txn) ∧ w.cell? ⟨g, k * 8 + 3, none⟩ = some (.int .i64 (askM m n k).root) ∧
    w.cell? ⟨g, k * 8 + 4, none⟩ = some (.int .i64 (askM m n k).count) ∧ w.cell? ⟨g, k * 8 + 5, none⟩ = some (.int .i64 (askM m n k).free) ∧ w.cell? ⟨g, k * 8 + 6, none⟩ = some (.int .i64 (askM m n k).listed) ∧ w.cell? ⟨g, k * 8 + 7, none⟩ = some (.int .i64 (askM m n k).high) := by
  rcases (by omega : k = 0 ∨ k = 1 ∨ k = 2 ∨ k = 3) with rfl | rfl | rfl | rfl <;>
    exact ⟨h.cell _, h.cell _, h.cell _, h.cell _, h.cell _, h.cell _, h.cell _, h.cell _⟩
/-- Where the asking stands: the pages of the first k. -/
structure EncI (w : World) (gA : Nat) (m n : MetaN) (k : Nat) (got : Value) (vs : List Value) (wi : World) : Prop where
  len : vs.length = k
  own : Own wi w.heap.size 29 1 got vs.length vs
  ls : OwLs wi w.heap.size vs (fun j => (askM m n j).pg)
  ap : ApartL vs
  cs : OBlk wi gA 24 (cells32 m n)
  hb : Below w.heap.size w wi
theorem EncI.below {w wi w' : World} {gA k : Nat} {m n : MetaN} {got : Value} {vs : List Value} (h : EncI w gA m n k got vs wi) (hb : Below wi.heap.size wi w') : EncI w gA m n k got vs w' :=
  ⟨h.len, h.own.below' hb (Nat.le_refl _), h.ls.below' hb (Nat.le_refl _), h.ap, h.cs.below hb h.cs.lt, h.hb.trans (hb.mono h.hb.size)⟩
theorem EncI.lt {w wi : World} {gA k : Nat} {m n : MetaN} {got : Value} {vs : List Value} (h : EncI w gA m n k got vs wi) : ∀ (j : Nat) (u : Value), vs[j]? = some u → ∀ g, u.ownBlock = some g → g < wi.heap.size :=
  fun j u hj g hg => ((h.ls j u hj).lt g hg).2
theorem EncI.step {w wi w4 : World} {gA k s : Nat} {m n : MetaN} {got got4 v : Value} {vs : List Value} (h : EncI w gA m n k got vs wi) (hs : ∀ (j : Nat) (u : Value), vs[j]? = some u → ∀ g, u.ownBlock = some g → g < s) (hs0 : w.heap.size ≤ s)
    (hv : OwB wi s v (askM m n k).pg) (hg4 : Own w4 w.heap.size 29 1 got4 (vs.length + 1) (vs ++ [v])) (hgr : wi.grownBy w4 got.ownBlock) : EncI w gA m n (k + 1) got4 (vs ++ [v]) w4 := by
  have hne : ∀ (j : Nat) (u : Value), vs[j]? = some u → ∀ g, u.ownBlock = some g → some g ≠ got.ownBlock := fun j u hj => (h.ls j u hj).ne_own' h.own
  have hv4 : OwB w4 w.heap.size v (askM m n k).pg := (hv.low hs0).grown hgr (hv.ne_own' h.own)
  refine ⟨by simp [h.len], by simpa using hg4, ?_, ?_, h.cs.grown hgr ?_, h.hb.grown hgr h.hb.size (fun g hg => (h.own.lt g hg).1)⟩
  · intro j u hj
    rcases Nat.lt_or_ge j vs.length with hlt | hge
    · rw [List.getElem?_append_left hlt] at hj
      exact (h.ls j u hj).grown hgr (hne j u hj)
    · rw [List.getElem?_append_right hge] at hj
      have hj0 : j = vs.length := by
        have := (List.getElem?_eq_some_iff.mp hj).1
        simp at this; omega
      subst hj0
      simp at hj
      subst hj
      simpa [h.len] using hv4
  · have key : ∀ (j : Nat) (u : Value), vs[j]? = some u → ∀ g, u.ownBlock = some g → some g ≠ v.ownBlock := fun j u hj g hg he => by
      have h1 := hs j u hj g hg
      have h2 := (hv.lt g he.symm).1
      omega
    intro i j u u' hij hi hj g hg
    rcases Nat.lt_or_ge i vs.length with hi1 | hi1 <;> rcases Nat.lt_or_ge j vs.length with hj1 | hj1
    · rw [List.getElem?_append_left hi1] at hi
      rw [List.getElem?_append_left hj1] at hj
      exact h.ap i j u u' hij hi hj g hg
    · rw [List.getElem?_append_left hi1] at hi
      rw [List.getElem?_append_right hj1] at hj
      obtain ⟨_, rfl⟩ : j - vs.length = 0 ∧ v = u' := by
        have := (List.getElem?_eq_some_iff.mp hj).1
        have h0 : j - vs.length = 0 := by simp at this; omega
        rw [h0] at hj; simpa [h0] using hj
      exact key i u hi g hg
    · rw [List.getElem?_append_right hi1] at hi
      rw [List.getElem?_append_left hj1] at hj
      obtain ⟨_, rfl⟩ : i - vs.length = 0 ∧ v = u := by
        have := (List.getElem?_eq_some_iff.mp hi).1
        have h0 : i - vs.length = 0 := by simp at this; omega
        rw [h0] at hi; simpa [h0] using hi
      intro he
      exact key j u' hj g he.symm hg.symm
    · have h1 := (List.getElem?_eq_some_iff.mp hi).1
      have h2 := (List.getElem?_eq_some_iff.mp hj).1
      simp at h1 h2
      omega
  · intro he
    obtain ⟨cs, ho⟩ := h.own.oblk he.symm
    have := (h.cs.same ho).1
    exact absurd this (by decide)
end Go.Proofs.Ytdnfbjmapdgnnaa
