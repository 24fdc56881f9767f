/- What Write of a long value does to a bench: plain laws. -/
import Derived.Test.YtgnhakgfgdelpaaBen4
import Derived.Test.YtgnhakgfgdelpaaSpDec
import Derived.Test.YtgnhakgfgdelpaaChk
import Derived.Test.YtgnhakgfgdelpaaRfPag
namespace Go.Proofs.Ytgnhakgfgdelpaa
open Go.RowKit
/-- So many pages are taken, one after the other. -/
def allocN : Nat → BS → List Int → Option (List Int) × BS
  | 0, S, l => (some l, S)
  | k + 1, S, l => match allocF S with
    | none => (none, S)
    | some n => allocN k (S.put n (some (List.replicate S.page 0))) (l ++ [(n : Int)])
/-- Piece k of a value. -/
def pieceF (v : List UInt8) (h k : Nat) : List UInt8 := (v.drop (k * h)).take (mCh v.length h k)
def nextP (l : List Int) (k : Nat) : Int := l.getD (k + 1) 0
/-- The first i pages are written. -/
def putTo (S : BS) (l : List Int) (v : List UInt8) : Nat → BS
  | 0 => S
  | i + 1 => (putTo S l v i).put (l.getD i 0) (some (laidS (nextP l i) (pieceF v (S.page - 16) i) S.page))
def wrEnd (v : List UInt8) (N : Nat) : Option (List Int) × BS → Int × Int × BS
  | (none, S') => (0, 5, S')
  | (some l, S') => (l.getD 0 0, 0, putTo S' l v N)
def wrF (S : BS) (v : List UInt8) : Int × Int × BS :=
  if v.length < 1 ∨ 65536 < v.length then (0, 31, S) else
  if spareF S (pagesF S.page v.length) = false then (0, 5, S) else wrEnd v (pagesF S.page v.length).toNat (allocN (pagesF S.page v.length).toNat S [])
theorem wrF_bad {S : BS} {v : List UInt8} (h : v.length < 1 ∨ 65536 < v.length) : wrF S v = (0, 31, S) := by unfold wrF; rw [if_pos h]
theorem allocF_spec {S : BS} {n : Nat} (h : allocF S = some n) : 2 ≤ n ∧ n < S.pages ∧ S.held n = none := by
  unfold allocF at h
  have h1 := List.find?_some h
  have h2 := List.mem_of_find?_eq_some h
  simp [freeAt] at h1
  exact ⟨h1.1, List.mem_range.1 h2, h1.2⟩
theorem putTo_page (S : BS) (l : List Int) (v : List UInt8) : ∀ i, (putTo S l v i).page = S.page ∧ (putTo S l v i).pages = S.pages
  | 0 => ⟨rfl, rfl⟩
  | i + 1 => putTo_page S l v i
theorem held_put_some {S : BS} {n m : Int} {x : List UInt8} (h : S.held m ≠ none) : (S.put n (some x)).held m ≠ none := by
  unfold BS.put
  by_cases e : m = n
  · simp [e]
  · simp only [if_neg e]; exact h
theorem putTo_held {S : BS} {l : List Int} {v : List UInt8} {m : Int} (h : S.held m ≠ none) : ∀ i, (putTo S l v i).held m ≠ none
  | 0 => h
  | i + 1 => held_put_some (putTo_held h i)
/-- What is known of taken pages. -/
structure TakenAt (S S' : BS) (l : List Int) : Prop where
  page : S'.page = S.page
  pages : S'.pages = S.pages
  rng : ∀ n ∈ l, 2 ≤ n ∧ n < S.pages
  held : ∀ n ∈ l, S'.held n ≠ none
theorem TakenAt.put {S S' : BS} {l : List Int} (h : TakenAt S S' l) {n : Nat} (h1 : 2 ≤ n) (h2 : n < S.pages) (x : List UInt8) : TakenAt S (S'.put (n : Int) (some x)) (l ++ [(n : Int)]) := by
  refine ⟨h.page, h.pages, fun m hm => ?_, fun m hm => ?_⟩
  · rcases List.mem_append.1 hm with hm | hm
    · exact h.rng m hm
    · obtain rfl := List.mem_singleton.1 hm; omega
  · rcases List.mem_append.1 hm with hm | hm
    · exact held_put_some (h.held m hm)
    · obtain rfl := List.mem_singleton.1 hm; simp [BS.put]
theorem allocN_spec : ∀ (k : Nat) (S0 S : BS) (l : List Int), TakenAt S0 S l → (allocN k S l).2.page = S0.page ∧ (allocN k S l).2.pages = S0.pages ∧ ∀ l', (allocN k S l).1 = some l' → l'.length = l.length + k ∧ TakenAt S0 (allocN k S l).2 l'
  | 0, S0, S, l, h => ⟨h.page, h.pages, fun l' e => by obtain rfl := Option.some.inj (show some l = some l' from e); exact ⟨rfl, h⟩⟩
  | k + 1, S0, S, l, h => by
    cases e : allocF S with
    | none =>
      have e2 : allocN (k + 1) S l = (none, S) := by unfold allocN; rw [e]
      rw [e2]
      exact ⟨h.page, h.pages, fun l' e => by cases e⟩
    | some n =>
      have e2 : allocN (k + 1) S l = allocN k (S.put n (some (List.replicate S.page 0))) (l ++ [(n : Int)]) := by rw [allocN, e]
      rw [e2]
      obtain ⟨h1, h2, h3⟩ := allocF_spec e
      have h4 := h.put h1 (by rw [← h.pages]; exact h2) (List.replicate S.page 0)
      obtain ⟨k1, k2, k3⟩ := allocN_spec k S0 _ _ h4
      refine ⟨k1, k2, fun l' e => ?_⟩
      obtain ⟨k4, k5⟩ := k3 l' e
      exact ⟨by rw [k4, List.length_append]; simp; omega, k5⟩
theorem nCh_pages {p len : Nat} (hp : isPowB (p : Int) = true) (hl : 1 ≤ len) : ((nCh len (p - 16) : Nat) : Int) = pagesF p len ∧ (pagesF p len).toNat = nCh len (p - 16) := by
  obtain ⟨h1, h2⟩ := isPowB_range hp
  have e : pagesF p len = ((nCh len (p - 16) : Nat) : Int) := by
    unfold pagesF nCh
    rw [if_neg (by rw [hp]; simp; omega)]
    have e1 : (len : Int) - 1 = ((len - 1 : Nat) : Int) := by omega
    have e2 : (p : Int) - 16 = ((p - 16 : Nat) : Int) := by omega
    rw [e1, e2]
    have e3 : len + (p - 16) - 1 = (len - 1) + (p - 16) * 1 := by omega
    rw [e3, Nat.add_mul_div_left _ _ (by omega)]
    rfl
  exact ⟨e.symm, by rw [e]; rfl⟩
theorem wrF_ok {S : BS} {v : List UInt8} (hp : isPowB (S.page : Int) = true) (h : ¬ (v.length < 1 ∨ 65536 < v.length)) : wrF S v = if spareF S ((nCh v.length (S.page - 16) : Nat) : Int) = false then (0, 5, S) else wrEnd v (nCh v.length (S.page - 16)) (allocN (nCh v.length (S.page - 16)) S []) := by
  obtain ⟨h1, h2⟩ := nCh_pages (p := S.page) hp (show 1 ≤ v.length by omega)
  unfold wrF
  rw [if_neg h, h2, ← h1]
theorem pieceF_length (v : List UInt8) (h k : Nat) : (pieceF v h k).length = mCh v.length h k := by
  unfold pieceF
  rw [List.length_take, List.length_drop]
  unfold mCh
  omega
theorem piece_rng {v : List UInt8} {h k : Nat} (hh : 1 ≤ h) (hk : k < nCh v.length h) : 1 ≤ (pieceF v h k).length ∧ (pieceF v h k).length ≤ h := by
  have := (nCh_lt hh).1 hk
  rw [pieceF_length]
  unfold mCh
  omega
theorem spZ_piece {p : Nat} {next : Int} {d : List UInt8} (hp : isPowB (p : Int) = true) (hn : next = 0 ∨ (2 ≤ next ∧ next < 65536)) (h1 : 1 ≤ d.length) (h2 : d.length ≤ p - 16) : spZ next d (p : Int) = 0 := by
  have := isPowB_range hp
  unfold spZ
  rw [if_neg (by rw [hp]; simp; omega), if_neg (by omega)]
theorem nextP_rng {S S' : BS} {l : List Int} (h : TakenAt S S' l) (hp : S.pages ≤ 65536) (k : Nat) : nextP l k = 0 ∨ (2 ≤ nextP l k ∧ nextP l k < 65536) := by
  unfold nextP
  rcases Nat.lt_or_ge (k + 1) l.length with h1 | h1
  · have : l.getD (k + 1) 0 ∈ l := by
      rw [List.getD_eq_getElem?_getD, List.getElem?_eq_getElem h1]
      exact List.getElem_mem h1
    have := h.rng _ this
    omega
  · left
    rw [List.getD_eq_getElem?_getD, List.getElem?_eq_none h1]; rfl
theorem rep_set (l : List Int) (N k : Nat) (n : Int) (hl : l.length = k) (h : k < N) : (l ++ List.replicate (N - k) 0).set k n = (l ++ [n]) ++ List.replicate (N - (k + 1)) 0 := by
  have e : N - k = (N - (k + 1)) + 1 := by omega
  rw [List.set_append_right _ _ (by omega), hl, Nat.sub_self, e, List.replicate_succ, List.set_cons_zero, List.append_assoc]
  rfl
theorem next_at (l : List Int) (k : Nat) (h : k + 1 < (l ++ [0]).length) : (l ++ [0])[k + 1] = nextP l k := by
  unfold nextP
  rw [List.getD_eq_getElem?_getD]
  rcases Nat.lt_or_ge (k + 1) l.length with h1 | h1
  · rw [List.getElem_append_left h1, List.getElem?_eq_getElem h1]; rfl
  · have : k + 1 = l.length := by simp at h; omega
    rw [List.getElem_append_right h1, List.getElem?_eq_none h1]; simp
theorem page_at (l : List Int) (k : Nat) (h : k < l.length) (h' : k < (l ++ [0]).length) : (l ++ [0])[k] = l.getD k 0 := by
  rw [List.getD_eq_getElem?_getD, List.getElem_append_left h, List.getElem?_eq_getElem h]; rfl
theorem allocN_step {S S' : BS} {N k n : Nat} {l : List Int} (hk : k < N) (h : allocN N S [] = allocN (N - k) S' l) (hf : allocF S' = some n) : allocN N S [] = allocN (N - (k + 1)) (S'.put n (some (List.replicate S'.page 0))) (l ++ [(n : Int)]) := by
  rw [h, show N - k = (N - (k + 1)) + 1 by omega, allocN, hf]
theorem allocN_stop {S S' : BS} {N k : Nat} {l : List Int} (hk : k < N) (h : allocN N S [] = allocN (N - k) S' l) (hf : allocF S' = none) : allocN N S [] = (none, S') := by
  rw [h, show N - k = (N - (k + 1)) + 1 by omega, allocN, hf]
theorem putTo_write {S S' : BS} {l : List Int} {v : List UInt8} {k : Nat} (hp : isPowB (S'.page : Int) = true) (hT : TakenAt S S' l) (hk : k < l.length) (hd : (pieceF v (S'.page - 16) k).length ≤ S'.page - 16) :
    writeZ (putTo S' l v k) (l.getD k 0) (laidS (nextP l k) (pieceF v (S'.page - 16) k) S'.page) = 0 ∧ writeS (putTo S' l v k) (l.getD k 0) (laidS (nextP l k) (pieceF v (S'.page - 16) k) S'.page) = putTo S' l v (k + 1) := by
  have h1 := isPowB_range hp
  have hm : l.getD k 0 ∈ l := by
    rw [List.getD_eq_getElem?_getD, List.getElem?_eq_getElem hk]
    exact List.getElem_mem hk
  have h2 := putTo_held (l := l) (v := v) (hT.held _ hm) k
  have h3 : writeZ (putTo S' l v k) (l.getD k 0) (laidS (nextP l k) (pieceF v (S'.page - 16) k) S'.page) = 0 := by
    unfold writeZ
    rw [if_neg h2, laidS_length (by omega), (putTo_page S' l v k).1, if_neg (by simp)]
  refine ⟨h3, ?_⟩
  unfold writeS
  rw [if_pos h3]
  rfl
theorem chunk_mem (w : World) (x y : Value) (T U : TypeId) : ((w.alloc (.cells #[x] T)).alloc (.cells #[y] U)).cell? ⟨w.heap.size, 0, none⟩ = some x ∧ ((w.alloc (.cells #[x] T)).alloc (.cells #[y] U)).cell? ⟨w.heap.size + 1, 0, none⟩ = some y ∧
    Below w.heap.size w ((w.alloc (.cells #[x] T)).alloc (.cells #[y] U)) ∧ ((w.alloc (.cells #[x] T)).alloc (.cells #[y] U)).heap.size = w.heap.size + 2 := by
  have h1 := (OBlk.new' w T [x]).alloc (.cells #[y] U)
  have h2 := OBlk.new' (w.alloc (.cells #[x] T)) U [y]
  rw [World.size_alloc] at h2
  exact ⟨h1.cell' rfl, h2.cell' rfl, ((Below.refl _ _).alloc (Nat.le_refl _) _).alloc (by simp) _, by simp⟩
end Go.Proofs.Ytgnhakgfgdelpaa
