/- Texts joined: Keys in order; plain.New, Open, Len, Used, Find; plain.Insert into a page that is empty, or beyond its end; plain.Insert into a page that is empty, or beyond its end; plain.Insert into a page that is empty, or beyond its end; The bulk of cells; espalierref06.SameCell, SameCells of cells that are the same.; Slices of cells; plain.Page's Insert, Set, Remove beside the document's -/
import Derived.Test.YtfcnkpofcekmgaaNN2
import Derived.Test.YtfcnkpofcekmgaaNN5
import Derived.Deep.RegionLaw
-- Keys in order: where one stands; a list with one more, one other, one less: plain laws.
namespace Go.Proofs.Ytfcnkpofcekmgaa
open Go.RowKit
/-- Where a key stands, or would stand. -/
def findF (key : List UInt8) : List PC → Nat
  | [] => 0
  | c :: r => if ordC c.key key < 0 then findF key r + 1 else 0
def isF (key : List UInt8) (l : List PC) : Bool := decide (∃ c, l[findF key l]? = some c ∧ c.key = key)
theorem findF_le (key : List UInt8) (l : List PC) : findF key l ≤ l.length := by
  induction l with
  | nil => simp [findF]
  | cons c r ih => rw [findF]; split <;> simp <;> omega
theorem findF_drop {key : List UInt8} : ∀ {l : List PC} {k : Nat}, (∀ j (hj : j < k) (hl : j < l.length), ordC l[j].key key < 0) → k ≤ l.length → findF key l = k + findF key (l.drop k)
  | l, 0, _, _ => by simp
  | [], k + 1, _, h => by simp at h
  | c :: r, k + 1, h, hk => by
    have h0 : ordC c.key key < 0 := h 0 (by omega) (by simp)
    rw [findF, if_pos h0, List.drop_succ_cons, findF_drop (k := k) (fun j hj hl => h (j + 1) (by omega) (by simpa using hl)) (by simpa using hk)]
    omega
theorem ordC_trans : ∀ (a b c : List UInt8), ordC a b < 0 → ordC b c < 0 → ordC a c < 0
  | [], [], _, h, _ => by simp [ordC] at h
  | _ :: _, [], _, h, _ => by simp [ordC] at h
  | [], _ :: _, [], _, h => by simp [ordC] at h
  | [], _ :: _, _ :: _, _, _ => by simp [ordC]
  | _ :: _, _ :: _, [], _, h => by simp [ordC] at h
  | x :: a, y :: b, z :: c, h1, h2 => by
    unfold ordC at h1 h2 ⊢
    simp only [UInt8.lt_iff_toNat_lt] at h1 h2 ⊢
    split at h1
    · split at h2
      · rw [if_pos (by omega)]; omega
      · split at h2
        · omega
        · rw [if_pos (by omega)]; omega
    · split at h1
      · omega
      · split at h2
        · rw [if_pos (by omega)]; omega
        · split at h2
          · omega
          · rw [if_neg (by omega), if_neg (by omega)]
            exact ordC_trans a b c h1 h2
theorem bytesLess_ord : ∀ (a b : List UInt8), Op.bytesLess a b = decide (ordC a b < 0)
  | [], [] => by simp [Op.bytesLess, ordC]
  | _ :: _, [] => by simp [Op.bytesLess, ordC]
  | [], _ :: _ => by simp [Op.bytesLess, ordC]
  | x :: a, y :: b => by
    rw [Op.bytesLess, bytesLess_ord a b, ordC]
    by_cases h1 : x < y
    · simp [h1]
    · by_cases h2 : y < x
      · have : ¬ x = y := fun e => by subst e; exact h1 h2
        simp [h1, h2, this]
      · have e : x = y := by
          rw [UInt8.lt_iff_toNat_lt] at h1 h2
          exact UInt8.toNat_inj.mp (by omega)
        subst e
        simp [h1]
theorem scan_sorted {kind : Int} {P : Nat} : ∀ {l : List PC} {p : Option (List UInt8)}, scanE kind P p l = 0 → (∀ q, p = some q → ∀ c ∈ l, ordC q c.key < 0) ∧ l.Pairwise (fun a b => ordC a.key b.key < 0)
  | [], _, _ => ⟨fun _ _ c hc => (by cases hc), List.Pairwise.nil⟩
  | c :: r, p, h => by
    rw [scanE] at h
    split at h
    · cases h
    · split at h
      · cases h
      · rename_i ha
        obtain ⟨h1, h2⟩ := scan_sorted (l := r) h
        have hr := h1 c.key rfl
        refine ⟨fun q hq d hd => ?_, List.Pairwise.cons (fun d hd => hr d hd) h2⟩
        subst hq
        have hqc : ordC q c.key < 0 := by simpa [afterP] using ha
        rcases List.mem_cons.1 hd with rfl | hd
        · exact hqc
        · exact ordC_trans _ _ _ hqc (hr d hd)
theorem find_lt {key : List UInt8} : ∀ {l : List PC} {j : Nat} (hj : j < l.length), j < findF key l → ordC l[j].key key < 0
  | [], _, hj, _ => by simp at hj
  | c :: r, 0, _, h => by
    rw [findF] at h
    split at h
    · assumption
    · omega
  | c :: r, j + 1, hj, h => by
    rw [findF] at h
    split at h
    · exact find_lt (l := r) (by simpa using hj) (by omega)
    · omega
theorem find_at {key : List UInt8} : ∀ {l : List PC} (hj : findF key l < l.length), ¬ ordC l[findF key l].key key < 0
  | [], hj => by simp at hj
  | c :: r, hj => by
    by_cases h : ordC c.key key < 0
    · have e : findF key (c :: r) = findF key r + 1 := by rw [findF, if_pos h]
      have hj' : findF key r < r.length := by rw [e] at hj; simpa using hj
      have := find_at hj'
      simp only [e, List.getElem_cons_succ]
      exact this
    · have e : findF key (c :: r) = 0 := by rw [findF, if_neg h]
      simp only [e, List.getElem_cons_zero]
      exact h
theorem find_ge {key : List UInt8} {l : List PC} (hs : l.Pairwise (fun a b => ordC a.key b.key < 0)) {j : Nat} (hj : j < l.length) (h : findF key l ≤ j) : ¬ ordC l[j].key key < 0 := by
  intro hlt
  have h1 := find_at (key := key) (l := l) (by omega)
  rcases Nat.lt_or_ge (findF key l) j with h2 | h2
  · exact h1 (ordC_trans _ _ _ (List.pairwise_iff_getElem.1 hs _ _ (by omega) hj h2) hlt)
  · have e : findF key l = j := by omega
    simp only [e] at h1
    exact h1 hlt
theorem find_self {l : List PC} (hs : l.Pairwise (fun a b => ordC a.key b.key < 0)) {i : Nat} (hi : i < l.length) : findF l[i].key l = i ∧ isF l[i].key l = true := by
  have e : findF l[i].key l = i := by
    rcases Nat.lt_trichotomy (findF l[i].key l) i with h | h | h
    · exact absurd (List.pairwise_iff_getElem.1 hs _ _ (by omega) hi h) (find_at (by omega))
    · exact h
    · have := find_lt hi h
      rw [ordC_self] at this; omega
  refine ⟨e, ?_⟩
  unfold isF
  rw [e]
  exact decide_eq_true ⟨l[i], List.getElem?_eq_getElem hi, rfl⟩
theorem isF_lt {key : List UInt8} {l : List PC} (h : findF key l < l.length) : isF key l = (l[findF key l].key == key) := by
  unfold isF
  rw [Bool.eq_iff_iff, decide_eq_true_iff, beq_iff_eq]
  refine ⟨fun ⟨c, hc, he⟩ => ?_, fun he => ⟨_, List.getElem?_eq_getElem h, he⟩⟩
  rw [List.getElem?_eq_getElem h] at hc
  rw [Option.some.inj hc]; exact he
theorem isF_ge {key : List UInt8} {l : List PC} (h : ¬ findF key l < l.length) : isF key l = false := by
  unfold isF
  refine decide_eq_false fun ⟨c, hc, _⟩ => ?_
  rw [List.getElem?_eq_none (by omega)] at hc
  cases hc
def Rising (l : List PC) : Prop := l.Pairwise (fun a b => ordC a.key b.key < 0)
theorem ordC_flip : ∀ (a b : List UInt8), ordC a b < 0 ∨ ordC a b = 0 ∨ ordC b a < 0
  | [], [] => by simp [ordC]
  | _ :: _, [] => by simp [ordC]
  | [], _ :: _ => by simp [ordC]
  | x :: a, y :: b => by
    by_cases h1 : x < y
    · exact .inl (by rw [ordC_lt h1]; omega)
    · by_cases h2 : y < x
      · exact .inr (.inr (by rw [ordC_lt h2]; omega))
      · have e : x = y := by
          rw [UInt8.lt_iff_toNat_lt] at h1 h2
          exact UInt8.toNat_inj.mp (by omega)
        subst e
        rw [ordC_same, ordC_same]
        exact ordC_flip a b
theorem rise_ins {c : PC} {l : List PC} (hs : Rising l) (hne : ∀ x ∈ l, x.key ≠ c.key) : Rising (l.take (findF c.key l) ++ (c :: l.drop (findF c.key l))) := by
  have hd : Rising (l.take (findF c.key l) ++ l.drop (findF c.key l)) := by rw [List.take_append_drop]; exact hs
  have hlo : ∀ x ∈ l.take (findF c.key l), ordC x.key c.key < 0 := by
    intro x hx
    obtain ⟨j, hj, rfl⟩ := List.getElem_of_mem hx
    rw [List.length_take] at hj
    rw [List.getElem_take]
    exact find_lt (by omega) (by omega)
  have hhi : ∀ x ∈ l.drop (findF c.key l), ordC c.key x.key < 0 := by
    intro x hx
    obtain ⟨j, hj, rfl⟩ := List.getElem_of_mem hx
    rw [List.length_drop] at hj
    rw [List.getElem_drop]
    have h1 := find_ge hs (j := findF c.key l + j) (key := c.key) (by omega) (by omega)
    rcases ordC_flip l[findF c.key l + j].key c.key with h | h | h
    · exact absurd h h1
    · exact absurd (ordC_eq _ _ h) (hne _ (List.getElem_mem _))
    · exact h
  unfold Rising at hd ⊢
  rw [List.pairwise_append] at hd ⊢
  refine ⟨hd.1, List.pairwise_cons.2 ⟨hhi, hd.2.1⟩, fun x hx y hy => ?_⟩
  rcases List.mem_cons.1 hy with rfl | hy
  · exact hlo x hx
  · exact hd.2.2 x hx y hy
theorem scan_rise {kind : Int} {P : Nat} : ∀ {l : List PC} {p : Option (List UInt8)}, (∀ c ∈ l, mayP kind P c = true) → (∀ q, p = some q → ∀ c ∈ l, ordC q c.key < 0) → Rising l → scanE kind P p l = 0
  | [], _, _, _, _ => rfl
  | c :: r, p, hm, hp, hs => by
    have hs' := List.pairwise_cons.1 hs
    rw [scanE, if_neg (by rw [hm c (by simp)]; simp)]
    have ha : afterP p c.key = true := by
      cases p with
      | none => rfl
      | some q => exact decide_eq_true (hp q rfl c (by simp))
    rw [if_neg (by rw [ha]; simp)]
    exact scan_rise (fun d hd => hm d (by simp [hd])) (fun q hq d hd => by injection hq with hq; subst hq; exact hs'.1 d hd) hs'.2
/-- c in the place of so many from i on. -/
def withF (l : List PC) (i gone : Nat) (c : PC) : List PC := l.take i ++ (c :: l.drop (i + gone))
theorem rising_adj (l : List PC) : Rising l ↔ ∀ k (h : k + 1 < l.length), ordC (l[k]'(by omega)).key l[k + 1].key < 0 := by
  refine ⟨fun h k hk => List.pairwise_iff_getElem.1 h k (k + 1) (by omega) hk (by omega), fun h => List.pairwise_iff_getElem.2 fun i j hi hj hij => ?_⟩
  obtain ⟨d, rfl⟩ : ∃ d, j = i + 1 + d := ⟨j - (i + 1), by omega⟩
  induction d with
  | zero => exact h i hj
  | succ d ih => exact ordC_trans _ _ _ (ih (by omega) (by omega)) (h (i + 1 + d) (by omega))
theorem Rising.at_ {l : List PC} (h : Rising l) {i j : Nat} (hij : i < j) (hj : j < l.length) : ordC (l[i]'(by omega)).key l[j].key < 0 := List.pairwise_iff_getElem.1 h i j (by omega) hj hij
theorem with_rises {l : List PC} {i gone : Nat} {c : PC} (hs : Rising l) (hi : i + gone ≤ l.length) :
    Rising (withF l i gone c) ↔ (∀ h : 0 < i, ordC (l[i - 1]'(by omega)).key c.key < 0) ∧ (∀ h : i + gone < l.length, ordC c.key l[i + gone].key < 0) := by
  constructor
  · intro h
    unfold Rising withF at h
    rw [List.pairwise_append, List.pairwise_cons] at h
    obtain ⟨-, ⟨h2, -⟩, h4⟩ := h
    refine ⟨fun h => h4 _ ?_ c (by simp), fun h => h2 _ ?_⟩
    · exact List.mem_take_iff_getElem.2 ⟨i - 1, by omega, rfl⟩
    · rw [List.drop_eq_getElem_cons h]; exact List.mem_cons_self ..
  · rintro ⟨ha, hb⟩
    have hlo : ∀ x ∈ l.take i, ordC x.key c.key < 0 := by
      intro x hx
      obtain ⟨j, hj, rfl⟩ := List.getElem_of_mem hx
      rw [List.length_take] at hj
      rw [List.getElem_take]
      by_cases e : j = i - 1
      · subst e; exact ha (by omega)
      · exact ordC_trans _ _ _ (hs.at_ (i := j) (j := i - 1) (by omega) (by omega)) (ha (by omega))
    have hhi : ∀ x ∈ l.drop (i + gone), ordC c.key x.key < 0 := by
      intro x hx
      obtain ⟨j, hj, rfl⟩ := List.getElem_of_mem hx
      rw [List.length_drop] at hj
      rw [List.getElem_drop]
      by_cases e : j = 0
      · subst e; exact hb (by omega)
      · exact ordC_trans _ _ _ (hb (by omega)) (hs.at_ (i := i + gone) (j := i + gone + j) (by omega) (by omega))
    unfold Rising withF
    rw [List.pairwise_append, List.pairwise_cons]
    refine ⟨hs.sublist (List.take_sublist _ _), ⟨hhi, hs.sublist (List.drop_sublist _ _)⟩, fun x hx y hy => ?_⟩
    rcases List.mem_cons.1 hy with rfl | hy
    · exact hlo x hx
    · exact ordC_trans _ _ _ (hlo x hx) (hhi y hy)
def leftO (l : List PC) (i : Nat) (c : PC) : Int := if h : 0 < i ∧ i - 1 < l.length then ordC (l[i - 1]'h.2).key c.key else -1
def rightO (l : List PC) (j : Nat) (c : PC) : Int := if h : j < l.length then ordC c.key l[j].key else -1
theorem leftO_zero (l : List PC) (c : PC) : leftO l 0 c = -1 := by unfold leftO; rw [dif_neg (by omega)]
theorem leftO_succ {l : List PC} {k : Nat} (c : PC) (h : k < l.length) : leftO l (k + 1) c = ordC l[k].key c.key := by unfold leftO; rw [dif_pos ⟨by omega, by omega⟩]; rfl
theorem rightO_in {l : List PC} {j : Nat} (c : PC) (h : j < l.length) : rightO l j c = ordC c.key l[j].key := by unfold rightO; rw [dif_pos h]
theorem rightO_end {l : List PC} {j : Nat} (c : PC) (h : l.length ≤ j) : rightO l j c = -1 := by unfold rightO; rw [dif_neg (by omega)]
/-- What Remove tells and leaves. -/
def remZ (l : List PC) (i : Int) : Int := if i < 0 ∨ (l.length : Int) ≤ i then 64 else 0
def remL (l : List PC) (i : Int) : List PC := if i < 0 ∨ (l.length : Int) ≤ i then l else l.take i.toNat ++ l.drop (i.toNat + 1)
/-- What Cell tells. -/
def cellZ (l : List PC) (i : Int) : Int := if i < 0 ∨ (l.length : Int) ≤ i then 64 else 0
def cellC (l : List PC) (i : Int) : PC := if i < 0 ∨ (l.length : Int) ≤ i then ⟨[], 0, [], 0, 0⟩ else l.getD i.toNat ⟨[], 0, [], 0, 0⟩
end Go.Proofs.Ytfcnkpofcekmgaa

-- plain.New, Open, Len, Used, Find: walks.
namespace Go.Proofs.Ytfcnkpofcekmgaa
open Go.RowKit
/-- A page that is worked on, at p. -/
structure PgAt (w : World) (p : Nat) (kind : Int) (P : Nat) (used : Int) (v : Value) (l : List CV) : Prop where
  blk : OBlk w p 61 [.int .i64 kind, .int .i64 (P : Int), .int .i64 used, v]
  rd : RdCs w v l
theorem PgAt.below {w w' : World} {p : Nat} {kind : Int} {P : Nat} {used : Int} {v : Value} {l : List CV} (h : PgAt w p kind P used v l) (hb : Below w.heap.size w w') : PgAt w' p kind P used v l :=
  ⟨h.blk.below hb h.blk.lt, h.rd.below hb⟩
theorem cells4 {w : World} {g : Nat} {T : TypeId} {a0 a1 a2 a3 : Value} (h : OBlk w g T [a0, a1, a2, a3]) :
    w.cell? ⟨g, 0, none⟩ = some a0 ∧ w.cell? ⟨g, 1, none⟩ = some a1 ∧ w.cell? ⟨g, 2, none⟩ = some a2 ∧ w.cell? ⟨g, 3, none⟩ = some a3 :=
  ⟨h.cell 0, h.cell 1, h.cell 2, h.cell 3⟩
section
variable {w : World} {p : Nat} {kind : Int} {P : Nat} {used : Int} {v : Value} {l : List CV}
set_option maxRecDepth 20000 in
theorem PLen_any (h : PgAt w p kind P used v l) : Calls Try.prog 86 #[.pointer (some ⟨p, 0, none⟩)] w fun e w' => e = .returned (.int .i64 (l.length : Int)) ∧ w = w' := by
  obtain ⟨A, c, rfl, hm, hc⟩ := h.rd.slice
  obtain ⟨c0, c1, c2, c3⟩ := cells4 h.blk
  go_enter Try.func86, Try.ntmps86
  go_wp2_with fail
  go_ret
  exact ⟨rfl, rfl⟩
set_option maxRecDepth 20000 in
theorem PUsed_any (h : PgAt w p kind P used v l) : Calls Try.prog 89 #[.pointer (some ⟨p, 0, none⟩)] w fun e w' => e = .returned (.int .i64 used) ∧ w = w' := by
  obtain ⟨A, c, rfl, hm, hc⟩ := h.rd.slice
  obtain ⟨c0, c1, c2, c3⟩ := cells4 h.blk
  go_enter Try.func89, Try.ntmps89
  go_wp2_with fail
  go_ret
  exact ⟨rfl, rfl⟩
end
set_option maxRecDepth 20000 in
set_option maxHeartbeats 1000000 in
theorem PNew_ok (kind : Int) (P : Nat) (hk : isKindB kind = true) (hp : isPowB (P : Int) = true) (w : World) : Calls Try.prog 15 #[.int .i64 kind, .int .i64 (P : Int)] w fun e w' =>
    ∃ p, e = .returned (.tuple #[.pointer (some ⟨p, 0, none⟩), .int .i64 0]) ∧ w.heap.size ≤ p ∧ PgAt w' p kind P 8 (.slice none 0 0) [] ∧ Below w.heap.size w w' := by
  have hr := isPowB_range hp
  have hKi := fun W => isKind_any kind W
  have hPa := fun W => isPage_any (P : Int) (by omega) W
  rw [hk] at hKi
  rw [hp] at hPa
  clear hk hp
  go_enter Try.func15, Try.ntmps15
  go_wp2_with (first | (go_at_call 29; refine (hKi _).mono ?_; rintro e w1 ⟨rfl, rfl⟩) | (go_at_call 30; refine (hPa _).mono ?_; rintro e w1 ⟨rfl, rfl⟩) | fail)
  go_ret2
  exact ⟨_, rfl, Nat.le_refl _, ⟨OBlk.new' w 61 [.int .i64 kind, .int .i64 (P : Int), .int .i64 8, .slice none 0 0], (OwCs.nil _ 0).rd⟩, (Below.refl _ _).alloc (Nat.le_refl _) _⟩
set_option maxRecDepth 20000 in
set_option maxHeartbeats 1000000 in
theorem PNew_bad (kind P : Int) (hk : isKindB kind = false) (w : World) : Calls Try.prog 15 #[.int .i64 kind, .int .i64 P] w fun e w' =>
    e = .returned (.tuple #[.pointer none, .int .i64 1]) ∧ w = w' := by
  have hKi := fun W => isKind_any kind W
  rw [hk] at hKi
  clear hk
  go_enter Try.func15, Try.ntmps15
  go_wp2_with (first | (go_at_call 29; refine (hKi _).mono ?_; rintro e w1 ⟨rfl, rfl⟩) | fail)
  go_ret2
  exact ⟨rfl, rfl⟩
set_option maxRecDepth 100000 in
set_option maxHeartbeats 4000000 in
theorem PFind_any {w : World} {p : Nat} {kind : Int} {P : Nat} {used : Int} {v : Value} {l : List CV} (h : PgAt w p kind P used v l) (vk : Value) (key : List UInt8) (hk : RdB w vk key) :
    Calls Try.prog 83 #[.pointer (some ⟨p, 0, none⟩), vk] w fun e w' => e = .returned (.tuple #[.int .i64 (findF key (pcs l) : Nat), .bool (isF key (pcs l))]) ∧ Below w.heap.size w w' := by
  obtain ⟨A, c, rfl, hm, hc⟩ := h.rd.slice
  obtain ⟨K, kc, rfl, hkm⟩ := hk.form
  obtain ⟨c0, c1, c2, c3⟩ := cells4 h.blk
  have hl := h.rd
  have hpl := h.blk.lt
  have hblk := h.blk
  go_enter Try.func83, Try.ntmps83
  go_wp2_with fail
  clear c0 c1 c2 c3
  go_loopw [14] (fun i wr => ∃ k : Nat, k ≤ l.length ∧ i = .int .i64 (k : Int) ∧ Hid (∀ j (hj : j < k) (hjl : j < (pcs l).length), ordC (pcs l)[j].key key < 0) ∧ Below w.heap.size w wr) (fun i _ => l.length - (intOf i).toNat)
  case atStart => exact ⟨0, Nat.zero_le _, rfl, Lib.hid (fun j hj => by omega), Below.refl _ _⟩
  case round =>
    obtain ⟨k, hk', rfl, HJ, hB⟩ := hrel
    have hfd : findF key (pcs l) = k + findF key ((pcs l).drop k) := findF_drop HJ.out (by rw [pcs_length]; exact hk')
    by_cases hlt : k < l.length
    · have ik : (k : Int) < (l.length : Int) := by omega
      have hlp : k < (pcs l).length := by rw [pcs_length]; exact hlt
      have hJ2 : ∀ c, (pcs l)[k] = c → Hid (ordC c.key key < 0 → ∀ j (hj : j < k + 1) (hjl : j < (pcs l).length), ordC (pcs l)[j].key key < 0) := fun c hc => Lib.hid (fun ho j hj hjl => by
        by_cases e : j = k
        · subst e; rw [hc]; exact ho
        · exact HJ.out j (by omega) hjl)
      have hF2 : ∀ c, (pcs l)[k] = c → Hid (¬ ordC c.key key < 0 → findF key (pcs l) = k ∧ isF key (pcs l) = decide (ordC c.key key = 0)) := fun c hc => Lib.hid (fun ho => by
        have e : findF key (pcs l) = k := by
          rw [hfd, List.drop_eq_getElem_cons hlp, findF, hc, if_neg ho]; rfl
        refine ⟨e, ?_⟩
        unfold isF
        rw [e]
        refine decide_eq_decide.2 ⟨fun ⟨d, hd, hdk⟩ => ?_, fun h0 => ⟨c, by rw [List.getElem?_eq_getElem hlp, hc], ordC_eq _ _ h0⟩⟩
        rw [List.getElem?_eq_getElem hlp, hc] at hd
        injection hd with hd
        subst hd
        rw [hdk]; exact ordC_self _)
      have hJ2 := hJ2 _ (pcs_at hlt)
      have hF2 := hF2 _ (pcs_at hlt)
      have hlr := hl.below hB
      obtain ⟨ad, rfl, c0, c1, c2, c3, c4⟩ := hlr.at_ hlt
      have hx := hlr.ok _ (List.getElem_mem hlt)
      generalize l[k] = x at *
      obtain ⟨A1, a1, B1, b1, kk, ck, val, pg, ct, rfl, _, _⟩ := CV.form hx
      have hA0 : Below wr.heap.size wr (wr.alloc (.cells #[.slice A1 kk.length a1, .int .i64 ck, .slice B1 val.length b1, .int .i64 pg, .int .i64 ct] 31)) := (Below.refl wr.heap.size wr).alloc (Nat.le_refl _) _
      have hA := hB.trans (hA0.mono hB.size)
      have hcmp := Compare_any _ _ _ _ _ (hx.k.below hA0 (Nat.le_refl _)) (hk.below hA (Nat.le_refl _))
      have hJ3 : Hid (ordC kk key < 0 → ∀ j (hj : j < k + 1) (hjl : j < (pcs l).length), ordC (pcs l)[j].key key < 0) := hJ2
      have hF3 : Hid (¬ ordC kk key < 0 → findF key (pcs l) = k ∧ isF key (pcs l) = decide (ordC kk key = 0)) := hF2
      clear hJ2 hF2 hlr hx hB hfd HJ
      simp only at hcmp
      generalize ordC kk key = oc at *
      go_wp2_with fail
      refine hcmp.mono ?_
      rintro e w2 ⟨rfl, rfl⟩
      by_cases ho : oc < 0
      · have i1 : ¬ (0 : Int) ≤ oc := by omega
        have HJ4 := Lib.hid (hJ3.out (by omega))
        clear hJ3 hF3 ho
        go_wp2_with fail
        go_roundw
        case rel => exact ⟨k + 1, by omega, by go_num, HJ4, hA⟩
        case measure => simp [intOf]; omega
      · have i1 : (0 : Int) ≤ oc := by omega
        have HF4 := Lib.hid (hF3.out (by omega))
        clear hJ3 hF3 ho
        go_wp2_with fail
        go_ret2
        rw [HF4.out.1, HF4.out.2]
        refine ⟨?_, hA⟩
        congr 1
    · obtain rfl : k = l.length := by omega
      have hf : findF key (pcs l) = l.length ∧ isF key (pcs l) = false := by
        have e : findF key (pcs l) = l.length := by
          rw [hfd, List.drop_of_length_le (by rw [pcs_length]; omega)]; rfl
        refine ⟨e, ?_⟩
        unfold isF
        rw [e]
        refine decide_eq_false fun ⟨d, hd, _⟩ => ?_
        rw [List.getElem?_eq_none (by rw [pcs_length]; omega)] at hd
        cases hd
      have HF := Lib.hid hf
      obtain ⟨c0, c1, c2, c3⟩ := cells4 (hblk.below hB hpl)
      clear hf hfd HJ
      go_wp2_with fail
      go_ret2
      rw [HF.out.1, HF.out.2]
      exact ⟨rfl, hB⟩
set_option maxRecDepth 20000 in
set_option maxHeartbeats 1000000 in
theorem POpen_any (v : Value) (b : List UInt8) (w : World) (hv : RdB w v b) : Calls Try.prog 17 #[v] w fun e w' => Below w.heap.size w w' ∧
    ((∃ (kind : Int) (l : List CV) (p : Nat) (u : Value), isPln b kind (pcs l) ∧ e = .returned (.tuple #[.pointer (some ⟨p, 0, none⟩), .int .i64 0]) ∧ w.heap.size ≤ p ∧ PgAt w' p kind b.length (sizeF (pcs l) : Nat) u l) ∨
      ((∀ kind l, ¬ isPln b kind l) ∧ e = .returned (.tuple #[.pointer none, .int .i64 60]))) := by
  have hd := PDecode_any v b w hv
  obtain ⟨A, c, rfl, hm⟩ := hv.form
  go_enter Try.func17, Try.ntmps17
  go_wp2_with fail
  refine hd.mono ?_
  rintro e w1 ⟨hw1, ⟨kind, l, u, hy, rfl, hO⟩ | ⟨hn, rfl⟩⟩
  · obtain ⟨B, cc, rfl⟩ := Own.slice hO.own
    have hsz : sizeF (pcs l) ≤ b.length := (encE_zero.1 hy.2.2.1).2
    have hP := (isPowB_range hy.1).2
    have hokc : ∀ c ∈ pcs l, OkC b.length c := fun c hc => may_ok (scan_may (encE_zero.1 hy.2.2.1).1 c hc)
    have hn : (pcs l).length ≤ 2000000000000 := by have := sizeF_eq (pcs l); omega
    have hS := Size_any kind _ l w1 hO.rd (fit_of hokc (by omega) hn)
    have HY := Lib.hid hy
    have hrd := hO.rd
    clear hsz hokc hn hd hy
    go_wp2_with fail
    refine hS.mono ?_
    rintro e w2 ⟨rfl, hw2⟩
    have hb2 := hw1.trans (hw2.mono hw1.size)
    go_wp2_with fail
    go_ret2
    exact ⟨hb2.alloc hb2.size _, .inl ⟨kind, l, _, _, HY.out, rfl, hb2.size, ⟨OBlk.new' w2 61 [.int .i64 kind, .int .i64 (b.length : Int), .int .i64 (sizeF (pcs l) : Nat), .slice B l.length cc], (hrd.below hw2).below ((Below.refl _ _).alloc (Nat.le_refl _) _)⟩⟩⟩
  · have HN := Lib.hid hn
    clear hn hd
    go_wp2_with fail
    go_ret2
    exact ⟨hw1, .inr ⟨HN.out, rfl⟩⟩
end Go.Proofs.Ytfcnkpofcekmgaa

-- plain.Insert into a page that is empty, or beyond its end: walks.
namespace Go.Proofs.Ytfcnkpofcekmgaa
open Go.RowKit
set_option maxRecDepth 100000 in
set_option maxHeartbeats 4000000 in
theorem own_any (x : CV) (w : World) (hx : x.ok w) (h1 : x.c.key.length ≤ 140737488355328) (h2 : x.c.val.length ≤ 140737488355328) :
    Calls Try.prog 92 #[cellV x] w fun e w' => ∃ y : CV, e = .returned (cellV y) ∧ y.c = x.c ∧ OwB w' w.heap.size y.kv x.c.key ∧ OwB w' w.heap.size y.vv x.c.val ∧ (∀ g g', y.kv.ownBlock = some g → y.vv.ownBlock = some g' → g < g') ∧ Below w.heap.size w w' := by
  obtain ⟨A, ca, B, cb, key, ck, val, pg, ct, rfl, hk1, hk2⟩ := CV.form hx
  simp only at h1 h2
  have hkr : RdB w (.slice A key.length ca) key := hx.k
  have hvr : RdB w (.slice B val.length cb) val := hx.v
  have hC0 := OBlk.new' w 31 [.slice A key.length ca, .int .i64 ck, .slice B val.length cb, .int .i64 pg, .int .i64 ct]
  have hC := hC0.alloc (.cells #[.slice none 0 0, .int .i64 0, .slice none 0 0, .int .i64 0, .int .i64 0] 31)
  have hR := OBlk.new' (w.alloc (.cells #[.slice A key.length ca, .int .i64 ck, .slice B val.length cb, .int .i64 pg, .int .i64 ct] 31)) 31 [.slice none 0 0, .int .i64 0, .slice none 0 0, .int .i64 0, .int .i64 0]
  rw [World.size_alloc] at hR
  have hA := (((Below.refl w.heap.size w).alloc (Nat.le_refl _) (.cells #[.slice A key.length ca, .int .i64 ck, .slice B val.length cb, .int .i64 pg, .int .i64 ct] 31))).alloc (by simp) (.cells #[.slice none 0 0, .int .i64 0, .slice none 0 0, .int .i64 0, .int .i64 0] 31)
  unfold cellV
  go_enter Try.func92, Try.ntmps92
  go_upto_region 1 with (fail)
  have hkr0 := hkr.below hA (Nat.le_refl _)
  have hvr0 := hvr.below hA (Nat.le_refl _)
  generalize (w.alloc (.cells #[.slice A key.length ca, .int .i64 ck, .slice B val.length cb, .int .i64 pg, .int .i64 ct] 31)).alloc (.cells #[.slice none 0 0, .int .i64 0, .slice none 0 0, .int .i64 0, .int .i64 0] 31) = w0 at *
  obtain ⟨c0, c1, c2, c3, c4⟩ := cells5 hC
  have f0 := hC.frozen (j := 0) (by simp)
  have f2 := hC.frozen (j := 2) (by simp)
  have hcl := hC.lt
  have hrl := hR.lt
  go_region_law
    (first
      | (go_simp; go_at_call 95; refine (CloneB_any _ key _ hkr0.drew h1).mono ?_; rintro e w4 ⟨vd, rfl, hod, hw4⟩; obtain ⟨K2, kc2, rfl⟩ := Own.slice hod; have hC4 := hC.drew.below hw4 hcl; have d2 := hC4.cell' (j := 2) (u := .slice B val.length cb) rfl; have d0 := hC4.cell' (j := 0) (u := .slice A key.length ca) rfl; have hvr4 := hvr0.drew.below hw4 (Nat.le_refl _))
      | (go_simp; go_at_call 95; refine (CloneB_any _ val _ hvr4 h2).mono ?_; rintro e w5 ⟨ve, rfl, hoe, hw5⟩; obtain ⟨V2, vc2, rfl⟩ := Own.slice hoe; have hC5 := hC4.below hw5 hC4.lt; have e2 := hC5.cell' (j := 2) (u := .slice B val.length cb) rfl; have e0 := hC5.cell' (j := 0) (u := .slice A key.length ca) rfl; have g2 := hC5.frozen (j := 2) (by simp); have g0 := hC5.frozen (j := 0) (by simp))
      | fail)
  all_goals
    have hz0 : w.heap.size + 1 < w0.heap.size := hrl
    have hz4 : w0.heap.size ≤ w4.heap.size := hw4.size
    have hC6 := (hC5.set 0 (.slice K2 key.length kc2)).set 2 (.slice V2 val.length vc2)
    simp only [List.set_cons_succ, List.set_cons_zero] at hC6
    have hR5 := (hR.drew.below hw4 hrl).below hw5 (by omega)
    have hR6 := (hR5.far (p := ⟨w.heap.size, 0, none⟩) (show w.heap.size + 1 ≠ w.heap.size by omega) (.slice K2 key.length kc2)).far (p := ⟨w.heap.size, 2, none⟩) (show w.heap.size + 1 ≠ w.heap.size by omega) (.slice V2 val.length vc2)
    have hb5 : Below w.heap.size w w5 := (hA.drew.trans (hw4.mono hA.size)).trans (hw5.mono (by have := hA.size; omega))
    have hb6 := (hb5.setCell (p := ⟨w.heap.size, 0, none⟩) (Nat.le_refl _) (.slice K2 key.length kc2)).setCell (p := ⟨w.heap.size, 2, none⟩) (Nat.le_refl _) (.slice V2 val.length vc2)
    have hod5 := Own.below' hod hw5 (Nat.le_refl _)
    have hgk : ∀ k, Value.ownBlock (.slice K2 key.length kc2) = some k → w.heap.size + 1 < k ∧ k < w4.heap.size := fun k hk => ⟨Nat.lt_of_lt_of_le hz0 (Own.lt hod k hk).1, (Own.lt hod k hk).2⟩
    have hgv : ∀ k, Value.ownBlock (.slice V2 val.length vc2) = some k → w4.heap.size ≤ k := fun k hk => (Own.lt hoe k hk).1
    have hod6 : OwB ((w5.setCell ⟨w.heap.size, 0, none⟩ (.slice K2 key.length kc2)).setCell ⟨w.heap.size, 2, none⟩ (.slice V2 val.length vc2)) w.heap.size (.slice K2 key.length kc2) key := Own.heap (OwB.base_le hod5 (b := w.heap.size) fun k hk => by have := (hgk k hk).1; omega) fun k hk => by
      have := (hgk k hk).1
      rw [Below.heap_setCell _ _ _ _ (show k ≠ w.heap.size by omega), Below.heap_setCell _ _ _ _ (show k ≠ w.heap.size by omega)]
    have hoe6 : OwB ((w5.setCell ⟨w.heap.size, 0, none⟩ (.slice K2 key.length kc2)).setCell ⟨w.heap.size, 2, none⟩ (.slice V2 val.length vc2)) w.heap.size (.slice V2 val.length vc2) val := Own.heap (OwB.base_le hoe (b := w.heap.size) fun k hk => by have := hgv k hk; omega) fun k hk => by
      have := hgv k hk
      rw [Below.heap_setCell _ _ _ _ (show k ≠ w.heap.size by omega), Below.heap_setCell _ _ _ _ (show k ≠ w.heap.size by omega)]
    generalize (w5.setCell ⟨w.heap.size, 0, none⟩ (.slice K2 key.length kc2)).setCell ⟨w.heap.size, 2, none⟩ (.slice V2 val.length vc2) = w6 at *
    clear c0 c1 c2 c3 c4 f0 f2 d0 d2 e0 e2 g0 g2 hC hC4 hC5 hR hR5 hb5 hod5
    obtain ⟨y0, y1, y2, y3, y4⟩ := cells5 hC6
    obtain ⟨r0, r1, r2, r3, r4⟩ := cells5 hR6
    have f0 := hR6.frozen (j := 0) (by simp); have f1 := hR6.frozen (j := 1) (by simp); have f2 := hR6.frozen (j := 2) (by simp); have f3 := hR6.frozen (j := 3) (by simp); have f4 := hR6.frozen (j := 4) (by simp)
    have H1 := Lib.hid hgk
    have H2 := Lib.hid hgv
    clear hgk hgv
    go_wp2_with fail
    obtain ⟨e0, e1, e2, e3, e4⟩ := cells5 (set5 hR6 (.slice K2 key.length kc2) (.int .i64 ck) (.slice V2 val.length vc2) (.int .i64 pg) (.int .i64 ct))
    refine bodyPost_ret (v := .agg #[(.slice K2 key.length kc2), .int .i64 ck, (.slice V2 val.length vc2), .int .i64 pg, .int .i64 ct]) ?_ rfl ?_
    · simp [results, Try.results92, go_sem, e0, e1, e2, e3, e4]
    · exact ⟨⟨(.slice K2 key.length kc2), (.slice V2 val.length vc2), ⟨key, ck, val, pg, ct⟩⟩, rfl, rfl, ow5 hod6 (fun k hk => by have := (H1.out k hk).1; omega) _ _ _ _ _, ow5 hoe6 (fun k hk => by have := H2.out k hk; omega) _ _ _ _ _, fun g g' e e' => by have := (H1.out g e).2; have := H2.out g' e'; omega, below5 hb6 (by omega) _ _ _ _ _⟩
end Go.Proofs.Ytfcnkpofcekmgaa

-- plain.Insert into a page that is empty, or beyond its end: walks.
namespace Go.Proofs.Ytfcnkpofcekmgaa
open Go.RowKit
set_option maxRecDepth 100000 in
set_option maxHeartbeats 4000000 in
/-- An empty page's refusal. -/
theorem refused_nil {w : World} {p : Nat} {kind : Int} {P : Nat} (h : PgAt w p kind P 8 (.slice none 0 0) []) (hP : P ≤ 65536) (x : CV) (hx : x.ok w) (hm : mayP kind P x.c = true) (hf : 10 + longF x.c ≤ P) :
    Calls Try.prog 90 #[.pointer (some ⟨p, 0, none⟩), .int .i64 0, .int .i64 0, cellV x, .int .i64 0] w fun e w' => e = .returned (.int .i64 0) ∧ Below w.heap.size w w' := by
  have hok := may_ok hm
  have hkv := okc_fit hok hP
  obtain ⟨A, ca, B, cb, key, ck, val, pg, ct, rfl, hk1, hk2⟩ := CV.form hx
  have hA : Below w.heap.size w (w.alloc (.cells #[.slice A key.length ca, .int .i64 ck, .slice B val.length cb, .int .i64 pg, .int .i64 ct] 31)) := (Below.refl _ _).alloc (Nat.le_refl _) _
  have hC := OBlk.new' w 31 [.slice A key.length ca, .int .i64 ck, .slice B val.length cb, .int .i64 pg, .int .i64 ct]
  have hB := h.blk.alloc (.cells #[.slice A key.length ca, .int .i64 ck, .slice B val.length cb, .int .i64 pg, .int .i64 ct] 31)
  have hx1 := hx.below hA
  have hma := fun W => may_any ⟨.slice A key.length ca, .slice B val.length cb, ⟨key, ck, val, pg, ct⟩⟩ kind P hP W
  have hlo := fun W => long_any ⟨.slice A key.length ca, .slice B val.length cb, ⟨key, ck, val, pg, ct⟩⟩ W
  have hkv' : key.length + val.length ≤ 9223372036854775000 := by have : key.length + val.length ≤ 131072 := hkv; omega
  rw [hm] at hma
  have hf' : 10 + longF ⟨key, ck, val, pg, ct⟩ ≤ P := hf
  unfold cellV at hma hlo ⊢
  have hlo2 : ∀ W, CV.ok W ⟨.slice A key.length ca, .slice B val.length cb, ⟨key, ck, val, pg, ct⟩⟩ → Calls Try.prog 31 #[.agg #[.slice A key.length ca, .int .i64 ck, .slice B val.length cb, .int .i64 pg, .int .i64 ct]] W fun e w' => e = .returned (.int .i64 (longF ⟨key, ck, val, pg, ct⟩ : Nat)) ∧ Below W.heap.size W w' := fun W hW => hlo W hW hkv'
  have HM := Lib.hid hma
  have HL := Lib.hid hlo2
  have HX := Lib.hid hx
  clear hlo hma hlo2 hm hok hkv hf h hx
  have hpl := hB.lt
  generalize longF ⟨key, ck, val, pg, ct⟩ = lo at *
  go_enter Try.func90, Try.ntmps90
  go_upto_region 1 with (fail)
  generalize (w.alloc (.cells #[.slice A key.length ca, .int .i64 ck, .slice B val.length cb, .int .i64 pg, .int .i64 ct] 31)) = w1 at *
  obtain ⟨c0, c1, c2, c3, c4⟩ := cells5 hC
  obtain ⟨b0, b1, b2, b3⟩ := cells4 hB
  have hcl := hC.lt
  go_cut [11] (fun s wx => s = .bool false ∧ Below w1.heap.size w1 wx)
  case first =>
    go_region_held3 (fun w' => w'.cell? ⟨w.heap.size, 0, none⟩ = some (.slice A key.length ca) ∧ w'.cell? ⟨w.heap.size, 1, none⟩ = some (.int .i64 ck) ∧ w'.cell? ⟨w.heap.size, 2, none⟩ = some (.slice B val.length cb) ∧ w'.cell? ⟨w.heap.size, 3, none⟩ = some (.int .i64 pg) ∧ w'.cell? ⟨w.heap.size, 4, none⟩ = some (.int .i64 ct) ∧ w'.cell? ⟨p, 0, none⟩ = some (.int .i64 kind) ∧ w'.cell? ⟨p, 1, none⟩ = some (.int .i64 (P : Int)))
      (first
        | exact ⟨c0, c1, c2, c3, c4, b0, b1⟩
        | (obtain ⟨d0, d1, d2, d3, d4⟩ := cells5 (hC.drew.below hw2 hcl); obtain ⟨f0, f1, _, _⟩ := cells4 (hB.drew.below hw2 hpl); exact ⟨d0, d1, d2, d3, d4, f0, f1⟩))
      (first
        | (go_at_call 32; refine (HM.out _ (hx1.below ((Below.refl _ _).drew))).mono ?_; rintro e w2 ⟨rfl, hw2⟩)
        | fail)
    go_wp2_with fail
    go_meet
    exact ⟨rfl, (Below.refl _ _).drew.trans hw2⟩
  case rest =>
    obtain ⟨rfl, hw2⟩ := hcut
    have hC2 := hC.below hw2 hcl
    have hB2 := hB.below hw2 hpl
    have hx2 := hx1.below hw2
    have hcl2 := hC2.lt
    have hpl2 := hB2.lt
    clear c0 c1 c2 c3 c4 b0 b1 b2 b3 hC hB hx1
    obtain ⟨c0, c1, c2, c3, c4⟩ := cells5 hC2
    obtain ⟨b0, b1, b2, b3⟩ := cells4 hB2
    have i1 : ¬ (P : Int) < (10 : Int) + (lo : Int) := by omega
    have i2 : IntKind.i64.wrap (IntKind.i64.wrap (IntKind.i64.wrap 8 + 2) + (lo : Int)) = (10 : Int) + (lo : Int) := by rw [IntKind.wrap_i64, IntKind.wrap_i64, IntKind.wrap_i64]; omega
    go_upto_region 3 with (fail)
    go_region
    go_upto_region 4 with (fail)
    go_region
    go_upto_region 6 with (fail)
    go_region_held3 (fun w' => w'.cell? ⟨w.heap.size, 0, none⟩ = some (.slice A key.length ca) ∧ w'.cell? ⟨w.heap.size, 1, none⟩ = some (.int .i64 ck) ∧ w'.cell? ⟨w.heap.size, 2, none⟩ = some (.slice B val.length cb) ∧ w'.cell? ⟨w.heap.size, 3, none⟩ = some (.int .i64 pg) ∧ w'.cell? ⟨w.heap.size, 4, none⟩ = some (.int .i64 ct) ∧ w'.cell? ⟨p, 1, none⟩ = some (.int .i64 (P : Int)) ∧ w'.cell? ⟨p, 2, none⟩ = some (.int .i64 8))
      (first
        | exact ⟨c0, c1, c2, c3, c4, b1, b2⟩
        | (obtain ⟨d0, d1, d2, d3, d4⟩ := cells5 (OBlk.below (w := wc.drew.drew.drew) hC2 hw3 hcl2); obtain ⟨_, f1, f2, _⟩ := cells4 (OBlk.below (w := wc.drew.drew.drew) hB2 hw3 hpl2); exact ⟨d0, d1, d2, d3, d4, f1, f2⟩))
      (first
        | (go_at_call 31; refine (HL.out _ (hx2.below (((Below.refl _ _).drew.drew).drew))).mono ?_; rintro e w3 ⟨rfl, hw3⟩)
        | fail)
    go_wp2_with fail
    go_ret
    exact ⟨rfl, (hA.trans (hw2.mono hA.size)).trans ((((Below.refl wc.heap.size wc).drew.drew).drew.trans hw3).mono (by have := hA.size; have := hw2.size; omega))⟩
/-- The one way of slices.Insert that is needed: behind the end. -/
theorem cs_elem : Try.prog.underlying 59 = some (.slice (Try.prog.elem 59)) := by kernel_rfl
set_option maxRecDepth 100000 in
set_option maxHeartbeats 4000000 in
theorem InsertS_nil (w : World) (y : CV) (b1 b2 : Nat) (hk : OwB w b1 y.kv y.c.key) (hv : OwB w b2 y.vv y.c.val) :
    Calls Try.prog 91 #[.slice none 0 0, .int .i64 0, .slice (some ⟨w.heap.size, 0, none⟩) 1 1] (w.alloc (.cells #[y.kv, .int .i64 y.c.kind, y.vv, .int .i64 y.c.page, .int .i64 y.c.count] 31)) fun e w' =>
      ∃ v, e = .returned v ∧ Own w' w.heap.size 31 5 v 1 y.cells ∧ Below w.heap.size w w' := by
  obtain ⟨i0, hi, hz0, hz1, hz2⟩ := info_parts cell_info
  have hsrc := Rd.five w y.kv (.int .i64 y.c.kind) y.vv (.int .i64 y.c.page) (.int .i64 y.c.count) 31
  have hone := cells_one hk hv
  have hA : Below w.heap.size w (w.alloc (.cells #[y.kv, .int .i64 y.c.kind, y.vv, .int .i64 y.c.page, .int .i64 y.c.count] 31)) := (Below.refl _ _).alloc (Nat.le_refl _) _
  go_enter Try.func91, Try.ntmps91
  go_wp2_with (first
    | (at_builtin; refine wp_append rfl (.tmp 23) (.tmp 24) _ _ rfl w.heap.size 31 i0 _ 5 72 Try.underlying59 hi hz0 hz1 hz2 rfl _ 0 [] rfl (Own.nil _ _ _ _) (.slice (some ⟨w.heap.size, 0, none⟩) 1 1) 1 _ rfl (Rd.src _ Try.underlying59 (by omega) hsrc hone) (by omega) (by omega) (by simp) ?_; intro v' w' ho' hg' hk'; obtain ⟨B', c', rfl⟩ := Own.slice ho')
    | fail)
  go_ret
  exact ⟨_, rfl, by simpa [CV.cells] using ho', hA.grown hg' (by simp) (fun k hk => by cases hk)⟩
end Go.Proofs.Ytfcnkpofcekmgaa

-- plain.Insert into a page that is empty, or beyond its end: the walk.
namespace Go.Proofs.Ytfcnkpofcekmgaa
open Go.RowKit
set_option maxRecDepth 100000 in
set_option maxHeartbeats 4000000 in
theorem Insert_far {w : World} {p : Nat} {kind : Int} {P : Nat} {used : Int} {v : Value} {l : List CV} (h : PgAt w p kind P used v l) (x : CV) (hx : x.ok w) (i : Int) (hi : (l.length : Int) < i) :
    Calls Try.prog 84 #[.pointer (some ⟨p, 0, none⟩), .int .i64 i, cellV x] w fun e w' => e = .returned (.int .i64 64) ∧ Below w.heap.size w w' := by
  obtain ⟨A, ca, B, cb, key, ck, val, pg, ct, rfl, hk1, hk2⟩ := CV.form hx
  obtain ⟨L, lc, rfl, hm, hc⟩ := h.rd.slice
  have hA : Below w.heap.size w (w.alloc (.cells #[.slice A key.length ca, .int .i64 ck, .slice B val.length cb, .int .i64 pg, .int .i64 ct] 31)) := (Below.refl _ _).alloc (Nat.le_refl _) _
  have hB := h.blk.alloc (.cells #[.slice A key.length ca, .int .i64 ck, .slice B val.length cb, .int .i64 pg, .int .i64 ct] 31)
  obtain ⟨b0, b1, b2, b3⟩ := cells4 hB
  have hpl := h.blk.lt
  have i1 : ¬ i < 0 := by omega
  unfold cellV
  go_enter Try.func84, Try.ntmps84
  go_wp2_with fail
  go_ret
  exact ⟨rfl, hA⟩
set_option maxRecDepth 100000 in
set_option maxHeartbeats 4000000 in
theorem Insert_first {w : World} {p : Nat} {kind : Int} {P : Nat} (h : PgAt w p kind P 8 (.slice none 0 0) []) (hP : P ≤ 65536) (x : CV) (hx : x.ok w) (hxp : ∀ w', Below p w w' → x.ok w') (hm : mayP kind P x.c = true) (hf : 10 + longF x.c ≤ P) :
    Calls Try.prog 84 #[.pointer (some ⟨p, 0, none⟩), .int .i64 0, cellV x] w fun e w' => e = .returned (.int .i64 0) ∧ (∃ (v : Value) (y : CV), y.c = x.c ∧ PgAt w' p kind P ((10 + longF x.c : Nat) : Int) v [y]) ∧ Below p w w' := by
  have hok := may_ok hm
  have hkv := okc_fit hok hP
  have hrf := fun W (hW : Below w.heap.size w W) => refused_nil (h.below hW) hP x (hx.below hW) hm hf
  obtain ⟨A, ca, B, cb, key, ck, val, pg, ct, rfl, hk1, hk2⟩ := CV.form hx
  have hA : Below w.heap.size w (w.alloc (.cells #[.slice A key.length ca, .int .i64 ck, .slice B val.length cb, .int .i64 pg, .int .i64 ct] 31)) := (Below.refl _ _).alloc (Nat.le_refl _) _
  have hC := OBlk.new' w 31 [.slice A key.length ca, .int .i64 ck, .slice B val.length cb, .int .i64 pg, .int .i64 ct]
  have hB := h.blk.alloc (.cells #[.slice A key.length ca, .int .i64 ck, .slice B val.length cb, .int .i64 pg, .int .i64 ct] 31)
  have hx1 := hx.below hA
  have hpw : p < w.heap.size := h.blk.lt
  have hkv' : key.length + val.length ≤ 131072 := hkv
  have hr := ((OwCs.rng (OwCs.nil w 0)) : _)
  have hlo : ∀ W, CV.ok W ⟨.slice A key.length ca, .slice B val.length cb, ⟨key, ck, val, pg, ct⟩⟩ → Calls Try.prog 31 #[.agg #[.slice A key.length ca, .int .i64 ck, .slice B val.length cb, .int .i64 pg, .int .i64 ct]] W fun e w' => e = .returned (.int .i64 (longF ⟨key, ck, val, pg, ct⟩ : Nat)) ∧ Below W.heap.size W w' := fun W hW => long_any ⟨.slice A key.length ca, .slice B val.length cb, ⟨key, ck, val, pg, ct⟩⟩ W hW (show key.length + val.length ≤ 9223372036854775000 by omega)
  have how : ∀ W, CV.ok W ⟨.slice A key.length ca, .slice B val.length cb, ⟨key, ck, val, pg, ct⟩⟩ → Calls Try.prog 92 #[.agg #[.slice A key.length ca, .int .i64 ck, .slice B val.length cb, .int .i64 pg, .int .i64 ct]] W fun e w' => ∃ (K2 V2 : Option Addr) (kc vc : Nat), e = .returned (.agg #[.slice K2 key.length kc, .int .i64 ck, .slice V2 val.length vc, .int .i64 pg, .int .i64 ct]) ∧ OwB w' W.heap.size (.slice K2 key.length kc) key ∧ OwB w' W.heap.size (.slice V2 val.length vc) val ∧ Below W.heap.size W w' := fun W hW => by
    refine (own_any ⟨.slice A key.length ca, .slice B val.length cb, ⟨key, ck, val, pg, ct⟩⟩ W hW (show key.length ≤ _ by omega) (show val.length ≤ _ by omega)).mono fun e w' hh => ?_
    obtain ⟨⟨kv, vv, c⟩, rfl, rfl, hk, hv, _, hb⟩ := hh
    simp only at hk hv
    obtain ⟨K2, kc, rfl⟩ := Own.slice hk
    obtain ⟨V2, vc, rfl⟩ := Own.slice hv
    exact ⟨K2, V2, kc, vc, rfl, hk, hv, hb⟩
  have hf' : 10 + longF ⟨key, ck, val, pg, ct⟩ ≤ P := hf
  have hins := fun (W : World) (K2 V2 : Option Addr) (kc vc : Nat) (b1 b2 : Nat) hk hv => InsertS_nil W ⟨.slice K2 key.length kc, .slice V2 val.length vc, ⟨key, ck, val, pg, ct⟩⟩ b1 b2 hk hv
  simp only [CV.cells] at hins
  unfold cellV at hrf ⊢
  have HL := Lib.hid hlo
  have HO := Lib.hid how
  have HI := Lib.hid hins
  have HX := Lib.hid hx
  have HXP := Lib.hid hxp
  have HE : Hid (longF (⟨.slice A key.length ca, .slice B val.length cb, ⟨key, ck, val, pg, ct⟩⟩ : CV).c = longF ⟨key, ck, val, pg, ct⟩) := Lib.hid rfl
  have hrf1 := hrf _ hA
  clear hlo how hins hx hxp hm hok hkv hf hrf hr
  generalize longF ⟨key, ck, val, pg, ct⟩ = lo at *
  go_enter Try.func84, Try.ntmps84
  obtain ⟨b0, b1, b2, b3⟩ := cells4 hB
  go_wp2_with fail
  refine hrf1.mono ?_
  rintro e w1 ⟨rfl, hw1⟩
  have hC1 := hC.below hw1 hC.lt
  have hB1 := hB.below hw1 hB.lt
  have hx2 := hx1.below hw1
  have hA1 := hA.trans (hw1.mono hA.size)
  have hz := hC1.lt
  clear hrf1 b0 b1 b2 b3 hC hB hx1 hw1 hA
  obtain ⟨b0, b1, b2, b3⟩ := cells4 hB1
  obtain ⟨c0, c1, c2, c3, c4⟩ := cells5 hC1
  have f2 := hB1.frozen (j := 2) (by simp)
  have hpz := hB1.lt
  have i2 : IntKind.i64.wrap ((8 : Int) + ((2 : Int) + (lo : Int))) = (8 : Int) + ((2 : Int) + (lo : Int)) := by rw [IntKind.wrap_i64]; omega
  have i3 : IntKind.i64.wrap ((2 : Int) + (lo : Int)) = (2 : Int) + (lo : Int) := by rw [IntKind.wrap_i64]; omega
  go_upto_region 6 with (fail)
  go_cut [] (fun wx => OBlk wx p 61 [.int .i64 kind, .int .i64 (P : Int), .int .i64 ((10 + lo : Nat) : Int), .slice none 0 0] ∧ OBlk wx w.heap.size 31 [.slice A key.length ca, .int .i64 ck, .slice B val.length cb, .int .i64 pg, .int .i64 ct] ∧ Below p w wx)
  case first =>
    go_region_law
      (first
        | (go_simp; go_at_call 31; refine (HL.out _ (hx2.below ((Below.refl _ _).drew))).mono ?_; rintro e w3 ⟨rfl, hw3⟩; have hB3 := hB1.drew.below hw3 hpz; have hC3 := hC1.drew.below hw3 hz; obtain ⟨d0, d1, d2, d3⟩ := cells4 hB3; have g2 := hB3.frozen (j := 2) (by simp))
        | fail)
    all_goals
      go_wp2_with fail
      go_meet
      have hB4 := hB3.set 2 (.int .i64 (8 + (2 + (lo : Int))))
      simp only [List.set_cons_succ, List.set_cons_zero] at hB4
      rw [show ((10 + lo : Nat) : Int) = 8 + (2 + (lo : Int)) by omega]
      exact ⟨hB4, hC3.far (p := ⟨p, 2, none⟩) (show w.heap.size ≠ p by omega) _, (((hA1.mono (B' := p) (by omega)).trans (((Below.refl w1.heap.size w1).drew.trans hw3).mono (B' := p) (by omega))).setCell (p := ⟨p, 2, none⟩) (Nat.le_refl _) _)⟩
  case rest =>
    obtain ⟨hB5, hC5, hb5⟩ := hcut
    clear b0 b1 b2 b3 c0 c1 c2 c3 c4 f2 hB1 hC1
    obtain ⟨b0, b1, b2, b3⟩ := cells4 hB5
    obtain ⟨c0, c1, c2, c3, c4⟩ := cells5 hC5
    have hpz5 := hB5.lt
    have hcz5 := hC5.lt
    have f3 := hB5.frozen (j := 3) (by simp)
    go_upto_region 7 with (fail)
    have hx5 := HXP.out _ (hb5.drew)
    go_region_law
      (first
        | (go_simp; go_at_call 92; refine (HO.out _ hx5).mono ?_; rintro e w6 ⟨K2, V2, kc, vc, rfl, hk6, hv6, hw6⟩; have hB6 := hB5.drew.below hw6 hpz5; obtain ⟨d0, d1, d2, d3⟩ := cells4 (hB6.alloc (.cells #[.slice K2 key.length kc, .int .i64 ck, .slice V2 val.length vc, .int .i64 pg, .int .i64 ct] 31)); obtain ⟨e0, e1, e2, e3⟩ := cells4 hB6)
        | (go_simp; go_at_call 91; refine (HI.out w6 K2 V2 kc vc _ _ hk6 hv6).mono ?_; rintro e w7 ⟨v7, rfl, hown7, hw7⟩; obtain ⟨B7, c7, rfl⟩ := Own.slice hown7; have hB7 := hB6.below hw7 hB6.lt; obtain ⟨x0, x1, x2, x3⟩ := cells4 hB7; have g3 := hB7.frozen (j := 3) (by simp))
        | fail)
    all_goals
      have hw5z : wc.heap.size ≤ w6.heap.size := hw6.size
      have hB8 := hB7.set 3 (.slice B7 1 c7)
      simp only [List.set_cons_succ, List.set_cons_zero] at hB8
      have hheap : ∀ k, p < k → (w7.setCell ⟨p, 3, none⟩ (.slice B7 1 c7)).heap[k]? = w7.heap[k]? := fun k hk => Below.heap_setCell _ _ _ _ (show k ≠ p by omega)
      have hown8 := Own.heap hown7 fun k hk => hheap k (by have := (Own.lt hown7 k hk).1; omega)
      have hk8 := Own.heap (Own.below' hk6 hw7 (Nat.le_refl _)) fun k hk => hheap k (by have := (Own.lt hk6 k hk).1; have : wc.heap.size ≤ k := this; omega)
      have hv8 := Own.heap (Own.below' hv6 hw7 (Nat.le_refl _)) fun k hk => hheap k (by have := (Own.lt hv6 k hk).1; have : wc.heap.size ≤ k := this; omega)
      have hb8 : Below p w (w7.setCell ⟨p, 3, none⟩ (.slice B7 1 c7)) := ((hb5.drew.trans (hw6.mono (B' := p) (show p ≤ wc.heap.size by omega))).trans (hw7.mono (B' := p) (by omega))).setCell (p := ⟨p, 3, none⟩) (Nat.le_refl _) _
      have HB8 := Lib.hid hB8
      have HO8 := Lib.hid hown8
      have HK8 := Lib.hid hk8
      have HV8 := Lib.hid hv8
      clear hB8 hown8 hk8 hv8 hheap
      go_wp2_with fail
      go_ret
      refine ⟨rfl, ⟨_, ⟨.slice K2 key.length kc, .slice V2 val.length vc, ⟨key, ck, val, pg, ct⟩⟩, rfl, HB8.out, ⟨?_, ?_⟩⟩, hb8⟩
      · exact HO8.out.rd
      · intro y hy
        rw [List.mem_singleton] at hy
        subst hy
        exact { k := OwB.rd HK8.out, v := OwB.rd HV8.out, r1 := HX.out.r1, r2 := HX.out.r2, r3 := HX.out.r3 }
end Go.Proofs.Ytfcnkpofcekmgaa

-- The bulk of cells; espalierref06.SameCell, SameCells of cells that are the same.
namespace Go.Proofs.Ytfcnkpofcekmgaa
open Go.RowKit
def bulk : List PC → Nat
  | [] => 0
  | c :: r => bulk r + c.key.length + c.val.length
theorem bulk_append (a b : List PC) : bulk (a ++ b) = bulk a + bulk b := by
  induction a with
  | nil => simp [bulk]
  | cons c r ih => simp only [List.cons_append, bulk, ih]; omega
theorem bulk_take (l : List PC) {i : Nat} (hi : i < l.length) : bulk (l.take (i + 1)) = bulk (l.take i) + l[i].key.length + l[i].val.length := by
  rw [List.take_succ_eq_append_getElem hi, bulk_append]; simp [bulk]; omega
theorem bulk_take_le (l : List PC) (i : Nat) : bulk (l.take i) ≤ bulk l := by
  have : bulk l = bulk (l.take i) + bulk (l.drop i) := by rw [← bulk_append, List.take_append_drop]
  omega
theorem bulk_longs (l : List PC) : longsF l ≤ bulk l + 11 * l.length := by
  induction l with
  | nil => simp [longsF]
  | cons c r ih =>
    simp only [longsF, bulk, List.length_cons]
    have : longF c ≤ c.key.length + c.val.length + 11 := by unfold longF; split <;> omega
    omega
theorem bulk_mem {l : List PC} {c : PC} (h : c ∈ l) : c.key.length + c.val.length ≤ bulk l := by
  induction l with
  | nil => cases h
  | cons x r ih =>
    simp only [bulk]
    rcases List.mem_cons.1 h with rfl | h
    · omega
    · have := ih h; omega
end Go.Proofs.Ytfcnkpofcekmgaa

-- Slices of cells: pieces of them, append of pieces.
namespace Go.Proofs.Ytfcnkpofcekmgaa
open Go.RowKit
/-! ### a key's place among rising ones -/
theorem enc_one {kind : Int} {P : Nat} {c : PC} (hP : 512 ≤ P) : encE kind [c] P = if mayP kind P c = true then 0 else 62 := by
  by_cases hm : mayP kind P c = true
  · rw [if_pos hm]
    refine encE_zero.2 ⟨scan_rise (by simpa using hm) (by simp) (by simp [Rising]), ?_⟩
    have h := may_ok hm
    have h1 := h.k0
    have h2 := h.v0
    simp only [sizeF]
    unfold longF
    split
    · have := (h2 (by assumption)).1; omega
    · omega
  · rw [if_neg hm]
    have h62 : scanE kind P none [c] = 62 := by rw [scanE, if_pos (by simpa using hm)]
    unfold encE
    rw [h62]; rfl
theorem enc_three {kind : Int} {P : Nat} {l : List PC} (hP : 512 ≤ P) (hl : l.length ≤ 3) (hm : ∀ c ∈ l, mayP kind P c = true) (hs : Rising l) : encE kind l P = 0 := by
  refine encE_zero.2 ⟨scan_rise hm (by simp) hs, ?_⟩
  have key : ∀ l : List PC, (∀ c ∈ l, mayP kind P c = true) → sizeF l ≤ 8 + l.length * (8 + 5 * (P / 16)) := by
    intro l
    induction l with
    | nil => simp [sizeF]
    | cons c r ih =>
      intro hm
      have h := may_ok (hm c (by simp))
      have h1 := h.k0
      have h2 := h.v0
      have ih' := ih fun d hd => hm d (by simp [hd])
      have hc : longF c ≤ 6 + 5 * (P / 16) := by
        unfold longF
        split
        · have := (h2 (by assumption)).1; omega
        · omega
      simp only [sizeF, List.length_cons, Nat.add_mul, Nat.one_mul]
      omega
  have h1 := key l hm
  have h2 : l.length * (8 + 5 * (P / 16)) ≤ 3 * (8 + 5 * (P / 16)) := Nat.mul_le_mul_right _ hl
  omega
end Go.Proofs.Ytfcnkpofcekmgaa

-- plain.Page's Insert, Set, Remove beside the document's: plain laws.
namespace Go.Proofs.Ytfcnkpofcekmgaa
theorem with_ins_size (l : List PC) {i : Nat} (c : PC) (hi : i ≤ l.length) : sizeF (withF l i 0 c) = sizeF l + (2 + longF c) := by
  have e : longsF l = longsF (l.take i) + longsF (l.drop i) := by rw [← longsF_append, List.take_append_drop]
  unfold withF
  rw [sizeF_eq, sizeF_eq, longsF_append]
  simp only [longsF, List.length_append, List.length_cons, List.length_take, List.length_drop, Nat.add_zero]
  omega
theorem with_set_size (l : List PC) {i : Nat} (c : PC) (hi : i < l.length) : sizeF (withF l i 1 c) + (2 + longF l[i]) = sizeF l + (2 + longF c) := by
  have e : longsF l = longsF (l.take i) + longsF (l.drop i) := by rw [← longsF_append, List.take_append_drop]
  have e2 : longsF (l.drop i) = longF l[i] + longsF (l.drop (i + 1)) := by rw [List.drop_eq_getElem_cons hi]; rfl
  unfold withF
  rw [sizeF_eq, sizeF_eq, longsF_append]
  simp only [longsF, List.length_append, List.length_cons, List.length_take, List.length_drop]
  omega
theorem rem_size (l : List PC) {i : Nat} (hi : i < l.length) : sizeF (l.take i ++ l.drop (i + 1)) + (2 + longF l[i]) = sizeF l := by
  have e : longsF l = longsF (l.take i) + longsF (l.drop i) := by rw [← longsF_append, List.take_append_drop]
  have e2 : longsF (l.drop i) = longF l[i] + longsF (l.drop (i + 1)) := by rw [List.drop_eq_getElem_cons hi]; rfl
  rw [sizeF_eq, sizeF_eq, longsF_append]
  simp only [List.length_append, List.length_take, List.length_drop]
  omega
/-- A page that is worked on. -/
structure Wk (kind : Int) (P : Nat) (l : List PC) : Prop where
  rise : Rising l
  may : ∀ c ∈ l, mayP kind P c = true
  size : sizeF l ≤ P
theorem Wk.enc {kind : Int} {P : Nat} {l : List PC} (h : Wk kind P l) : encE kind l P = 0 := encE_zero.2 ⟨scan_rise h.may (by simp) h.rise, h.size⟩
theorem Wk.rem {kind : Int} {P : Nat} {l : List PC} (h : Wk kind P l) {i : Nat} (hi : i < l.length) : Wk kind P (l.take i ++ l.drop (i + 1)) := by
  refine ⟨?_, fun c hc => ?_, by have := rem_size l hi; have := h.size; omega⟩
  · have e : l.take i ++ l.drop (i + 1) = l.eraseIdx i := (List.eraseIdx_eq_take_drop_succ l i).symm
    rw [e]
    exact h.rise.sublist (List.eraseIdx_sublist _ _)
  · rcases List.mem_append.1 hc with hc | hc
    · exact h.may c (List.mem_of_mem_take hc)
    · exact h.may c (List.mem_of_mem_drop hc)
/-- What Insert (gone 0) and Set (gone 1) tell, at a place that is there. -/
def putE (kind : Int) (P : Nat) (l : List PC) (i gone : Nat) (c : PC) : Int :=
  if mayP kind P c = false then 62
  else if 0 ≤ leftO l i c ∨ 0 ≤ rightO l (i + gone) c then 63
  else if P < sizeF (withF l i gone c) then 61 else 0
theorem Wk.put {kind : Int} {P : Nat} {l : List PC} (h : Wk kind P l) {i gone : Nat} {c : PC} (hi : i + gone ≤ l.length) (h0 : putE kind P l i gone c = 0) : Wk kind P (withF l i gone c) := by
  unfold putE at h0
  split at h0
  · cases h0
  · rename_i hm
    split at h0
    · cases h0
    · rename_i ho
      split at h0
      · cases h0
      · rename_i hz
        refine ⟨(with_rises h.rise hi).2 ⟨fun h1 => ?_, fun h1 => ?_⟩, fun d hd => ?_, by omega⟩
        · have : ¬ _ := fun e => ho (.inl e)
          unfold leftO at this
          rw [dif_pos ⟨h1, by omega⟩] at this
          omega
        · have : ¬ _ := fun e => ho (.inr e)
          unfold rightO at this
          rw [dif_pos h1] at this
          omega
        · unfold withF at hd
          rcases List.mem_append.1 hd with hd | hd
          · exact h.may d (List.mem_of_mem_take hd)
          · rcases List.mem_cons.1 hd with rfl | hd
            · simpa using hm
            · exact h.may d (List.mem_of_mem_drop hd)
/-- What Insert and Set tell and leave, at any place. -/
def insZ (kind : Int) (P : Nat) (l : List PC) (i : Int) (gone : Nat) (c : PC) : Int := if i < 0 ∨ (l.length : Int) - gone < i then 64 else putE kind P l i.toNat gone c
def insL (kind : Int) (P : Nat) (l : List PC) (i : Int) (gone : Nat) (c : PC) : List PC := if insZ kind P l i gone c = 0 then withF l i.toNat gone c else l
theorem insL_ne {kind : Int} {P : Nat} {l : List PC} {i : Int} {gone : Nat} {c : PC} (h : insZ kind P l i gone c ≠ 0) : insL kind P l i gone c = l := if_neg h
theorem insL_eq {kind : Int} {P : Nat} {l : List PC} {i : Int} {gone : Nat} {c : PC} (h : insZ kind P l i gone c = 0) : insL kind P l i gone c = withF l i.toNat gone c := if_pos h
theorem insZ_out {kind : Int} {P : Nat} {l : List PC} {i : Int} {gone : Nat} {c : PC} (h : i < 0 ∨ (l.length : Int) - gone < i) : insZ kind P l i gone c = 64 := if_pos h
theorem insZ_in {kind : Int} {P : Nat} {l : List PC} {i gone : Nat} {c : PC} (h : i + gone ≤ l.length) : insZ kind P l (i : Int) gone c = putE kind P l i gone c := by
  unfold insZ
  rw [if_neg (by omega)]; rfl
theorem putE_zero_may {kind : Int} {P : Nat} {l : List PC} {i gone : Nat} {c : PC} (h : putE kind P l i gone c = 0) : mayP kind P c = true := by
  unfold putE at h
  split at h
  · cases h
  · rename_i hm; simpa using hm
theorem putE_ins {kind : Int} {P : Nat} {l : List PC} {i : Nat} {c : PC} (hi : i ≤ l.length) : putE kind P l i 0 c = if mayP kind P c = false then 62 else if 0 ≤ leftO l i c ∨ 0 ≤ rightO l i c then 63 else if (P : Int) < (sizeF l : Nat) - 0 + 2 + (longF c : Int) then 61 else 0 := by
  unfold putE
  rw [with_ins_size l c hi]
  simp only [Nat.add_zero]
  congr 2
  congr 1
  exact propext ⟨fun h => by omega, fun h => by omega⟩
theorem putE_set {kind : Int} {P : Nat} {l : List PC} {i : Nat} {c : PC} (hi : i < l.length) : putE kind P l i 1 c = if mayP kind P c = false then 62 else if 0 ≤ leftO l i c ∨ 0 ≤ rightO l (i + 1) c then 63 else if (P : Int) < (sizeF l : Nat) - (2 + (longF l[i] : Int)) + 2 + (longF c : Int) then 61 else 0 := by
  unfold putE
  have := with_set_size l c hi
  congr 2
  congr 1
  exact propext ⟨fun h => by omega, fun h => by omega⟩
theorem Wk.ins {kind : Int} {P : Nat} {l : List PC} (h : Wk kind P l) (i : Int) (gone : Nat) (c : PC) : Wk kind P (insL kind P l i gone c) := by
  by_cases hz : insZ kind P l i gone c = 0
  · rw [insL_eq hz]
    have hin : ¬ (i < 0 ∨ (l.length : Int) - gone < i) := fun e => by rw [insZ_out e] at hz; cases hz
    unfold insZ at hz
    rw [if_neg hin] at hz
    exact h.put (by omega) hz
  · rw [insL_ne hz]; exact h
theorem Wk.del {kind : Int} {P : Nat} {l : List PC} (h : Wk kind P l) (i : Int) : Wk kind P (remL l i) := by
  unfold remL
  split
  · exact h
  · exact h.rem (by omega)
theorem Wk.len {kind : Int} {P : Nat} {l : List PC} (h : Wk kind P l) (hP : P ≤ 65536) : l.length ≤ 32768 := by
  have := h.size
  rw [sizeF_eq] at this
  omega
end Go.Proofs.Ytfcnkpofcekmgaa
