/- Ordered, ReadOrdered, order, common, behind: plain laws, no program. -/
import Derived.Test.YtgnhakgfgdelpaaCrc
namespace Go.Proofs.Ytgnhakgfgdelpaa
/-! ### Ordered -/
def escF (l : List UInt8) : List UInt8 := l.flatMap fun x => if x = 0 then [0, 255] else [x]
def ordF (l : List UInt8) : List UInt8 := escF l ++ [0, 1]
theorem escF_nil : escF [] = [] := rfl
theorem escF_zero (l : List UInt8) : escF (0 :: l) = 0 :: 255 :: escF l := by simp [escF]
theorem escF_one {x : UInt8} (h : x ≠ 0) (l : List UInt8) : escF (x :: l) = x :: escF l := by simp [escF, h]
theorem escF_append (l m : List UInt8) : escF (l ++ m) = escF l ++ escF m := by simp [escF]
theorem escF_len (l : List UInt8) : l.length ≤ (escF l).length ∧ (escF l).length ≤ 2 * l.length := by
  induction l with
  | nil => simp [escF]
  | cons x l ih =>
    by_cases h : x = 0
    · subst h; rw [escF_zero]; simp; omega
    · rw [escF_one h]; simp; omega
theorem escF_count (l : List UInt8) : (escF l).length = l.length + l.count 0 := by
  induction l with
  | nil => simp [escF]
  | cons x l ih =>
    by_cases h : x = 0
    · subst h; rw [escF_zero]; simp; omega
    · rw [escF_one h]; simp [ih, h]; omega
/-- Reading: what was read so far, the bytes taken. -/
def roA : List UInt8 → Nat → List UInt8 → List UInt8 × Nat × Int
  | _, _, [] => ([], 0, 10)
  | _, _, [_] => ([], 0, 10)
  | acc, k, x :: y :: r =>
    if x = 0 then
      if y = 1 then (acc, k + 2, 0)
      else if y = 255 then roA (acc ++ [0]) (k + 2) r
      else ([], 0, 11)
    else roA (acc ++ [x]) (k + 1) (y :: r)
theorem roA_x (acc : List UInt8) (k : Nat) (x : UInt8) (r : List UInt8) (h : x ≠ 0) : roA acc k (x :: r) = roA (acc ++ [x]) (k + 1) r := by
  cases r with
  | nil => simp [roA]
  | cons y r => simp [roA, h]
/-- A stretch without zeros. -/
theorem roA_seg (s : List UInt8) (hs : ∀ x ∈ s, x ≠ 0) : ∀ (acc : List UInt8) (k : Nat) (r : List UInt8), roA acc k (s ++ r) = roA (acc ++ s) (k + s.length) r := by
  induction s with
  | nil => intro acc k r; simp
  | cons x s ih =>
    intro acc k r
    rw [List.cons_append, roA_x _ _ _ _ (hs x (by simp)), ih (fun y hy => hs y (by simp [hy]))]
    simp [Nat.add_assoc, Nat.add_comm 1]
theorem roA_none (s : List UInt8) (hs : ∀ x ∈ s, x ≠ 0) (acc : List UInt8) (k : Nat) : roA acc k s = ([], 0, 10) := by
  have := roA_seg s hs acc k []
  rw [List.append_nil] at this
  rw [this]; rfl
/-- What was written is read. -/
theorem roA_ordF : ∀ (l acc rest : List UInt8) (k : Nat), roA acc k (ordF l ++ rest) = (acc ++ l, k + (ordF l).length, 0)
  | [], acc, rest, k => by simp [ordF, escF_nil, roA]
  | x :: l, acc, rest, k => by
    have ih := roA_ordF l
    by_cases h : x = 0
    · subst h
      have e : ordF (0 :: l) ++ rest = 0 :: 255 :: (ordF l ++ rest) := by simp [ordF, escF_zero]
      have e2 : (ordF (0 :: l)).length = (ordF l).length + 2 := by simp [ordF, escF_zero]
      rw [e, e2]
      have : roA acc k (0 :: 255 :: (ordF l ++ rest)) = roA (acc ++ [0]) (k + 2) (ordF l ++ rest) := by
        rw [roA]; simp
      rw [this, ih]
      simp; omega
    · have e : ordF (x :: l) ++ rest = x :: (ordF l ++ rest) := by simp [ordF, escF_one h]
      have e2 : (ordF (x :: l)).length = (ordF l).length + 1 := by simp [ordF, escF_one h]
      rw [e, e2, roA_x _ _ _ _ h, ih]
      simp; omega
theorem ordF_drop (l : List UInt8) : (ordF l).dropLast = escF l ++ [0] := by
  unfold ordF
  rw [show escF l ++ [0, 1] = (escF l ++ [0]) ++ [1] by simp, List.dropLast_concat]
/-- A byte fewer is too short. -/
theorem roA_short : ∀ (l acc : List UInt8) (k : Nat), roA acc k (escF l ++ [0]) = ([], 0, 10)
  | [], acc, k => rfl
  | x :: l, acc, k => by
    have ih := roA_short l
    by_cases h : x = 0
    · subst h
      have e : escF (0 :: l) ++ [0] = 0 :: 255 :: (escF l ++ [0]) := by simp [escF_zero]
      have : roA acc k (0 :: 255 :: (escF l ++ [0])) = roA (acc ++ [0]) (k + 2) (escF l ++ [0]) := by rw [roA]; simp
      rw [e, this, ih]
    · have e : escF (x :: l) ++ [0] = x :: (escF l ++ [0]) := by simp [escF_one h]
      rw [e, roA_x _ _ _ _ h, ih]
/-! ### Order -/
def ordC : List UInt8 → List UInt8 → Int
  | [], [] => 0
  | [], _ :: _ => -1
  | _ :: _, [] => 1
  | x :: a, y :: b => if x < y then -1 else if y < x then 1 else ordC a b
theorem ordC_range : ∀ (a b : List UInt8), ordC a b = -1 ∨ ordC a b = 0 ∨ ordC a b = 1
  | [], [] => by simp [ordC]
  | [], _ :: _ => by simp [ordC]
  | _ :: _, [] => by simp [ordC]
  | x :: a, y :: b => by
    have := ordC_range a b
    unfold ordC
    split
    · simp
    · split
      · simp
      · exact this
theorem ordC_self : ∀ (a : List UInt8), ordC a a = 0
  | [] => rfl
  | x :: a => by
    have h : ¬ x < x := by rw [UInt8.lt_iff_toNat_lt]; omega
    simp [ordC, h, ordC_self a]
theorem ordC_eq : ∀ (a b : List UInt8), ordC a b = 0 → a = b
  | [], [], _ => rfl
  | [], _ :: _, h => by simp [ordC] at h
  | _ :: _, [], h => by simp [ordC] at h
  | x :: a, y :: b, h => by
    unfold ordC at h
    split at h
    · simp at h
    · rename_i h1
      split at h
      · simp at h
      · rename_i h2
        rw [UInt8.lt_iff_toNat_lt] at h1 h2
        have e : x = y := UInt8.toNat_inj.mp (by omega)
        rw [e, ordC_eq a b h]
theorem ordC_same (x : UInt8) (a b : List UInt8) : ordC (x :: a) (x :: b) = ordC a b := by
  have h : ¬ x < x := by rw [UInt8.lt_iff_toNat_lt]; omega
  simp [ordC, h]
theorem ordC_prefix (s a b : List UInt8) : ordC (s ++ a) (s ++ b) = ordC a b := by
  induction s with
  | nil => rfl
  | cons x s ih => rw [List.cons_append, List.cons_append, ordC_same, ih]
theorem ordC_lt {x y : UInt8} (h : x < y) (a b : List UInt8) : ordC (x :: a) (y :: b) = -1 := by simp [ordC, h]
theorem ordC_gt {x y : UInt8} (h : y < x) (a b : List UInt8) : ordC (x :: a) (y :: b) = 1 := by
  have : ¬ x < y := by rw [UInt8.lt_iff_toNat_lt] at *; omega
  simp [ordC, this, h]
theorem zero_lt_of {x : UInt8} (h : x ≠ 0) : (0 : UInt8) < x := by
  rw [UInt8.lt_iff_toNat_lt]
  have : x.toNat ≠ 0 := fun e => h (UInt8.toNat_inj.mp e)
  simp; omega
theorem ordF_cons_zero (l : List UInt8) : ordF (0 :: l) = 0 :: 255 :: ordF l := by simp [ordF, escF_zero]
theorem ordF_cons_one {x : UInt8} (h : x ≠ 0) (l : List UInt8) : ordF (x :: l) = x :: ordF l := by simp [ordF, escF_one h]
/-- Written texts stand as they do, whatever stands behind. -/
theorem ordC_ordF : ∀ (a b c d : List UInt8), a ≠ b → ordC (ordF a ++ c) (ordF b ++ d) = ordC a b
  | [], [], _, _, h => absurd rfl h
  | [], y :: b, c, d, _ => by
    have e : ordF [] ++ c = 0 :: 1 :: c := rfl
    rw [e]
    by_cases hy : y = 0
    · subst hy
      rw [ordF_cons_zero, List.cons_append, List.cons_append, ordC_same, ordC_lt (by decide)]; rfl
    · rw [ordF_cons_one hy, List.cons_append, ordC_lt (zero_lt_of hy)]; rfl
  | x :: a, [], c, d, _ => by
    have e : ordF [] ++ d = 0 :: 1 :: d := rfl
    rw [e]
    by_cases hx : x = 0
    · subst hx
      rw [ordF_cons_zero, List.cons_append, List.cons_append, ordC_same, ordC_gt (by decide)]; rfl
    · rw [ordF_cons_one hx, List.cons_append, ordC_gt (zero_lt_of hx)]; rfl
  | x :: a, y :: b, c, d, h => by
    by_cases hxy : x = y
    · subst hxy
      have hab : a ≠ b := fun e => h (by rw [e])
      rw [ordC_same, ← ordC_ordF a b c d hab]
      by_cases hx : x = 0
      · subst hx
        rw [ordF_cons_zero, ordF_cons_zero, List.cons_append, List.cons_append, List.cons_append, List.cons_append, ordC_same, ordC_same]
      · rw [ordF_cons_one hx, ordF_cons_one hx, List.cons_append, List.cons_append, ordC_same]
    · by_cases hx : x = 0
      · subst hx
        have hy : y ≠ 0 := fun e => hxy e.symm
        rw [ordF_cons_zero, ordF_cons_one hy, List.cons_append, List.cons_append, List.cons_append, ordC_lt (zero_lt_of hy), ordC_lt (zero_lt_of hy)]
      · by_cases hy : y = 0
        · subst hy
          rw [ordF_cons_zero, ordF_cons_one hx, List.cons_append, List.cons_append, List.cons_append, ordC_gt (zero_lt_of hx), ordC_gt (zero_lt_of hx)]
        · rw [ordF_cons_one hx, ordF_cons_one hy, List.cons_append, List.cons_append]
          have hn : x.toNat ≠ y.toNat := fun e => hxy (UInt8.toNat_inj.mp e)
          rcases Nat.lt_or_gt_of_ne hn with h1 | h1
          · have h1 : x < y := UInt8.lt_iff_toNat_lt.mpr h1
            rw [ordC_lt h1, ordC_lt h1]
          · have h1 : y < x := UInt8.lt_iff_toNat_lt.mpr h1
            rw [ordC_gt h1, ordC_gt h1]
theorem ordC_ordF' (a b : List UInt8) : ordC (ordF a) (ordF b) = ordC a b := by
  by_cases h : a = b
  · subst h; rw [ordC_self, ordC_self]
  · have := ordC_ordF a b [] [] h
    simpa using this
/-- None begins another. -/
theorem ordF_not_prefix {a b : List UInt8} (h : a ≠ b) (z : List UInt8) : ordF b ≠ ordF a ++ z := by
  intro e
  have h1 := ordC_ordF a b z [] h
  rw [List.append_nil, e, ordC_self] at h1
  exact h (ordC_eq a b h1.symm)
/-! ### Between -/
def comF : List UInt8 → List UInt8 → Nat
  | x :: a, y :: b => if x = y then comF a b + 1 else 0
  | _, _ => 0
theorem comF_le : ∀ (a b : List UInt8), comF a b ≤ a.length ∧ comF a b ≤ b.length
  | [], _ => by simp [comF]
  | _ :: _, [] => by simp [comF]
  | x :: a, y :: b => by
    have := comF_le a b
    unfold comF
    split <;> simp <;> omega
theorem comF_take : ∀ (a b : List UInt8), a.take (comF a b) = b.take (comF a b)
  | [], _ => by simp [comF]
  | _ :: _, [] => by simp [comF]
  | x :: a, y :: b => by
    have := comF_take a b
    unfold comF
    split
    · rename_i h; subst h; simp [this]
    · simp
theorem comF_eq {a b : List UInt8} {j : Nat} (h : j < comF a b) : a[j]? = b[j]? := by
  have h1 : (a.take (comF a b))[j]? = (b.take (comF a b))[j]? := by rw [comF_take]
  rwa [List.getElem?_take_of_lt h, List.getElem?_take_of_lt h] at h1
theorem comF_stop : ∀ (a b : List UInt8) (h1 : comF a b < a.length) (h2 : comF a b < b.length), a[comF a b] ≠ b[comF a b]
  | [], _, h1, _ => by simp at h1
  | _ :: _, [], _, h2 => by simp at h2
  | x :: a, y :: b, h1, h2 => by
    by_cases h : x = y
    · subst h
      have e : comF (x :: a) (x :: b) = comF a b + 1 := by simp [comF]
      simp only [e] at h1 h2 ⊢
      have := comF_stop a b (by simpa using h1) (by simpa using h2)
      simpa using this
    · have e : comF (x :: a) (y :: b) = 0 := by simp [comF, h]
      simp only [e]
      simpa using h
theorem comF_of (a b : List UInt8) (k : Nat) (ha : k ≤ a.length) (hb : k ≤ b.length) (h : ∀ j, j < k → a[j]? = b[j]?) (hs : ∀ (h1 : k < a.length) (h2 : k < b.length), a[k] ≠ b[k]) : comF a b = k := by
  have hle := comF_le a b
  rcases Nat.lt_trichotomy (comF a b) k with hlt | he | hgt
  · have h1 := comF_stop a b (by omega) (by omega)
    have h2 := h _ hlt
    rw [List.getElem?_eq_getElem (by omega), List.getElem?_eq_getElem (by omega)] at h2
    exact absurd (Option.some.inj h2) h1
  · exact he
  · have h1 := hs (by omega) (by omega)
    have h2 := comF_eq hgt
    rw [List.getElem?_eq_getElem (by omega), List.getElem?_eq_getElem (by omega)] at h2
    exact absurd (Option.some.inj h2) h1
/-- The beginnings of b that lie behind a. -/
theorem between_take : ∀ (a b : List UInt8) (n : Nat), ordC a b < 0 → n ≤ b.length → (ordC a (b.take n) < 0 ↔ comF a b < n)
  | [], [], _, h, _ => by simp [ordC] at h
  | [], y :: b, n, _, _ => by
    cases n with
    | zero => simp [ordC, comF]
    | succ n => simp [ordC, comF]
  | x :: a, [], _, h, _ => by simp [ordC] at h
  | x :: a, y :: b, n, h, hn => by
    cases n with
    | zero => simp [ordC]
    | succ n =>
      rw [List.take_succ_cons]
      by_cases hxy : x = y
      · subst hxy
        rw [ordC_same] at h ⊢
        have := between_take a b n h (by simpa using hn)
        rw [this]
        simp [comF]
      · have hlt : x < y := by
          unfold ordC at h
          split at h
          · assumption
          · rename_i h1
            split at h
            · simp at h
            · rename_i h2
              rw [UInt8.lt_iff_toNat_lt] at h1 h2
              exact absurd (UInt8.toNat_inj.mp (by omega)) hxy
        rw [ordC_lt hlt]
        simp [comF, hxy]
theorem between_lt {a b : List UInt8} (h : ordC a b < 0) : comF a b < b.length := by
  have h1 := (between_take a b b.length h (Nat.le_refl _)).mp (by rw [List.take_length]; exact h)
  exact h1
theorem ordC_take_le : ∀ (b : List UInt8) (n : Nat), ordC (b.take n) b ≤ 0
  | [], n => by simp [ordC]
  | y :: b, 0 => by simp [ordC]
  | y :: b, n + 1 => by rw [List.take_succ_cons, ordC_same]; exact ordC_take_le b n
/-! ### Behind -/
/-- How many of the first k bytes stand up to the last one that is not 255. -/
def stripA (l : List UInt8) : Nat → Nat
  | 0 => 0
  | k + 1 => if l.getD k 0 = 255 then stripA l k else k + 1
def stripN (l : List UInt8) : Nat := stripA l l.length
theorem stripA_le (l : List UInt8) : ∀ k, stripA l k ≤ k
  | 0 => by simp [stripA]
  | k + 1 => by
    have := stripA_le l k
    unfold stripA; split <;> omega
theorem stripA_last (l : List UInt8) : ∀ k, 0 < stripA l k → l.getD (stripA l k - 1) 0 ≠ 255
  | 0, h => by simp [stripA] at h
  | k + 1, h => by
    unfold stripA at h ⊢
    split at h
    · rename_i h1; rw [if_pos h1]; exact stripA_last l k h
    · rename_i h1; rw [if_neg h1]; simpa using h1
theorem stripA_high (l : List UInt8) : ∀ k j, stripA l k ≤ j → j < k → l.getD j 0 = 255
  | 0, j, _, h => by omega
  | k + 1, j, h1, h2 => by
    unfold stripA at h1
    split at h1
    · rename_i h3
      by_cases e : j = k
      · subst e; exact h3
      · exact stripA_high l k j h1 (by omega)
    · omega
def behL (l : List UInt8) : List UInt8 := l.take (stripN l - 1) ++ [l.getD (stripN l - 1) 0 + 1]
theorem behL_length {l : List UInt8} (h : 0 < stripN l) : (behL l).length = stripN l := by
  have := stripA_le l l.length
  have h2 : stripN l ≤ l.length := this
  simp [behL]; omega
theorem u8_succ_lt {x : UInt8} (h : x ≠ 255) : x < x + 1 ∧ x + 1 ≠ 0 ∧ x + 1 - 1 = x := by
  have hx := x.toNat_lt
  have hn : x.toNat ≠ 255 := fun e => h (UInt8.toNat_inj.mp e)
  have h1 : (x + 1).toNat = x.toNat + 1 := by rw [UInt8.toNat_add]; simp; omega
  refine ⟨by rw [UInt8.lt_iff_toNat_lt]; omega, fun e => by rw [e] at h1; simp at h1, ?_⟩
  simp
theorem strip_split {l : List UInt8} (h : 0 < stripN l) : l = l.take (stripN l - 1) ++ l.getD (stripN l - 1) 0 :: l.drop (stripN l) := by
  have h2 : stripN l ≤ l.length := stripA_le l l.length
  have h3 : stripN l - 1 < l.length := by omega
  conv => lhs; rw [← List.take_append_drop (stripN l - 1) l]
  congr 1
  rw [List.drop_eq_getElem_cons h3]
  have : stripN l - 1 + 1 = stripN l := by omega
  rw [this]
  simp [List.getD, h3]
theorem behind_lt {l : List UInt8} (h : 0 < stripN l) (m : List UInt8) : ordC (l ++ m) (behL l) = -1 := by
  have e := strip_split h
  have hne := stripA_last l l.length h
  have key : ∀ (p r : List UInt8) (x : UInt8), x ≠ 255 → ordC ((p ++ x :: r) ++ m) (p ++ [x + 1]) = -1 := fun p r x hx => by
    rw [List.append_assoc, ordC_prefix, List.cons_append]
    exact ordC_lt (u8_succ_lt hx).1 _ _
  have := key (l.take (stripN l - 1)) (l.drop (stripN l)) _ hne
  change ordC (l.take (stripN l - 1) ++ l.getD (stripN l - 1) 0 :: l.drop (stripN l) ++ m) (behL l) = -1 at this
  rw [← e] at this
  exact this
end Go.Proofs.Ytgnhakgfgdelpaa
