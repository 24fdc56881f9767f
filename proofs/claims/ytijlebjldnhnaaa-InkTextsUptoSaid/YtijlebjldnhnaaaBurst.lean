/- A burst of at most four neighbouring bytes turns the sum. -/
import Derived.Test.YtijlebjldnhnaaaCrc
namespace Go.Proofs.Ytijlebjldnhnaaa
theorem word_cons (x : UInt8) (l : List UInt8) : word (x :: l) % 256 = x.toNat ∧ word (x :: l) / 256 = word l := by
  have h : word (x :: l) = x.toNat ^^^ (256 * word l) := rfl
  have hx := x.toNat_lt
  have e : x.toNat ^^^ (256 * word l) = 256 * word l + x.toNat := by
    rw [Nat.xor_comm, show 256 * word l = 2 ^ 8 * word l from rfl]
    apply Nat.eq_of_testBit_eq
    intro i
    rw [Nat.testBit_xor, Nat.testBit_two_pow_mul_add _ (show x.toNat < 2 ^ 8 from hx), Nat.testBit_two_pow_mul]
    by_cases hi : i < 8
    · have : ¬ i ≥ 8 := by omega
      simp [hi, this]
    · have hi8 : i ≥ 8 := by omega
      have : x.toNat.testBit i = false := Nat.testBit_lt_two_pow (Nat.lt_of_lt_of_le hx (Nat.pow_le_pow_right (n := 2) (by omega) hi8))
      simp [hi, hi8, this]
  rw [h, e]
  omega
theorem word_inj : ∀ (l m : List UInt8), l.length = m.length → word l = word m → l = m
  | [], [], _, _ => rfl
  | x :: l, y :: m, hl, h => by
    obtain ⟨h1, h2⟩ := word_cons x l
    obtain ⟨h3, h4⟩ := word_cons y m
    rw [h] at h1 h2
    have e1 : x = y := UInt8.toNat_inj.mp (by omega)
    have e2 := word_inj l m (by simpa using hl) (by omega)
    rw [e1, e2]
theorem word_lt : ∀ (l : List UInt8), word l < 256 ^ l.length
  | [] => by simp [word]
  | x :: l => by
    obtain ⟨h1, h2⟩ := word_cons x l
    have := word_lt l
    have hx := x.toNat_lt
    rw [List.length_cons, Nat.pow_succ]
    omega
theorem crcF_burst (r : Nat) (hr : r < 4294967296) (s s' : List UInt8) (hl : s.length = s'.length) (h4 : s.length ≤ 4) (h : crcF r s = crcF r s') : s = s' := by
  rw [crcF_word, crcF_word, ← hl] at h
  have w1 := word_lt s
  have w2 := word_lt s'
  have p1 : 256 ^ s.length ≤ 4294967296 := by
    have := Nat.pow_le_pow_right (n := 256) (by omega) h4
    omega
  rw [← hl] at w2
  have := crcN_inj _ (Nat.xor_lt_two_pow (n := 32) hr (by omega)) (Nat.xor_lt_two_pow (n := 32) hr (by omega)) h
  rw [Nat.xor_comm r, Nat.xor_comm r] at this
  exact word_inj s s' hl (xor_cancel_right this)
theorem sumF_burst (a s s' z : List UInt8) (hl : s.length = s'.length) (h4 : s.length ≤ 4) (h : sumF (a ++ s ++ z) = sumF (a ++ s' ++ z)) : s = s' := by
  unfold sumF at h
  have h := xor_cancel_right h
  rw [crcF_append, crcF_append, crcF_append, crcF_append] at h
  have ha := crcF_lt 4294967295 a (by omega)
  have h := crcF_inj z (crcF_lt _ s ha) (crcF_lt _ s' ha) h
  exact crcF_burst _ ha s s' hl h4 h
/-- The bytes l from place p on, turned by t. -/
def xorL (s t : List UInt8) : List UInt8 := List.zipWith (· ^^^ ·) s t
def turnF (b : List UInt8) (p : Nat) (t : List UInt8) : List UInt8 := b.take p ++ xorL ((b.drop p).take t.length) t ++ b.drop (p + t.length)
theorem xorL_length (s t : List UInt8) (h : s.length = t.length) : (xorL s t).length = t.length := by simp [xorL, h]
theorem turnF_length (b : List UInt8) (p : Nat) (t : List UInt8) (h : p + t.length ≤ b.length) : (turnF b p t).length = b.length := by
  unfold turnF
  rw [List.length_append, List.length_append, xorL_length _ _ (by simp; omega)]
  simp; omega
theorem turnF_nil (b : List UInt8) (p : Nat) : turnF b p [] = b := by simp [turnF, xorL]
theorem turnF_snoc (b : List UInt8) (p : Nat) (t : List UInt8) (x : UInt8) (h : p + t.length < b.length) : turnF b p (t ++ [x]) = (turnF b p t).set (p + t.length) (b[p + t.length] ^^^ x) := by
  have hd : (b.drop p).take (t.length + 1) = (b.drop p).take t.length ++ [b[p + t.length]] := by
    rw [List.take_add_one]
    congr 1
    rw [List.getElem?_drop, List.getElem?_eq_getElem h]
    rfl
  have hs : b.drop (p + t.length) = b[p + t.length] :: b.drop (p + (t.length + 1)) := by
    rw [List.drop_eq_getElem_cons h]; rfl
  have hl : ((b.drop p).take t.length).length = t.length := by simp; omega
  unfold turnF
  rw [List.length_append, List.length_singleton, hd, hs]
  have e : xorL ((b.drop p).take t.length ++ [b[p + t.length]]) (t ++ [x]) = xorL ((b.drop p).take t.length) t ++ [b[p + t.length] ^^^ x] := by
    unfold xorL
    rw [List.zipWith_append hl]
    rfl
  rw [e]
  have hA : (b.take p ++ xorL ((b.drop p).take t.length) t).length = p + t.length := by
    rw [List.length_append, xorL_length _ _ hl]; simp; omega
  rw [List.set_append_right _ _ (by omega), hA, Nat.sub_self]
  simp
theorem turnF_get (b : List UInt8) (p : Nat) (t : List UInt8) (h : p + t.length < b.length) (h' : p + t.length < (turnF b p t).length) : (turnF b p t)[p + t.length] = b[p + t.length] := by
  have hl : ((b.drop p).take t.length).length = t.length := by simp; omega
  have hA : (b.take p ++ xorL ((b.drop p).take t.length) t).length = p + t.length := by
    rw [List.length_append, xorL_length _ _ hl]; simp; omega
  have : (turnF b p t)[p + t.length]? = b[p + t.length]? := by
    unfold turnF
    rw [List.getElem?_append_right (by omega), hA, Nat.sub_self, List.getElem?_drop]
    rfl
  rw [List.getElem?_eq_getElem h', List.getElem?_eq_getElem h] at this
  exact Option.some.inj this
theorem xor_zero_u8 (x y : UInt8) (h : x ^^^ y = x) : y = 0 := by
  have : x ^^^ (x ^^^ y) = x ^^^ x := by rw [h]
  rw [← UInt8.xor_assoc, UInt8.xor_self, UInt8.zero_xor] at this
  exact this
theorem xorL_same : ∀ (s t : List UInt8), s.length = t.length → xorL s t = s → ∀ x ∈ t, x = 0
  | [], [], _, _ => by simp
  | a :: s, b :: t, hl, h => by
    simp only [xorL, List.zipWith_cons_cons, List.cons.injEq] at h
    intro x hx
    rcases List.mem_cons.mp hx with rfl | hx
    · exact xor_zero_u8 a x h.1
    · exact xorL_same s t (by simpa using hl) h.2 x hx
theorem xorL_zero : ∀ (s t : List UInt8), s.length = t.length → (∀ x ∈ t, x = 0) → xorL s t = s
  | [], [], _, _ => rfl
  | a :: s, b :: t, hl, h => by
    have hb := h b (by simp)
    subst hb
    have := xorL_same
    simp only [xorL, List.zipWith_cons_cons, List.cons.injEq]
    exact ⟨UInt8.xor_zero, xorL_zero s t (by simpa using hl) (fun x hx => h x (by simp [hx]))⟩
theorem turnF_zero (b : List UInt8) (p : Nat) (t : List UInt8) (h : p + t.length ≤ b.length) (hz : ∀ x ∈ t, x = 0) : turnF b p t = b := by
  unfold turnF
  rw [xorL_zero _ _ (by simp; omega) hz, ← List.drop_drop, List.append_assoc, List.take_append_drop, List.take_append_drop]
theorem split3 (b : List UInt8) (p n : Nat) : b = b.take p ++ (b.drop p).take n ++ b.drop (p + n) := by
  rw [← List.drop_drop, List.append_assoc, List.take_append_drop, List.take_append_drop]
theorem turnF_self (b : List UInt8) (p : Nat) (t : List UInt8) (h : p + t.length ≤ b.length) (he : turnF b p t = b) : ∀ x ∈ t, x = 0 := by
  have hl : ((b.drop p).take t.length).length = t.length := by simp; omega
  have h1 := he.trans (split3 b p t.length)
  unfold turnF at h1
  rw [List.append_assoc, List.append_assoc] at h1
  have h2 := List.append_cancel_left h1
  have h3 := List.append_inj_left h2 (by rw [xorL_length _ _ hl, hl])
  exact xorL_same _ _ hl h3
theorem turnF_left (a z : List UInt8) (p : Nat) (t : List UInt8) (h : p + t.length ≤ a.length) : turnF (a ++ z) p t = turnF a p t ++ z := by
  unfold turnF
  rw [List.take_append_of_le_length (by omega), List.drop_append_of_le_length (by omega), List.take_append_of_le_length (by simp; omega), List.drop_append_of_le_length (by omega)]
  simp [List.append_assoc]
theorem turnF_right (a z : List UInt8) (r : Nat) (t : List UInt8) : turnF (a ++ z) (a.length + r) t = a ++ turnF z r t := by
  unfold turnF
  rw [List.take_length_add_append, List.drop_length_add_append, Nat.add_assoc, List.drop_length_add_append]
  simp [List.append_assoc]
theorem sumF_turn (b : List UInt8) (p : Nat) (t : List UInt8) (h4 : t.length ≤ 4) (h : p + t.length ≤ b.length) (he : sumF (turnF b p t) = sumF b) : ∀ x ∈ t, x = 0 := by
  have hl : ((b.drop p).take t.length).length = t.length := by simp; omega
  have e : sumF (turnF b p t) = sumF (b.take p ++ (b.drop p).take t.length ++ b.drop (p + t.length)) := by rw [← split3]; exact he
  unfold turnF at e
  have := sumF_burst _ _ _ _ (by rw [xorL_length _ _ hl, hl]) (by rw [xorL_length _ _ hl]; exact h4) e
  exact xorL_same _ _ hl this
def anyNZ (t : List UInt8) : Bool := t.any (· != 0)
theorem anyNZ_false {t : List UInt8} (h : anyNZ t = false) : ∀ x ∈ t, x = 0 := by
  intro x hx
  have := List.any_eq_false.mp h x hx
  simpa using this
theorem anyNZ_true {t : List UInt8} (h : anyNZ t = true) : ¬ ∀ x ∈ t, x = 0 := by
  intro hz
  obtain ⟨x, hx, h2⟩ := List.any_eq_true.mp h
  have := hz x hx
  simp [this] at h2
theorem anyNZ_snoc (t : List UInt8) (x : UInt8) : anyNZ (t ++ [x]) = (anyNZ t || x != 0) := by simp [anyNZ]
end Go.Proofs.Ytijlebjldnhnaaa
