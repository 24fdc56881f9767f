/- Texts joined: node.Half of cells that fit and one more; The same call on a node of either engine; espalierref08.Right -/
import Derived.Test.YtfcnkpofcekmgaaGreatNT6
import Derived.Test.YtfcnkpofcekmgaaGreatNT8
import Derived.Test.YtfcnkpofcekmgaaGreatNT9
import Derived.Test.YtfcnkpofcekmgaaGreatNT10
import Derived.Test.YtfcnkpofcekmgaaGreatNT18
import Derived.Test.YtfcnkpofcekmgaaGreatNT23
import Derived.Test.YtfcnkpofcekmgaaGreatNT24
-- node.Half of cells that fit and one more: plain laws.
namespace Go.Proofs.YtfcnkpofcekmgaaGreat
open Go.RowKit
/-! ### the search finds what is there -/
section
variable (sz : List PC → Nat) (fit : List PC → Bool) (kind : Int) (l : List PC)
theorem hLoop_spec : ∀ (m k : Nat) (s : Nat × Nat), (hLoop sz fit kind l m k s).1 ≤ s.1 ∧ (hLoop sz fit kind l m k s = s ∨ ∃ j, k ≤ j ∧ j < k + m ∧ (hLoop sz fit kind l m k s).2 = j ∧ fit (l.take j) = true ∧ fit (rightF kind l j) = true) ∧
    (∀ j, k ≤ j → j < k + m → fit (l.take j) = true → fit (rightF kind l j) = true → (hLoop sz fit kind l m k s).1 ≤ hMost sz kind l j)
  | 0, k, s => ⟨Nat.le_refl _, .inl rfl, fun j h1 h2 => by omega⟩
  | m + 1, k, s => by
    obtain ⟨a1, a2, a3⟩ := hLoop_spec m (k + 1) (hStep sz fit kind l k s)
    rw [hLoop_le]
    generalize hr : hLoop sz fit kind l m (k + 1) (hStep sz fit kind l k s) = r at *
    by_cases hc : hMost sz kind l k < s.1 ∧ fit (l.take k) = true ∧ fit (rightF kind l k) = true
    · have hs : hStep sz fit kind l k s = (hMost sz kind l k, k) := if_pos hc
      rw [hs] at a1 a2
      refine ⟨by have := hc.1; simp only at a1; omega, .inr ?_, fun j h1 h2 f1 f2 => ?_⟩
      · rcases a2 with e | ⟨j, b1, b2, b3⟩
        · exact ⟨k, Nat.le_refl _, by omega, by rw [e], hc.2⟩
        · exact ⟨j, by omega, by omega, b3⟩
      · rcases Nat.eq_or_lt_of_le h1 with rfl | h1
        · exact a1
        · exact a3 j h1 (by omega) f1 f2
    · have hs : hStep sz fit kind l k s = s := if_neg hc
      rw [hs] at a1 a2
      refine ⟨a1, ?_, fun j h1 h2 f1 f2 => ?_⟩
      · rcases a2 with e | ⟨j, b1, b2, b3⟩
        · exact .inl e
        · exact .inr ⟨j, by omega, by omega, b3⟩
      · rcases Nat.eq_or_lt_of_le h1 with rfl | h1
        · have : ¬ hMost sz kind l k < s.1 := fun e => hc ⟨e, f1, f2⟩
          omega
        · exact a3 j h1 (by omega) f1 f2
theorem half_found {P : Nat} (hfit : ∀ x, fit x = true → sz x ≤ P) (h : ∃ k, 2 ≤ k ∧ k + 2 ≤ l.length ∧ fit (l.take k) = true ∧ fit (rightF kind l k) = true) :
    2 ≤ halfA sz fit kind l P ∧ halfA sz fit kind l P + 2 ≤ l.length ∧ fit (l.take (halfA sz fit kind l P)) = true ∧ fit (rightF kind l (halfA sz fit kind l P)) = true ∧ halfZ sz fit kind l P = 0 := by
  obtain ⟨k, k2, kn, f1, f2⟩ := h
  obtain ⟨a1, a2, a3⟩ := hLoop_spec sz fit kind l (l.length - 3) 2 (P + 1, 0)
  have hm := a3 k k2 (by omega) f1 f2
  have hle : hMost sz kind l k ≤ P := Nat.max_le.2 ⟨hfit _ f1, hfit _ f2⟩
  rcases a2 with e | ⟨j, b1, b2, b3, b4, b5⟩
  · rw [e] at hm; simp only at hm; omega
  · have e : halfA sz fit kind l P = j := b3
    unfold halfZ
    rw [e]
    exact ⟨b1, by omega, b4, b5, if_neg (by omega)⟩
end
/-! ### a cut by sizes -/
theorem cross (T : Nat → Nat) (P : Nat) : ∀ (n m : Nat), T m ≤ P → P < T (m + n) → ∃ k, m ≤ k ∧ k < m + n ∧ T k ≤ P ∧ P < T (k + 1)
  | 0, m, h, h2 => by rw [Nat.add_zero] at h2; omega
  | n + 1, m, h, h2 => by
    by_cases hc : T (m + 1) ≤ P
    · obtain ⟨k, b1, b2, b3⟩ := cross T P n (m + 1) hc (by rw [show m + 1 + n = m + (n + 1) by omega]; exact h2)
      exact ⟨k, by omega, by omega, b3⟩
    · exact ⟨m, by omega, by omega, h, by omega⟩
theorem cut_exists {n P H wi : Nat} (T w : Nat → Nat) (hT : ∀ k, k < n → T (k + 1) = T k + w k) (hn : 3 ≤ n) (h3 : T 3 ≤ P) (ht : P < T n) (ho : T n ≤ P + wi) (hw : ∀ k, 3 ≤ k → k < n → H + wi + w k ≤ P) :
    ∃ k, 2 ≤ k ∧ k + 2 ≤ n ∧ T k ≤ P ∧ (k + 2 = n ∨ H + (T n - T k) ≤ P) := by
  obtain ⟨k, b1, b2, b3, b4⟩ := cross T P (n - 3) 3 h3 (by rw [show 3 + (n - 3) = n by omega]; exact ht)
  have hk := hT k (by omega)
  have hwk := hw k b1 (by omega)
  by_cases hc : k + 2 ≤ n
  · exact ⟨k, by omega, hc, b3, .inr (by omega)⟩
  · have h2 := hT (k - 1) (by omega)
    rw [show k - 1 + 1 = k by omega] at h2
    exact ⟨k - 1, by omega, by omega, by omega, .inl (by omega)⟩
/-! ### lists that may be -/
structure MayL (kind : Int) (P : Nat) (l : List PC) : Prop where
  rise : Rising l
  may : ∀ c ∈ l, mayP kind P c = true
theorem MayL.scan {kind : Int} {P : Nat} {l : List PC} (h : MayL kind P l) : scanE kind P none l = 0 := scan_rise h.may (by simp) h.rise
theorem MayL.take {kind : Int} {P : Nat} {l : List PC} (h : MayL kind P l) (k : Nat) : MayL kind P (l.take k) := ⟨h.rise.sublist (List.take_sublist _ _), fun c hc => h.may c (List.mem_of_mem_take hc)⟩
theorem MayL.drop {kind : Int} {P : Nat} {l : List PC} (h : MayL kind P l) (k : Nat) : MayL kind P (l.drop k) := ⟨h.rise.sublist (List.drop_sublist _ _), fun c hc => h.may c (List.mem_of_mem_drop hc)⟩
theorem may_noKey {P : Nat} {c : PC} (h : mayP 3 P c = true) : mayP 3 P (noKey c) = true := by
  unfold mayP at h ⊢
  split at h
  · cases h
  · rename_i hc
    have : ¬ (P / 8 < (noKey c).key.length ∨ ((3 : Int) = 2 ∧ (noKey c).key.length = 0) ∨ ((noKey c).kind ≠ 1 ∧ 0 < (noKey c).val.length)) := by
      rintro (e | e | e)
      · have e' : P / 8 < 0 := e; omega
      · exact absurd e.1 (by decide)
      · exact hc (.inr (.inr e))
    rw [if_neg this]
    rw [if_pos rfl] at h ⊢
    exact h
theorem ordC_nil_left {a b : List UInt8} (h : ordC a b < 0) : ordC [] b < 0 := by
  cases b with
  | nil => cases a <;> simp [ordC] at h
  | cons y b => simp [ordC]
theorem MayL.right {kind : Int} {P : Nat} {l : List PC} (h : MayL kind P l) (k : Nat) : MayL kind P (rightF kind l k) := by
  have hd := h.drop k
  unfold rightF
  split
  · rename_i hk
    subst hk
    cases hl : l.drop k with
    | nil => exact ⟨List.Pairwise.nil, by simp⟩
    | cons c r =>
      rw [hl] at hd
      have hp := List.pairwise_cons.1 hd.rise
      exact ⟨List.pairwise_cons.2 ⟨fun b hb => ordC_nil_left (hp.1 b hb), hp.2⟩, fun d hd2 => by rcases List.mem_cons.1 hd2 with rfl | hd2; exact may_noKey (hd.may c (by simp)); exact hd.may d (by simp [hd2])⟩
  · exact hd
/-- Cells and one more that is too much. -/
theorem put_61 {kind : Int} {P : Nat} {l : List PC} {i : Nat} {c : PC} {z : Nat} (h : MayL kind P l) (hi : i ≤ l.length) (hz : (if mayP kind P c = false then (62 : Int) else if 0 ≤ leftO l i c ∨ 0 ≤ rightO l (i + 0) c then 63 else if P < z then 61 else 0) = 61) : MayL kind P (withF l i 0 c) ∧ P < z := by
  split at hz
  · cases hz
  · rename_i hm
    split at hz
    · cases hz
    · rename_i ho
      split at hz
      · rename_i hp
        refine ⟨⟨(with_rises h.rise hi).2 ⟨fun h1 => ?_, fun h1 => ?_⟩, fun d hd => ?_⟩, hp⟩
        · have : ¬ _ := fun e => ho (.inl e)
          unfold leftO at this
          rw [dif_pos ⟨h1, by omega⟩] at this
          omega
        · have : ¬ _ := fun e => ho (.inr e)
          unfold rightO at this
          rw [dif_pos h1] at this
          omega
        · rcases mem_with hd with rfl | hd
          · simpa using hm
          · exact h.may d hd
      · cases hz
theorem pow_512 {P : Nat} (h : isPowB (P : Int) = true) : 512 ≤ P ∧ P ≤ 65536 ∧ P % 16 = 0 := by
  have h : isPow (P : Int) := of_decide_eq_true h
  unfold isPow at h
  omega
theorem withF_take {l : List PC} {i k : Nat} {c : PC} (hi : i ≤ l.length) (hk : k ≤ i) : (withF l i 0 c).take k = l.take k := by
  unfold withF
  rw [List.take_append_of_le_length (by rw [List.length_take]; omega), List.take_take, Nat.min_eq_left hk]
theorem withF_length (l : List PC) {i : Nat} (c : PC) (hi : i ≤ l.length) : (withF l i 0 c).length = l.length + 1 := by
  unfold withF
  simp only [List.length_append, List.length_cons, List.length_take, List.length_drop]; omega
theorem withF_drop {l : List PC} {i k : Nat} {c : PC} (hi : i ≤ l.length) (hk : i < k) : (withF l i 0 c).drop k = l.drop (k - 1) := by
  obtain ⟨d, rfl⟩ : ∃ d, k = i + 1 + d := ⟨k - (i + 1), by omega⟩
  have h2 : (l.take i).length = i := by rw [List.length_take]; omega
  unfold withF
  rw [List.drop_append, List.drop_eq_nil_of_le (by omega), List.nil_append, h2, show i + 1 + d - i = d + 1 by omega, List.drop_succ_cons, List.drop_drop]
  congr 1
  omega
theorem withF_get {l : List PC} {i : Nat} {c : PC} (hi : i ≤ l.length) (h : i < (withF l i 0 c).length) : (withF l i 0 c)[i] = c := by
  have h2 : (l.take i).length = i := by rw [List.length_take]; omega
  have e : (withF l i 0 c)[i]? = some c := by
    unfold withF
    rw [List.getElem?_append_right (by omega), h2, Nat.sub_self]; rfl
  exact Option.some.inj ((List.getElem?_eq_getElem h).symm.trans e)
/-! ### whole keys -/
theorem fit1_iff {kind : Int} {P : Nat} (hk : isKindB kind = true) (hp : isPowB (P : Int) = true) {l : List PC} : fitN1 kind P l = true ↔ scanE kind P none l = 0 ∧ sizeF l ≤ P := by
  unfold fitN1 encZ
  rw [hk, hp]
  simp only [Bool.and_self, if_true, Int.toNat_natCast, beq_iff_eq]
  exact encE_zero
theorem fit2_iff {kind : Int} {P : Nat} (hk : isKindB kind = true) (hp : isPowB (P : Int) = true) {l : List PC} : fitN2 kind P l = true ↔ scanE kind P none l = 0 ∧ psizeF kind l ≤ P := by
  unfold fitN2 encKZ
  rw [hk, hp]
  simp only [Bool.and_self, if_true, Int.toNat_natCast, beq_iff_eq]
  exact encK_zero
theorem long_le {P : Nat} {c : PC} (h : OkC P c) : longF c ≤ 5 + P / 8 + P / 16 * 3 ∨ longF c ≤ 11 + P / 8 := by
  have h0 := h.k0
  unfold longF
  split
  · rename_i h1
    have := (h.v0 h1).1
    exact .inl (by omega)
  · exact .inr (by omega)
theorem sizeF_right (kind : Int) (l : List PC) (k : Nat) : sizeF (rightF kind l k) ≤ sizeF (l.drop k) := by
  unfold rightF
  split
  · cases l.drop k with
    | nil => exact Nat.le_refl _
    | cons c r =>
      show sizeF r + (2 + longF (noKey c)) ≤ sizeF r + (2 + longF c)
      have : longF (noKey c) ≤ longF c := by
        have e : (noKey c).key.length = 0 := rfl
        have e2 : (noKey c).kind = c.kind := rfl
        have e3 : (noKey c).val = c.val := rfl
        unfold longF
        rw [e, e2, e3]
        split <;> omega
      omega
  · exact Nat.le_refl _
theorem sizeF_cut (l : List PC) (k : Nat) : sizeF l + 8 = sizeF (l.take k) + sizeF (l.drop k) := by
  have e := sizeF_append (l.take k) (l.drop k)
  rw [List.take_append_drop] at e
  have := sizeF_eq (l.drop k)
  omega
theorem sizeF_succ (l : List PC) {k : Nat} (hk : k < l.length) : sizeF (l.take (k + 1)) = sizeF (l.take k) + (2 + longF l[k]) := by
  rw [List.take_succ_eq_append_getElem hk, sizeF_append]
  simp only [sizeF]
  omega
theorem halves_1 {kind : Int} {P : Nat} {s : KP} {i : Int} {c : PC} (hk : isKindB kind = true) (hp : isPowB (P : Int) = true) (hI : NdI1 kind P s) (hz : insZ1 kind P s i 0 c = 61) :
    0 ≤ i ∧ i ≤ s.l.length ∧ fitN1 kind P (withF s.l i.toNat 0 c) = false ∧ ∃ k, 2 ≤ k ∧ k + 2 ≤ (withF s.l i.toNat 0 c).length ∧ fitN1 kind P ((withF s.l i.toNat 0 c).take k) = true ∧ fitN1 kind P (rightF kind (withF s.l i.toNat 0 c) k) = true := by
  unfold insZ1 insZ at hz
  split at hz
  · cases hz
  rename_i hin
  obtain ⟨p1, p2, p3⟩ := pow_512 hp
  have hi : i.toNat ≤ s.l.length := by omega
  generalize i.toNat = j at *
  obtain ⟨hm, hP⟩ := put_61 (z := sizeF (withF s.l j 0 c)) ⟨hI.rise, hI.may⟩ hi hz
  have hsz := with_ins_size s.l c hi
  have hln := withF_length s.l c hi
  have hg := fun h => withF_get (c := c) hi h
  have hs := hI.size
  generalize withF s.l j 0 c = m at *
  refine ⟨by omega, by omega, ?_, ?_⟩
  · cases e : fitN1 kind P m with
    | false => rfl
    | true => have := ((fit1_iff hk hp).1 e).2; omega
  have hok : ∀ d ∈ m, longF d ≤ 5 + P / 8 + P / 16 * 3 ∨ longF d ≤ 11 + P / 8 := fun d hd => long_le (may_ok (hm.may d hd))
  have hcm : c ∈ m := by have := hg (by omega); rw [← this]; exact List.getElem_mem _
  have hc := hok c hcm
  have hb : ∀ (x : List PC), (∀ d ∈ x, d ∈ m) → x.length ≤ 3 → sizeF x ≤ P := by
    intro x hx h3
    match x, h3 with
    | [], _ => simp [sizeF]; omega
    | [a], _ => have := hok a (hx a (by simp)); simp only [sizeF]; omega
    | [a, b], _ => have := hok a (hx a (by simp)); have := hok b (hx b (by simp)); simp only [sizeF]; omega
    | [a, b, d], _ => have := hok a (hx a (by simp)); have := hok b (hx b (by simp)); have := hok d (hx d (by simp)); simp only [sizeF]; omega
  have hn : 3 ≤ m.length := by
    rcases Nat.lt_or_ge m.length 3 with h | h
    · have := hb m (fun d hd => hd) (by omega); omega
    · exact h
  obtain ⟨k, k2, kn, t1, t2⟩ := cut_exists (n := m.length) (P := P) (H := 8) (wi := 2 + longF c) (fun k => sizeF (m.take k)) (fun k => if h : k < m.length then 2 + longF m[k] else 0)
    (fun k h => by simp only [dif_pos h]; exact sizeF_succ m h) hn (hb _ (fun d hd => List.mem_of_mem_take hd) (by rw [List.length_take]; omega)) (by simp only [List.take_length]; exact hP) (by simp only [List.take_length]; omega)
    (fun k h3 h => by
      rw [dif_pos h]
      have := hok m[k] (List.getElem_mem h)
      omega)
  refine ⟨k, k2, kn, (fit1_iff hk hp).2 ⟨(hm.take k).scan, t1⟩, (fit1_iff hk hp).2 ⟨(hm.right k).scan, ?_⟩⟩
  have hr := sizeF_right kind m k
  rcases t2 with e | e
  · have := hb (m.drop k) (fun d hd => List.mem_of_mem_drop hd) (by rw [List.length_drop]; omega)
    omega
  · simp only [List.take_length] at e
    have := sizeF_cut m k
    omega
/-! ### parts of keys -/
theorem pre_mid : ∀ (p a b c : List UInt8), ordC (p ++ a) c < 0 → ordC c (p ++ b) < 0 → ∃ d, c = p ++ d
  | [], _, _, c, _, _ => ⟨c, rfl⟩
  | x :: p, a, b, [], h, _ => by simp [ordC] at h
  | x :: p, a, b, y :: c, h1, h2 => by
    rw [List.cons_append] at h1 h2
    by_cases hxy : x < y
    · rw [ordC_gt hxy] at h2; omega
    · by_cases hyx : y < x
      · rw [ordC_gt hyx] at h1; omega
      · have e : x = y := by
          rw [UInt8.lt_iff_toNat_lt] at hxy hyx
          exact UInt8.toNat_inj.mp (by omega)
        subst e
        rw [ordC_same] at h1 h2
        obtain ⟨d, rfl⟩ := pre_mid p a b c h1 h2
        exact ⟨d, rfl⟩
theorem hasPre_mid {p a b c : List UInt8} (ha : hasPre a p = true) (hb : hasPre b p = true) (h1 : ordC a c < 0) (h2 : ordC c b < 0) : hasPre c p = true := by
  have ha := hasPre_iff.1 ha
  have hb := hasPre_iff.1 hb
  have ea : a = p ++ a.drop p.length := by have := List.take_append_drop p.length a; rw [ha.2] at this; exact this.symm
  have eb : b = p ++ b.drop p.length := by have := List.take_append_drop p.length b; rw [hb.2] at this; exact this.symm
  rw [ea] at h1
  rw [eb] at h2
  obtain ⟨d, rfl⟩ := pre_mid _ _ _ _ h1 h2
  exact hasPre_iff.2 ⟨by simp, by simp⟩
theorem rightF_get {kind : Int} {l : List PC} {k q : Nat} (hq : q < (rightF kind l k).length) (hn : ¬ (kind = 3 ∧ q = 0)) : ∃ h : k + q < l.length, (rightF kind l k)[q] = l[k + q] := by
  have hl := rightF_length kind l k
  have hlt : k + q < l.length := by omega
  refine ⟨hlt, ?_⟩
  have e : (rightF kind l k)[q]? = l[k + q]? := by
    rw [← List.getElem?_drop]
    unfold rightF
    split
    · rename_i hk
      cases l.drop k with
      | nil => rfl
      | cons x r =>
        cases q with
        | zero => exact absurd ⟨hk, rfl⟩ hn
        | succ q => rfl
    · rfl
  rw [List.getElem?_eq_getElem hq, List.getElem?_eq_getElem hlt] at e
  exact Option.some.inj e
theorem PreOk.right {kind : Int} {l : List PC} {pre : List UInt8} (h : PreOk kind l pre) (k : Nat) : PreOk kind (rightF kind l k) pre := fun q hq hn => by
  obtain ⟨h1, e⟩ := rightF_get hq hn
  rw [e]
  exact h _ h1 (by omega)
theorem PreOk.take {kind : Int} {l : List PC} {pre : List UInt8} (h : PreOk kind l pre) (k : Nat) : PreOk kind (l.take k) pre := fun q hq hn => by
  rw [List.getElem_take]
  exact h q _ hn
theorem pbody_right (kind : Int) (l : List PC) (k n : Nat) : (pbodyF kind n 0 (rightF kind l k)).length ≤ (pbodyF kind n k (l.drop k)).length := by
  unfold rightF
  split
  · rename_i hk
    cases hl : l.drop k with
    | nil => exact Nat.le_refl _
    | cons x r =>
      simp only [pbodyF, List.length_append]
      rw [pbody_shift (i := 0 + 1) (j := k + 1) (fun _ => ⟨by omega, by omega⟩) r]
      have h1 : (pcF kind 0 (noKey x) n).length ≤ (pcF kind k x n).length := by
        have e1 : (restF kind 0 (noKey x).key n) = [] := by unfold restF; rw [if_pos ⟨hk, rfl⟩]; rfl
        have e2 : kvF (noKey x) = kvF x := rfl
        have := uintF_mono (Nat.zero_le (restF kind k x.key n).length)
        unfold pcF
        rw [e1, e2]
        simp only [List.length_cons, List.length_append, List.length_nil]
        omega
      omega
  · rename_i hk
    rw [pbody_shift (i := 0) (j := k) (fun h => absurd h hk)]
    exact Nat.le_refl _
theorem taken_cut (kind : Int) (l : List PC) (k n : Nat) : takenF kind l n + (10 + n) = takenF kind (l.take k) n + (10 + n + 2 * (l.length - k) + (pbodyF kind n k (l.drop k)).length) := by
  by_cases hk : k ≤ l.length
  · have e : pbodyF kind n 0 l = pbodyF kind n 0 (l.take k) ++ pbodyF kind n k (l.drop k) := by
      have h1 := congrArg (pbodyF kind n 0) (List.take_append_drop k l).symm
      have h2 : (l.take k).length = k := by rw [List.length_take]; omega
      rw [h1, pbodyF_append, h2, Nat.zero_add]
    unfold takenF
    rw [e, List.length_append, List.length_take]
    omega
  · rw [List.take_of_length_le (by omega), List.drop_eq_nil_of_le (by omega), show l.length - k = 0 by omega]
    simp [pbodyF]
theorem taken_right (kind : Int) (l : List PC) (k n : Nat) : takenF kind (rightF kind l k) n + takenF kind (l.take k) n ≤ takenF kind l n + (10 + n) := by
  have h1 := pbody_right kind l k n
  have h2 := taken_cut kind l k n
  have h3 := rightF_length kind l k
  have e : takenF kind (rightF kind l k) n = 10 + n + 2 * (rightF kind l k).length + (pbodyF kind n 0 (rightF kind l k)).length := rfl
  rw [e, h3]
  omega
theorem taken_ge (kind : Int) (l : List PC) (n : Nat) : 10 + n ≤ takenF kind l n := by unfold takenF; omega
theorem taken_succ (kind : Int) (l : List PC) (n : Nat) {k : Nat} (hk : k < l.length) : takenF kind (l.take (k + 1)) n = takenF kind (l.take k) n + (2 + (pcF kind k l[k] n).length) := by
  rw [List.take_succ_eq_append_getElem hk]
  have h2 : (l.take k).length = k := by rw [List.length_take]; omega
  unfold takenF
  rw [pbodyF_append, h2, Nat.zero_add]
  simp only [pbodyF, List.length_append, List.length_cons, List.length_nil, h2]
  omega
theorem psize_right (kind : Int) (l : List PC) (k : Nat) : psizeF kind (rightF kind l k) ≤ psizeF kind l := by
  have h1 := psize_le ((hasPre_prefF (kind := kind) (l := l)).right k)
  rw [prefF_length] at h1
  have h2 := taken_right kind l k (sharedF kind l)
  have h3 := taken_ge kind (l.take k) (sharedF kind l)
  have e : psizeF kind l = takenF kind l (sharedF kind l) := rfl
  omega
theorem psize_take (kind : Int) (l : List PC) (k : Nat) : psizeF kind (l.take k) ≤ psizeF kind l := by
  have h1 := psize_le ((hasPre_prefF (kind := kind) (l := l)).take k)
  rw [prefF_length] at h1
  have h2 := taken_cut kind l k (sharedF kind l)
  have e : psizeF kind l = takenF kind l (sharedF kind l) := rfl
  omega
theorem halves_2 {kind : Int} {P : Nat} {s : KP} {i : Int} {c : PC} (hk : isKindB kind = true) (hp : isPowB (P : Int) = true) (hI : NdI2 kind P s) (hz : insZ2 kind P s i 0 c = 61) :
    0 ≤ i ∧ i ≤ s.l.length ∧ fitN2 kind P (withF s.l i.toNat 0 c) = false ∧ ∃ k, 2 ≤ k ∧ k + 2 ≤ (withF s.l i.toNat 0 c).length ∧ fitN2 kind P ((withF s.l i.toNat 0 c).take k) = true ∧ fitN2 kind P (rightF kind (withF s.l i.toNat 0 c) k) = true := by
  unfold insZ2 insKZ at hz
  split at hz
  · cases hz
  rename_i hin
  obtain ⟨p1, p2, p3⟩ := pow_512 hp
  have hi : i.toNat ≤ s.l.length := by omega
  generalize i.toNat = j at *
  obtain ⟨hm, hP⟩ := put_61 (z := psizeF kind (withF s.l j 0 c)) ⟨hI.rise, hI.may⟩ hi hz
  have hl0 : MayL kind P s.l := ⟨hI.rise, hI.may⟩
  have hs := hI.size
  have hri := hI.rise
  refine ⟨by omega, by omega, ?_, ?_⟩
  · cases e : fitN2 kind P (withF s.l j 0 c) with
    | false => rfl
    | true => have := ((fit2_iff hk hp).1 e).2; omega
  clear hz hin hI
  generalize s.l = l at *
  have hln := withF_length l c hi
  have hb : ∀ (x : List PC), MayL kind P x → x.length ≤ 3 → fitN2 kind P x = true := fun x hx h3 => (fit2_iff hk hp).2 ⟨hx.scan, three_fit p2 p1 p3 hx.may h3⟩
  have hn : 4 ≤ (withF l j 0 c).length := by
    rcases Nat.lt_or_ge (withF l j 0 c).length 4 with h | h
    · have := three_fit p2 p1 p3 hm.may (show (withF l j 0 c).length ≤ 3 by omega); omega
    · exact h
  by_cases hj1 : j ≤ 1
  · refine ⟨2, by omega, by omega, hb _ (hm.take 2) (by rw [List.length_take]; omega), (fit2_iff hk hp).2 ⟨(hm.right 2).scan, ?_⟩⟩
    have e : rightF kind (withF l j 0 c) 2 = rightF kind l 1 := by unfold rightF; rw [withF_drop hi (by omega)]
    have := psize_right kind l 1
    rw [e]; omega
  by_cases hj2 : l.length ≤ j + 1
  · refine ⟨(withF l j 0 c).length - 2, by omega, by omega, (fit2_iff hk hp).2 ⟨(hm.take _).scan, ?_⟩, hb _ (hm.right _) (by rw [rightF_length]; omega)⟩
    rw [withF_take hi (by omega)]
    have := psize_take kind l ((withF l j 0 c).length - 2)
    omega
  obtain ⟨o1, o2⟩ := (with_rises hri hi).1 hm.rise
  have hpl := hasPre_prefF (kind := kind) (l := l)
  have hpm : PreOk kind (withF l j 0 c) (prefF kind l) := fun q hq hn => by
    rcases with_at hi (by omega) hq with ⟨e, e2⟩ | ⟨q', hq', e, e2⟩
    · rw [e2]
      exact hasPre_mid (hpl (j - 1) (by omega) (by omega)) (hpl (j + 0) (by omega) (by omega)) (o1 (by omega)) (o2 (by omega))
    · rw [e]
      exact hpl q' hq' (fun h => by rcases e2 h.2 with h2 | h2; exact hn ⟨h.1, h2⟩; omega)
  have hpz := psize_le hpm
  have hg := withF_get (c := c) hi (by omega)
  have hrem := taken_rem (kind := kind) (l := withF l j 0 c) (i := j) (n := (prefF kind l).length) (by omega) (by omega)
  have hrl : (withF l j 0 c).take j ++ (withF l j 0 c).drop (j + 1) = l := by rw [withF_take hi (Nat.le_refl _), withF_drop hi (by omega), Nat.add_sub_cancel, List.take_append_drop]
  rw [hrl, prefF_length] at hrem
  have eP : psizeF kind l = takenF kind l (sharedF kind l) := rfl
  rw [prefF_length] at hpz
  have hbd : ∀ q (hq : q < (withF l j 0 c).length), ((kind = 3 → (pcF kind q (withF l j 0 c)[q] (sharedF kind l)).length ≤ 11 + P / 8) ∧ (¬ (kind = 3 ∧ q = 0) → (pcF kind q (withF l j 0 c)[q] (sharedF kind l)).length + sharedF kind l ≤ 5 + P / 8 + P / 16 * 3 ∧ sharedF kind l ≤ P / 8)) := fun q hq => by
    have hmy := hm.may _ (List.getElem_mem hq)
    have hok := may_ok hmy
    refine ⟨fun h3 => pcF_le3 hok (by subst h3; exact may_branch hmy) p2 kind, fun hn => ?_⟩
    have h1 := pcF_le (kind := kind) (i := q) (pre := sharedF kind l) hok p2 p1
    have h2 := (hasPre_iff.1 (hpm q hq hn)).1
    rw [prefF_length] at h2
    have h3 := hok.k0
    have e : (restF kind q (withF l j 0 c)[q].key (sharedF kind l)).length = (withF l j 0 c)[q].key.length - sharedF kind l := by unfold restF; rw [if_neg hn, List.length_drop]
    omega
  have hjb := hbd j (by omega)
  have hjb2 := hjb.2 (by omega)
  obtain ⟨k, k2, kn, t1, t2⟩ := cut_exists (n := (withF l j 0 c).length) (P := P) (H := 10 + (sharedF kind l)) (wi := 2 + (pcF kind j ((withF l j 0 c)[j]'(by omega)) (sharedF kind l)).length) (fun k => takenF kind ((withF l j 0 c).take k) (sharedF kind l)) (fun k => if h : k < (withF l j 0 c).length then 2 + (pcF kind k (withF l j 0 c)[k] (sharedF kind l)).length else 0)
    (fun k h => by simp only [dif_pos h]; exact taken_succ kind (withF l j 0 c) (sharedF kind l) h) (by omega)
    (by
      have a0 : takenF kind ((withF l j 0 c).take 1) (sharedF kind l) = takenF kind ((withF l j 0 c).take 0) (sharedF kind l) + (2 + (pcF kind 0 ((withF l j 0 c)[0]'(by omega)) (sharedF kind l)).length) := taken_succ kind (withF l j 0 c) (sharedF kind l) (k := 0) (by omega)
      have a1 : takenF kind ((withF l j 0 c).take 2) (sharedF kind l) = takenF kind ((withF l j 0 c).take 1) (sharedF kind l) + (2 + (pcF kind 1 ((withF l j 0 c)[1]'(by omega)) (sharedF kind l)).length) := taken_succ kind (withF l j 0 c) (sharedF kind l) (k := 1) (by omega)
      have a2 : takenF kind ((withF l j 0 c).take 3) (sharedF kind l) = takenF kind ((withF l j 0 c).take 2) (sharedF kind l) + (2 + (pcF kind 2 ((withF l j 0 c)[2]'(by omega)) (sharedF kind l)).length) := taken_succ kind (withF l j 0 c) (sharedF kind l) (k := 2) (by omega)
      have a3 : takenF kind ((withF l j 0 c).take 0) (sharedF kind l) = 10 + (sharedF kind l) := by simp [takenF, pbodyF]
      have b0 := hbd 0 (by omega)
      have b1 := hbd 1 (by omega)
      have b2 := hbd 2 (by omega)
      have b12 := b1.2 (by omega)
      have b22 := b2.2 (by omega)
      show takenF kind ((withF l j 0 c).take 3) (sharedF kind l) ≤ P
      by_cases h3 : kind = 3
      · have c0 := b0.1 h3
        have c1 := b1.1 h3
        have c2 := b2.1 h3
        omega
      · have c0 := b0.2 (fun e => h3 e.1)
        omega)
    (by simp only [List.take_length]; omega) (by simp only [List.take_length]; omega)
    (fun k h3 h => by
      rw [dif_pos h]
      have b1 := (hbd k h).2 (by omega)
      omega)
  have q1 := psize_le (hpm.take k)
  have q2 := psize_le (hpm.right k)
  rw [prefF_length] at q1 q2
  refine ⟨k, k2, kn, (fit2_iff hk hp).2 ⟨(hm.take k).scan, ?_⟩, ?_⟩
  · exact Nat.le_trans q1 t1
  · rcases t2 with e | e
    · exact hb _ (hm.right k) (by rw [rightF_length]; omega)
    · refine (fit2_iff hk hp).2 ⟨(hm.right k).scan, ?_⟩
      have h2 := taken_right kind (withF l j 0 c) k (sharedF kind l)
      have h3 := taken_cut kind (withF l j 0 c) k (sharedF kind l)
      simp only [List.take_length] at e
      omega
end Go.Proofs.YtfcnkpofcekmgaaGreat

-- The same call on a node of either engine: plain laws.
namespace Go.Proofs.YtfcnkpofcekmgaaGreat
open Go.RowKit
theorem changeS_l (kind : Int) (P : Nat) (pre : List UInt8) (l : List PC) (waste : Nat) (anew : Bool) : (changeS kind P pre l waste anew).l = l := by
  unfold changeS tidyP
  split <;> rfl
theorem putEK {kind : Int} {P : Nat} {l : List PC} {i gone : Nat} {c : PC} (h1 : putE kind P l i gone c ≠ 61) (h2 : putK kind P l i gone c ≠ 61) : putE kind P l i gone c = putK kind P l i gone c := by
  unfold putE putK at *
  split
  · rfl
  · rename_i hm
    rw [if_neg hm] at h1 h2
    split
    · rfl
    · rename_i ho
      rw [if_neg ho] at h1 h2
      split
      · rename_i hz; rw [if_pos hz] at h1; exact absurd rfl h1
      · split
        · rename_i hz; rw [if_pos hz] at h2; exact absurd rfl h2
        · rfl
theorem insEK {kind : Int} {P : Nat} {s1 s2 : KP} (hl : s1.l = s2.l) {i : Int} {gone : Nat} {c : PC} (h1 : insZ1 kind P s1 i gone c ≠ 61) (h2 : insZ2 kind P s2 i gone c ≠ 61) :
    insZ1 kind P s1 i gone c = insZ2 kind P s2 i gone c ∧ (insS1 kind P s1 i gone c).l = (insS2 kind P s2 i gone c).l := by
  have e : insZ1 kind P s1 i gone c = insZ2 kind P s2 i gone c := by
    unfold insZ1 insZ2 insZ insKZ at *
    rw [hl] at h1 ⊢
    split
    · rfl
    · rename_i hin
      rw [if_neg hin] at h1 h2
      exact putEK h1 h2
  refine ⟨e, ?_⟩
  show insL kind P s1.l i gone c = (insKS kind P s2 i gone c).l
  have e1 : insZ kind P s1.l i gone c = insKZ kind P s2.l i gone c := e
  unfold insL insKS
  rw [e1]
  split
  · show withF s1.l i.toNat gone c = (putS kind P s2 i.toNat gone c).l
    unfold putS
    rw [changeS_l, hl]
  · exact hl
theorem remEK {kind : Int} {P : Nat} {s1 s2 : KP} (hl : s1.l = s2.l) {i : Int} (h2 : remZ2 kind P s2 i ≠ 61) :
    remZ1 kind P s1 i = remZ2 kind P s2 i ∧ (remS1 kind P s1 i).l = (remS2 kind P s2 i).l := by
  show remZ s1.l i = remKZ kind P s2.l i ∧ remL s1.l i = (remKS kind P s2 i).l
  have h2' : remKZ kind P s2.l i ≠ 61 := h2
  rw [hl]
  unfold remKS
  by_cases hin : i < 0 ∨ (s2.l.length : Int) ≤ i
  · have e1 : remKZ kind P s2.l i = 64 := if_pos hin
    rw [e1, if_neg (by decide)]
    exact ⟨if_pos hin, if_pos hin⟩
  · have e0 : remKZ kind P s2.l i = 0 := by
      unfold remKZ at h2' ⊢
      rw [if_neg hin] at h2' ⊢
      split
      · rename_i hz; rw [if_pos hz] at h2'; exact absurd rfl h2'
      · rfl
    rw [e0, if_pos rfl]
    refine ⟨if_neg hin, ?_⟩
    unfold remL takeS tidyP
    rw [if_neg hin]
    split <;> rfl
theorem twins_same {kind : Int} {P : Nat} {s1 s2 : KP} (hl : s1.l = s2.l) {k i : Int} {c : PC} {key : List UInt8} (h1 : (twF1 kind P s1 k i c key).1 ≠ 61) (h2 : (twF2 kind P s2 k i c key).1 ≠ 61) :
    (twF1 kind P s1 k i c key).1 = (twF2 kind P s2 k i c key).1 ∧ (twF1 kind P s1 k i c key).2.1 = (twF2 kind P s2 k i c key).2.1 ∧ (twF1 kind P s1 k i c key).2.2.1 = (twF2 kind P s2 k i c key).2.2.1 ∧ (twF1 kind P s1 k i c key).2.2.2.1 = (twF2 kind P s2 k i c key).2.2.2.1 ∧ (twF1 kind P s1 k i c key).2.2.2.2.l = (twF2 kind P s2 k i c key).2.2.2.2.l := by
  unfold twF1 twF2 at *
  by_cases k0 : k = 0
  · rw [if_pos k0] at h1 h2 ⊢
    rw [if_pos k0]
    obtain ⟨a, b⟩ := insEK hl h1 h2
    exact ⟨a, rfl, rfl, rfl, b⟩
  rw [if_neg k0] at h1 h2 ⊢
  rw [if_neg k0]
  by_cases k1 : k = 1
  · rw [if_pos k1] at h1 h2 ⊢
    rw [if_pos k1]
    obtain ⟨a, b⟩ := insEK hl h1 h2
    exact ⟨a, rfl, rfl, rfl, b⟩
  rw [if_neg k1] at h1 h2 ⊢
  rw [if_neg k1]
  by_cases k2 : k = 2
  · rw [if_pos k2] at h1 h2 ⊢
    rw [if_pos k2]
    obtain ⟨a, b⟩ := remEK (kind := kind) (P := P) hl h2
    exact ⟨a, rfl, rfl, rfl, b⟩
  rw [if_neg k2, if_neg k2]
  by_cases k3 : k = 3
  · rw [if_pos k3, if_pos k3, hl]
    exact ⟨rfl, rfl, rfl, rfl, rfl⟩
  · rw [if_neg k3, if_neg k3, hl]
    exact ⟨rfl, rfl, rfl, rfl, rfl⟩
theorem twF1_inv {kind : Int} {P : Nat} {s : KP} (h : NdI1 kind P s) (k i : Int) (c : PC) (key : List UInt8) : NdI1 kind P (twF1 kind P s k i c key).2.2.2.2 := by
  unfold twF1
  by_cases k0 : k = 0
  · rw [if_pos k0]; exact h.ins i (by omega) c
  rw [if_neg k0]
  by_cases k1 : k = 1
  · rw [if_pos k1]; exact h.ins i (by omega) c
  rw [if_neg k1]
  by_cases k2 : k = 2
  · rw [if_pos k2]; exact h.rem i
  rw [if_neg k2]
  split <;> exact h
theorem twF2_inv {kind : Int} {P : Nat} {s : KP} (h : NdI2 kind P s) (k i : Int) (c : PC) (key : List UInt8) : NdI2 kind P (twF2 kind P s k i c key).2.2.2.2 := by
  unfold twF2
  by_cases k0 : k = 0
  · rw [if_pos k0]; exact NdI2.ins h i (by omega) c
  rw [if_neg k0]
  by_cases k1 : k = 1
  · rw [if_pos k1]; exact NdI2.ins h i (by omega) c
  rw [if_neg k1]
  by_cases k2 : k = 2
  · rw [if_pos k2]; exact NdI2.rem h i
  rw [if_neg k2]
  split <;> exact h
theorem usd1_le {kind : Int} {P : Nat} {s : KP} (h : NdI1 kind P s) : usd1 kind s ≤ P := h.size
theorem usd2_le {kind : Int} {P : Nat} {s : KP} (h : NdI2 kind P s) : usd2 kind s ≤ P := by have := h.room; unfold usd2; omega
theorem bigK_may {kind : Int} {P : Nat} (hP : P ≤ 65536) : ∀ {l : List PC}, (∀ c ∈ l, mayP kind P c = true) → bigK l ≤ 30000 * l.length
  | [], _ => by simp [bigK]
  | c :: r, h => by
    have ih := bigK_may hP (l := r) (fun d hd => h d (by simp [hd]))
    have hc := may_ok (h c (by simp))
    have h0 := hc.k0
    have h1 : c.val.length ≤ P / 16 * 3 := by
      by_cases e : c.kind = 1
      · exact (hc.v0 e).1
      · rw [(hc.v1 e).1]; exact Nat.zero_le _
    simp only [bigK, List.length_cons]
    omega
theorem halves_big {kind : Int} {P : Nat} {l : List PC} {i : Nat} {c : PC} (hP : P ≤ 65536) (hi : i ≤ l.length) (hn : l.length ≤ 1000000) (hl : ∀ d ∈ l, mayP kind P d = true) (hc : mayP kind P c = true) : bigK (withF l i 0 c) ≤ 1000000000000000000 := by
  have h := bigK_may hP (l := withF l i 0 c) (fun d hd => by rcases mem_with hd with rfl | hd; exact hc; exact hl d hd)
  rw [withF_length l c hi] at h
  omega
theorem may_61 {kind : Int} {P : Nat} {l : List PC} {i gone : Nat} {c : PC} {z : Nat} (h : (if mayP kind P c = false then (62 : Int) else if 0 ≤ leftO l i c ∨ 0 ≤ rightO l (i + gone) c then 63 else if P < z then 61 else 0) = 61) : mayP kind P c = true := by
  split at h
  · cases h
  · rename_i hm; simpa using hm
end Go.Proofs.YtfcnkpofcekmgaaGreat

-- espalierref08.Right: the walk.
namespace Go.Proofs.YtfcnkpofcekmgaaGreat
open Go.RowKit
theorem rightC_at (kind : Int) (l : List CV) {k i : Nat} (hk : k ≤ i) (hi : i < l.length) (h : i - k < (rightC kind l k).length) : (rightC kind l k)[i - k] = if kind = 3 ∧ i = k then ⟨.slice none 0 0, l[i].vv, noKey l[i].c⟩ else l[i] := by
  obtain ⟨d, rfl⟩ : ∃ d, i = k + d := ⟨i - k, by omega⟩
  have e : (rightC kind l k)[k + d - k]? = some (if kind = 3 ∧ k + d = k then ⟨.slice none 0 0, l[k + d].vv, noKey l[k + d].c⟩ else l[k + d]) := by
    rw [Nat.add_sub_cancel_left]
    have hd : (l.drop k)[d]? = some l[k + d] := by rw [List.getElem?_drop, List.getElem?_eq_getElem hi]
    unfold rightC
    by_cases h3 : kind = 3
    · rw [if_pos h3]
      cases hl : l.drop k with
      | nil => rw [hl] at hd; cases hd
      | cons x r =>
        rw [hl] at hd
        cases d with
        | zero =>
          rw [if_pos ⟨h3, rfl⟩]
          have hx : x = l[k + 0] := Option.some.inj hd
          rw [← hx]; rfl
        | succ d =>
          rw [if_neg (by omega)]
          exact hd
    · rw [if_neg h3, if_neg (fun e => h3 e.1)]
      exact hd
  exact Option.some.inj ((List.getElem?_eq_getElem h).symm.trans e)
theorem rightC_ok {w : World} {u : Value} {l : List CV} (hl : RdCs w u l) (kind : Int) (k : Nat) : ∀ x ∈ rightC kind l k, x.ok w := by
  intro x hx
  unfold rightC at hx
  split at hx
  · have hd : ∀ y ∈ l.drop k, y.ok w := fun y hy => hl.ok y (List.mem_of_mem_drop hy)
    split at hx
    · cases hx
    · rename_i y r hyr
      rcases List.mem_cons.1 hx with rfl | hx
      · have hy := hd y (by rw [hyr]; simp)
        exact ⟨RdB.nil, hy.v, hy.r1, hy.r2, hy.r3⟩
      · exact hd x (by rw [hyr]; simp [hx])
  · exact hl.ok x (List.mem_of_mem_drop hx)
set_option maxRecDepth 100000 in
set_option maxHeartbeats 16000000 in
theorem Right_2 (v : Value) (l : List CV) (k : Nat) (hkl : k ≤ l.length) (w : World) (hl : RdCs w v l) (hn : l.length * 72 ≤ 140737488355328) :
    Calls Tryz.prog 59 #[.int .i64 2, v, .int .i64 (k : Int)] w fun e w' => ∃ A c, e = .returned (.slice A (rightC 2 l k).length c) ∧ Sep w w' [ownE 43 5 (.slice A (rightC 2 l k).length c) (rightC 2 l k).length (flatC (rightC 2 l k)), oldE w] := by
  obtain ⟨n, hnn⟩ : ∃ n, l.length = n := ⟨_, rfl⟩
  have HNN := Lib.hid hnn
  have hl0 := hl
  have hrl := rightC_length 2 l k
  have hro := rightC_ok hl 2 k
  have hra := fun i (h1 : k ≤ i) (h2 : i < l.length) (h3 : i - k < (rightC 2 l k).length) => rightC_at 2 l h1 h2 h3
  have HRO := Lib.hid hro
  have HRA := Lib.hid hra
  obtain ⟨A, c, rfl, hm, hc⟩ := hl.slice
  rw [hnn] at hm hl0 hn hkl hrl ⊢
  have HL0 := Lib.hid hl0
  have HRL := Lib.hid hrl
  have hS : Sep w w (ownE 43 5 (.slice none 0 0) 0 [] :: [oldE w]) := (Sep.start w).nilC
  clear hl hc hnn hrl hro hra hl0
  generalize rightC 2 l k = R at *
  go_enter Tryz.func59, Tryz.ntmps59
  go_upto_region 3 with (fail)
  go_loopw [7, 8] (fun cv iv wr => ∃ (i : Nat) (m : List CV), k ≤ i ∧ i ≤ n ∧ iv = .int .i64 (i : Int) ∧ Hid (m = R.take (i - k)) ∧ Hid (m.length = i - k) ∧ Sep w wr (ownE 43 5 cv m.length (flatC m) :: [oldE w])) (fun _ iv _ => n - (intOf iv).toNat)
  case atStart => exact ⟨k, [], Nat.le_refl _, hkl, rfl, Lib.hid (by simp), Lib.hid (by simp), hS⟩
  case round =>
    clear hS
    obtain ⟨i, m, hki, hin, rfl, HM, HK, hS⟩ := hrel
    obtain ⟨B, cc, rfl⟩ := Own.slice (show Own wr 0 43 5 _ m.length (flatC m) from hS.head)
    rw [HK.out]
    by_cases hlt : i < n
    · have ik : (i : Int) < (n : Int) := by omega
      have i0 : (0 : Int) ≤ (i : Int) := by omega
      have hil : i < l.length := by rw [HNN.out]; exact hlt
      have hiR : i - k < R.length := by rw [HRL.out]; omega
      obtain ⟨ad, rfl, c0, c1, c2, c3, c4⟩ := (hS.rdC8 (v := w) (by simp) HL0.out).at_ hil
      have hxo := HL0.out.ok _ (List.getElem_mem hil)
      have hra := HRA.out i hki hil hiR
      have hro := HRO.out _ (List.getElem_mem hiR)
      have htk : R.take (i + 1 - k) = R.take (i - k) ++ [R[i - k]] := by rw [show i + 1 - k = i - k + 1 by omega]; exact List.take_succ_eq_append_getElem hiR
      generalize R[i - k] = y at *
      generalize l[i] = x at *
      obtain ⟨xA, xa, xB, xb, key, ck, val, pg, ct, rfl, _, _⟩ := CV.form hxo
      simp only at c0 c1 c2 c3 c4
      have HTK := Lib.hid htk
      have HRo := Lib.hid hro
      have HRa := Lib.hid hra
      have hS4 := hS.alloc 43 [.slice xA key.length xa, .int .i64 ck, .slice xB val.length xb, .int .i64 pg, .int .i64 ct]
      clear hS htk hxo hro hra
      rcases Nat.decEq i k with hik | hik
      case' isFalse =>
        have hy := HRa.out
        rw [if_neg (fun e => hik e.2)] at hy
        have HY := Lib.hid hy
        have ine : ((i : Int) == (k : Int)) = false := beq_eq_false_iff_ne.2 (by omega)
        clear hik hy
        go_upto_region 8 with (fail)
        generalize hW4 : wr.alloc (.cells #[.slice xA key.length xa, .int .i64 ck, .slice xB val.length xb, .int .i64 pg, .int .i64 ct] 43) = w4 at *
        generalize wr.heap.size = cb at *
        clear hW4 c0 c1 c2 c3 c4 ine
        have hS4 : Sep w w4 (blkE cb 43 [y.kv, .int .i64 y.c.kind, y.vv, .int .i64 y.c.page, .int .i64 y.c.count] :: ownE 43 5 (.slice B (i - k) cc) (i - k) (flatC m) :: [oldE w]) := by rw [HY.out]; rw [HK.out] at hS4; exact hS4
      case' isTrue =>
        have hy := HRa.out
        rw [if_neg (fun e => absurd e.1 (by decide))] at hy
        have HY := Lib.hid hy
        have ine : ((i : Int) == (k : Int)) = true := beq_iff_eq.2 (by omega)
        clear hik hy
        go_upto_region 8 with (fail)
        generalize hW4 : wr.alloc (.cells #[.slice xA key.length xa, .int .i64 ck, .slice xB val.length xb, .int .i64 pg, .int .i64 ct] 43) = w4 at *
        generalize wr.heap.size = cb at *
        clear hW4 c0 c1 c2 c3 c4 ine
        have hS4 : Sep w w4 (blkE cb 43 [y.kv, .int .i64 y.c.kind, y.vv, .int .i64 y.c.page, .int .i64 y.c.count] :: ownE 43 5 (.slice B (i - k) cc) (i - k) (flatC m) :: [oldE w]) := by rw [HY.out]; rw [HK.out] at hS4; exact hS4
      all_goals
        obtain ⟨yA, ya, yB, yb, ykey, yck, yval, ypg, yct, rfl, _, _⟩ := CV.form HRo.out
        simp only at hS4
        obtain ⟨y0, y1, y2, y3, y4⟩ := cells5 hS4.blk
        have hS5 := hS4.alloc 43 [.slice yA ykey.length ya, .int .i64 yck, .slice yB yval.length yb, .int .i64 ypg, .int .i64 yct]
        have hown2 := (show Own _ 0 43 5 (.slice B (i - k) cc) (i - k) (flatC m) from hS5.tail.tail.head)
        have hfive := Rd.five w4 (.slice yA ykey.length ya) (.int .i64 yck) (.slice yB yval.length yb) (.int .i64 ypg) (.int .i64 yct) 43
        have hone := flatC_one (l := [⟨.slice yA ykey.length ya, .slice yB yval.length yb, ⟨ykey, yck, yval, ypg, yct⟩⟩]) (fun x hx => by obtain rfl := List.mem_singleton.1 hx; exact HRo.out)
        have hl9 : (i - k + 1) * 72 ≤ 140737488355328 := by omega
        have HL9 := Lib.hid hl9
        clear hS4 hl9
        go_upto_region 4 with (first
          | (at_builtin; refine wp_append_C rfl (.tmp 29) (.tmp 31) rfl 0 (.slice B (i - k) cc) m rfl (by rw [HK.out]; exact hown2) (.slice (some ⟨w4.heap.size, 0, none⟩) 1 1) [⟨.slice yA ykey.length ya, .slice yB yval.length yb, ⟨ykey, yck, yval, ypg, yct⟩⟩] rfl hfive hone (by have := HL9.out; rw [HK.out]; simpa using this) (Nat.zero_le _) ?_; intro v5 w5 ho5 hg5 hk5)
          | fail)
        have hS6 := (Sep.pick (L := [_, _, _, _]) [2, 3] (by decide) rfl hS5).appC ho5 hg5 (by rcases hk5 with e | e; exact .inl e; exact .inr ⟨_, e, Nat.le_refl _⟩)
        have HM2 := Lib.hid (HTK.out.trans (by rw [← HM.out])).symm
        have HS6 := Lib.hid hS6
        clear hS5 hS6 hown2 hfive hone ho5 hg5 hk5 y0 y1 y2 y3 y4
        go_wp2_with fail
        go_roundw
        case rel => exact ⟨i + 1, _, by omega, by omega, by go_num, HM2, Lib.hid (by rw [List.length_append, HK.out]; simp only [List.length_singleton]; omega), HS6.out⟩
        case measure => simp [intOf]; omega
    · have hmR : m = R := by rw [HM.out, List.take_of_length_le (by rw [HRL.out]; omega)]
      subst hmR
      have HS9 := Lib.hid hS
      have ik : (n : Int) ≤ (i : Int) := by omega
      clear hS HM
      go_wp2_with fail
      go_ret
      exact ⟨B, cc, by rw [HK.out]; rfl, HS9.out⟩
set_option maxRecDepth 100000 in
set_option maxHeartbeats 16000000 in
theorem Right_3 (v : Value) (l : List CV) (k : Nat) (hkl : k ≤ l.length) (w : World) (hl : RdCs w v l) (hn : l.length * 72 ≤ 140737488355328) :
    Calls Tryz.prog 59 #[.int .i64 3, v, .int .i64 (k : Int)] w fun e w' => ∃ A c, e = .returned (.slice A (rightC 3 l k).length c) ∧ Sep w w' [ownE 43 5 (.slice A (rightC 3 l k).length c) (rightC 3 l k).length (flatC (rightC 3 l k)), oldE w] := by
  obtain ⟨n, hnn⟩ : ∃ n, l.length = n := ⟨_, rfl⟩
  have HNN := Lib.hid hnn
  have hl0 := hl
  have hrl := rightC_length 3 l k
  have hro := rightC_ok hl 3 k
  have hra := fun i (h1 : k ≤ i) (h2 : i < l.length) (h3 : i - k < (rightC 3 l k).length) => rightC_at 3 l h1 h2 h3
  have HRO := Lib.hid hro
  have HRA := Lib.hid hra
  obtain ⟨A, c, rfl, hm, hc⟩ := hl.slice
  rw [hnn] at hm hl0 hn hkl hrl ⊢
  have HL0 := Lib.hid hl0
  have HRL := Lib.hid hrl
  have hS : Sep w w (ownE 43 5 (.slice none 0 0) 0 [] :: [oldE w]) := (Sep.start w).nilC
  clear hl hc hnn hrl hro hra hl0
  generalize rightC 3 l k = R at *
  go_enter Tryz.func59, Tryz.ntmps59
  go_upto_region 3 with (fail)
  go_loopw [7, 8] (fun cv iv wr => ∃ (i : Nat) (m : List CV), k ≤ i ∧ i ≤ n ∧ iv = .int .i64 (i : Int) ∧ Hid (m = R.take (i - k)) ∧ Hid (m.length = i - k) ∧ Sep w wr (ownE 43 5 cv m.length (flatC m) :: [oldE w])) (fun _ iv _ => n - (intOf iv).toNat)
  case atStart => exact ⟨k, [], Nat.le_refl _, hkl, rfl, Lib.hid (by simp), Lib.hid (by simp), hS⟩
  case round =>
    clear hS
    obtain ⟨i, m, hki, hin, rfl, HM, HK, hS⟩ := hrel
    obtain ⟨B, cc, rfl⟩ := Own.slice (show Own wr 0 43 5 _ m.length (flatC m) from hS.head)
    rw [HK.out]
    by_cases hlt : i < n
    · have ik : (i : Int) < (n : Int) := by omega
      have i0 : (0 : Int) ≤ (i : Int) := by omega
      have hil : i < l.length := by rw [HNN.out]; exact hlt
      have hiR : i - k < R.length := by rw [HRL.out]; omega
      obtain ⟨ad, rfl, c0, c1, c2, c3, c4⟩ := (hS.rdC8 (v := w) (by simp) HL0.out).at_ hil
      have hxo := HL0.out.ok _ (List.getElem_mem hil)
      have hra := HRA.out i hki hil hiR
      have hro := HRO.out _ (List.getElem_mem hiR)
      have htk : R.take (i + 1 - k) = R.take (i - k) ++ [R[i - k]] := by rw [show i + 1 - k = i - k + 1 by omega]; exact List.take_succ_eq_append_getElem hiR
      generalize R[i - k] = y at *
      generalize l[i] = x at *
      obtain ⟨xA, xa, xB, xb, key, ck, val, pg, ct, rfl, _, _⟩ := CV.form hxo
      simp only at c0 c1 c2 c3 c4
      have HTK := Lib.hid htk
      have HRo := Lib.hid hro
      have HRa := Lib.hid hra
      have hS4 := hS.alloc 43 [.slice xA key.length xa, .int .i64 ck, .slice xB val.length xb, .int .i64 pg, .int .i64 ct]
      have hS5 := hS.alloc 43 [.slice none 0 0, .int .i64 ck, .slice xB val.length xb, .int .i64 pg, .int .i64 ct]
      clear hS htk hxo hro hra
      rcases Nat.decEq i k with hik | hik
      case' isFalse =>
        have hy := HRa.out
        rw [if_neg (fun e => hik e.2)] at hy
        have HY := Lib.hid hy
        have ine : ((i : Int) == (k : Int)) = false := beq_eq_false_iff_ne.2 (by omega)
        clear hik hy
        go_upto_region 8 with (fail)
        generalize hW4 : wr.alloc (.cells #[.slice xA key.length xa, .int .i64 ck, .slice xB val.length xb, .int .i64 pg, .int .i64 ct] 43) = w4 at *
        generalize wr.heap.size = cb at *
        clear hW4 c0 c1 c2 c3 c4 ine
        have hS4 : Sep w w4 (blkE cb 43 [y.kv, .int .i64 y.c.kind, y.vv, .int .i64 y.c.page, .int .i64 y.c.count] :: ownE 43 5 (.slice B (i - k) cc) (i - k) (flatC m) :: [oldE w]) := by rw [HY.out]; rw [HK.out] at hS4; exact hS4
      case' isTrue =>
        have hy := HRa.out
        rw [if_pos (by simpa using hik)] at hy
        have HY := Lib.hid hy
        have ine : ((i : Int) == (k : Int)) = true := beq_iff_eq.2 (by omega)
        have hS4 := hS5
        clear hik hy
        go_upto_region 8 with (fail)
        generalize hW4 : wr.alloc (.cells #[.slice none 0 0, .int .i64 ck, .slice xB val.length xb, .int .i64 pg, .int .i64 ct] 43) = w4 at *
        generalize wr.heap.size = cb at *
        clear hW4 c0 c1 c2 c3 c4 ine
        have hS4 : Sep w w4 (blkE cb 43 [y.kv, .int .i64 y.c.kind, y.vv, .int .i64 y.c.page, .int .i64 y.c.count] :: ownE 43 5 (.slice B (i - k) cc) (i - k) (flatC m) :: [oldE w]) := by rw [HY.out]; rw [HK.out] at hS4; exact hS4
      all_goals
        obtain ⟨yA, ya, yB, yb, ykey, yck, yval, ypg, yct, rfl, _, _⟩ := CV.form HRo.out
        simp only at hS4
        obtain ⟨y0, y1, y2, y3, y4⟩ := cells5 hS4.blk
        have hS5 := hS4.alloc 43 [.slice yA ykey.length ya, .int .i64 yck, .slice yB yval.length yb, .int .i64 ypg, .int .i64 yct]
        have hown2 := (show Own _ 0 43 5 (.slice B (i - k) cc) (i - k) (flatC m) from hS5.tail.tail.head)
        have hfive := Rd.five w4 (.slice yA ykey.length ya) (.int .i64 yck) (.slice yB yval.length yb) (.int .i64 ypg) (.int .i64 yct) 43
        have hone := flatC_one (l := [⟨.slice yA ykey.length ya, .slice yB yval.length yb, ⟨ykey, yck, yval, ypg, yct⟩⟩]) (fun x hx => by obtain rfl := List.mem_singleton.1 hx; exact HRo.out)
        have hl9 : (i - k + 1) * 72 ≤ 140737488355328 := by omega
        have HL9 := Lib.hid hl9
        clear hS4 hl9
        go_upto_region 4 with (first
          | (at_builtin; refine wp_append_C rfl (.tmp 29) (.tmp 31) rfl 0 (.slice B (i - k) cc) m rfl (by rw [HK.out]; exact hown2) (.slice (some ⟨w4.heap.size, 0, none⟩) 1 1) [⟨.slice yA ykey.length ya, .slice yB yval.length yb, ⟨ykey, yck, yval, ypg, yct⟩⟩] rfl hfive hone (by have := HL9.out; rw [HK.out]; simpa using this) (Nat.zero_le _) ?_; intro v5 w5 ho5 hg5 hk5)
          | fail)
        have hS6 := (Sep.pick (L := [_, _, _, _]) [2, 3] (by decide) rfl hS5).appC ho5 hg5 (by rcases hk5 with e | e; exact .inl e; exact .inr ⟨_, e, Nat.le_refl _⟩)
        have HM2 := Lib.hid (HTK.out.trans (by rw [← HM.out])).symm
        have HS6 := Lib.hid hS6
        clear hS5 hS6 hown2 hfive hone ho5 hg5 hk5 y0 y1 y2 y3 y4
        go_wp2_with fail
        go_roundw
        case rel => exact ⟨i + 1, _, by omega, by omega, by go_num, HM2, Lib.hid (by rw [List.length_append, HK.out]; simp only [List.length_singleton]; omega), HS6.out⟩
        case measure => simp [intOf]; omega
    · have hmR : m = R := by rw [HM.out, List.take_of_length_le (by rw [HRL.out]; omega)]
      subst hmR
      have HS9 := Lib.hid hS
      have ik : (n : Int) ≤ (i : Int) := by omega
      clear hS HM
      go_wp2_with fail
      go_ret
      exact ⟨B, cc, by rw [HK.out]; rfl, HS9.out⟩
end Go.Proofs.YtfcnkpofcekmgaaGreat
