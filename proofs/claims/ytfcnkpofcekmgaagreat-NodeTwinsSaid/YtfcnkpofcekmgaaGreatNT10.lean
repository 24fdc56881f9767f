/- Texts joined: Packed pages; Packed pages that are worked on; sort.Search; packed.Page's within, Find -/
import Derived.Test.YtfcnkpofcekmgaaGreatNT2
import Derived.Test.YtfcnkpofcekmgaaGreatNT3
import Derived.Test.YtfcnkpofcekmgaaGreatNT4
import Derived.Test.YtfcnkpofcekmgaaGreatNT5
import Derived.Test.YtfcnkpofcekmgaaGreatNT6
import Derived.Test.YtfcnkpofcekmgaaGreatNT9
import Derived.Deep.QuietTactic
import Derived.BigQuiet
-- Packed pages: what is written, how it is read: plain laws.
namespace Go.Proofs.YtfcnkpofcekmgaaGreat
def u64N (n : Int) : Nat := (n % 18446744073709551616).toNat
theorem u64N_lt (n : Int) : u64N n < 18446744073709551616 := by unfold u64N; omega
theorem u64N_of {n : Int} (h : 0 ≤ n) (h2 : n < 18446744073709551616) : u64N n = n.toNat := by unfold u64N; rw [Int.emod_eq_of_lt h h2]
def u8I (k : Int) : UInt8 := UInt8.ofNat (k % 256).toNat
def restF (kind : Int) (i : Nat) (key : List UInt8) (pre : Nat) : List UInt8 := if kind = 3 ∧ i = 0 then key else key.drop pre
def kvF (c : PC) : List UInt8 := if c.kind = 1 then uintF c.val.length ++ c.val else uintF (u64N c.page) ++ uintF (u64N c.count)
def pcF (kind : Int) (i : Nat) (c : PC) (pre : Nat) : List UInt8 := u8I c.kind :: (uintF (restF kind i c.key pre).length ++ (restF kind i c.key pre ++ kvF c))
def pbodyF (kind : Int) (pre : Nat) : Nat → List PC → List UInt8
  | _, [] => []
  | i, c :: r => pcF kind i c pre ++ pbodyF kind pre (i + 1) r
def pslotsF (kind : Int) (pre : Nat) : Nat → Nat → List PC → List UInt8
  | _, _, [] => []
  | a, i, c :: r => fixedF a 2 ++ pslotsF kind pre (a + (pcF kind i c pre).length) (i + 1) r
def takenF (kind : Int) (l : List PC) (pre : Nat) : Nat := 10 + pre + 2 * l.length + (pbodyF kind pre 0 l).length
def keysF (kind : Int) (l : List PC) : List (List UInt8) := (if kind = 3 then l.drop 1 else l).map PC.key
def sharedF (kind : Int) (l : List PC) : Nat := comLs (keysF kind l)
def psizeF (kind : Int) (l : List PC) : Nat := takenF kind l (sharedF kind l)
def encK (kind : Int) (l : List PC) (P : Nat) : Int := if scanE kind P none l ≠ 0 then scanE kind P none l else if P < psizeF kind l then 61 else 0
def prefF (kind : Int) (l : List PC) : List UInt8 := match l.getLast? with
  | none => []
  | some c => c.key.take (sharedF kind l)
def preK (kind : Int) (l : List PC) (P : Nat) : List UInt8 :=
  u8I kind :: 2 :: (fixedF l.length 2 ++ (fixedF (sharedF kind l) 2 ++ (prefF kind l ++ (pslotsF kind (sharedF kind l) (6 + sharedF kind l + 2 * l.length) 0 l ++ (pbodyF kind (sharedF kind l) 0 l ++ List.replicate (P - psizeF kind l) 0)))))
def laidK (kind : Int) (l : List PC) (P : Nat) : List UInt8 := preK kind l P ++ fixedF (sumF (preK kind l P)) 4
theorem encK_zero {kind : Int} {l : List PC} {P : Nat} : encK kind l P = 0 ↔ scanE kind P none l = 0 ∧ psizeF kind l ≤ P := by
  unfold encK
  split
  · rename_i h; exact ⟨fun e => absurd e h, fun e => absurd e.1 h⟩
  · rename_i h
    split
    · exact ⟨fun e => by omega, fun e => by omega⟩
    · exact ⟨fun _ => ⟨by simpa using h, by omega⟩, fun _ => rfl⟩
theorem pslotsF_length (kind : Int) (pre : Nat) : ∀ (a i : Nat) (l : List PC), (pslotsF kind pre a i l).length = 2 * l.length
  | _, _, [] => rfl
  | a, i, c :: r => by simp only [pslotsF, List.length_append, fixedF_length, pslotsF_length, List.length_cons]; omega
theorem pbodyF_append (kind : Int) (pre : Nat) : ∀ (i : Nat) (a b : List PC), pbodyF kind pre i (a ++ b) = pbodyF kind pre i a ++ pbodyF kind pre (i + a.length) b
  | i, [], b => rfl
  | i, c :: r, b => by
    simp only [List.cons_append, pbodyF, pbodyF_append kind pre (i + 1) r b, List.append_assoc, List.length_cons]
    rw [show i + 1 + r.length = i + (r.length + 1) by omega]
theorem pslotsF_append (kind : Int) (pre : Nat) : ∀ (a i : Nat) (x y : List PC), pslotsF kind pre a i (x ++ y) = pslotsF kind pre a i x ++ pslotsF kind pre (a + (pbodyF kind pre i x).length) (i + x.length) y
  | a, i, [], y => rfl
  | a, i, c :: r, y => by
    simp only [List.cons_append, pslotsF, pslotsF_append kind pre _ (i + 1) r y, List.append_assoc, List.length_cons, pbodyF, List.length_append]
    rw [show i + 1 + r.length = i + (r.length + 1) by omega, show a + (pcF kind i c pre).length + (pbodyF kind pre (i + 1) r).length = a + ((pcF kind i c pre).length + (pbodyF kind pre (i + 1) r).length) by omega]
/-! ### what keys share -/
theorem comLs_cons (t : List UInt8) (r : List (List UInt8)) : comLs (t :: r) ≤ t.length ∧ ∀ x ∈ r, comLs (t :: r) ≤ comF t x := by
  show r.foldl (fun n x => min n (comF t x)) t.length ≤ t.length ∧ _
  have key : ∀ (r : List (List UInt8)) (m : Nat), r.foldl (fun n x => min n (comF t x)) m ≤ m ∧ ∀ x ∈ r, r.foldl (fun n x => min n (comF t x)) m ≤ comF t x := by
    intro r
    induction r with
    | nil => intro m; exact ⟨Nat.le_refl _, by simp⟩
    | cons y s ih =>
      intro m
      have h := ih (min m (comF t y))
      refine ⟨Nat.le_trans h.1 (Nat.min_le_left _ _), fun x hx => ?_⟩
      rcases List.mem_cons.1 hx with rfl | hx
      · exact Nat.le_trans h.1 (Nat.min_le_right _ _)
      · exact h.2 x hx
  exact ⟨(key r t.length).1, fun x hx => (key r t.length).2 x hx⟩
/-- All keys begin alike, and are that long. -/
theorem comLs_take {ks : List (List UInt8)} {x y : List UInt8} (hx : x ∈ ks) (hy : y ∈ ks) : comLs ks ≤ x.length ∧ x.take (comLs ks) = y.take (comLs ks) := by
  cases ks with
  | nil => cases hx
  | cons t r =>
    obtain ⟨h1, h2⟩ := comLs_cons t r
    have key : ∀ z ∈ t :: r, comLs (t :: r) ≤ z.length ∧ z.take (comLs (t :: r)) = t.take (comLs (t :: r)) := fun z hz => by
      rcases List.mem_cons.1 hz with rfl | hz
      · exact ⟨h1, rfl⟩
      · have h3 := h2 z hz
        have h4 := comF_le t z
        refine ⟨by omega, ?_⟩
        have e := comF_take t z
        have e2 := congrArg (List.take (comLs (t :: r))) e
        rw [List.take_take, List.take_take, Nat.min_eq_left h3] at e2
        exact e2.symm
    exact ⟨(key x hx).1, (key x hx).2.trans (key y hy).2.symm⟩
/-- A cell's key is the prefix, and its rest. -/
theorem key_split {kind : Int} {l : List PC} {i : Nat} (hi : i < l.length) (hn : ¬ (kind = 3 ∧ i = 0)) :
    sharedF kind l ≤ l[i].key.length ∧ l[i].key = prefF kind l ++ l[i].key.drop (sharedF kind l) ∧ (prefF kind l).length = sharedF kind l := by
  have hmem : ∀ j (hj : j < l.length), ¬ (kind = 3 ∧ j = 0) → l[j].key ∈ keysF kind l := fun j hj hnj => by
    unfold keysF
    refine List.mem_map_of_mem ?_
    by_cases hk : kind = 3
    · rw [if_pos hk]
      have : l[j] = (l.drop 1)[j - 1]'(by simp; omega) := by simp only [List.getElem_drop]; congr 1; omega
      rw [this]; exact List.getElem_mem _
    · rw [if_neg hk]; exact List.getElem_mem _
  have hlast : l.getLast? = some (l[l.length - 1]'(by omega)) := by rw [List.getLast?_eq_getElem?, List.getElem?_eq_getElem (by omega)]
  have hp : prefF kind l = (l[l.length - 1]'(by omega)).key.take (sharedF kind l) := by unfold prefF; rw [hlast]
  have hm1 := hmem i hi hn
  have hm2 := hmem (l.length - 1) (by omega) (fun h => hn ⟨h.1, by omega⟩)
  have h1 := comLs_take hm1 hm2
  have h2 := comLs_take hm2 hm1
  refine ⟨h1.1, ?_, ?_⟩
  · rw [hp]
    have : (l[l.length - 1]'(by omega)).key.take (sharedF kind l) = l[i].key.take (sharedF kind l) := h2.2
    rw [this, List.take_append_drop]
  · rw [hp, List.length_take]
    exact Nat.min_eq_left h2.1
theorem prefF_length_le (kind : Int) (l : List PC) : (prefF kind l).length ≤ sharedF kind l := by
  unfold prefF
  split
  · simp
  · rw [List.length_take]; omega
theorem sharedF_pos {kind : Int} {l : List PC} (h : 0 < sharedF kind l) : ∃ i, ∃ _hi : i < l.length, ¬ (kind = 3 ∧ i = 0) := by
  unfold sharedF keysF at h
  by_cases hk : kind = 3
  · rw [if_pos hk] at h
    refine ⟨1, ?_, by omega⟩
    rcases Nat.lt_or_ge 1 l.length with h1 | h1
    · exact h1
    · rw [List.drop_of_length_le h1] at h; simp [comLs] at h
  · refine ⟨0, ?_, by omega⟩
    rcases Nat.eq_zero_or_pos l.length with h1 | h1
    · rw [if_neg hk, List.eq_nil_of_length_eq_zero h1] at h; simp [comLs] at h
    · exact h1
theorem prefF_length (kind : Int) (l : List PC) : (prefF kind l).length = sharedF kind l := by
  rcases Nat.eq_zero_or_pos (sharedF kind l) with h | h
  · have := prefF_length_le kind l; omega
  · obtain ⟨i, hi, hn⟩ := sharedF_pos h
    exact (key_split hi hn).2.2
/-! ### lengths -/
theorem preK_length {kind : Int} {l : List PC} {P : Nat} (h : psizeF kind l ≤ P) : (preK kind l P).length = P - 4 := by
  have e : psizeF kind l = 10 + sharedF kind l + 2 * l.length + (pbodyF kind (sharedF kind l) 0 l).length := rfl
  unfold preK
  simp only [List.length_cons, List.length_append, fixedF_length, prefF_length, pslotsF_length, List.length_replicate]
  omega
theorem laidK_length {kind : Int} {l : List PC} {P : Nat} (h : psizeF kind l ≤ P) : (laidK kind l P).length = P := by
  have e : psizeF kind l = 10 + sharedF kind l + 2 * l.length + (pbodyF kind (sharedF kind l) 0 l).length := rfl
  unfold laidK
  rw [List.length_append, preK_length h, fixedF_length]; omega
/-! ### how a page is read -/
/-! ### three cells -/
theorem pcF_le {kind : Int} {i pre P : Nat} {c : PC} (hc : OkC P c) (hP : P ≤ 65536) (hP2 : 512 ≤ P) : (pcF kind i c pre).length + (c.key.length - (restF kind i c.key pre).length) ≤ 5 + P / 8 + P / 16 * 3 := by
  have hrl : (restF kind i c.key pre).length ≤ c.key.length := by unfold restF; split <;> simp
  have hk0 := hc.k0
  have u1 : (uintF (restF kind i c.key pre).length).length ≤ 2 := uintF_len 1 _ (by show _ < 16384; omega)
  unfold pcF
  simp only [List.length_cons, List.length_append]
  unfold kvF
  by_cases h1 : c.kind = 1
  · obtain ⟨hv, _, _⟩ := hc.v0 h1
    have u2 : (uintF c.val.length).length ≤ 2 := uintF_len 1 _ (by show _ < 16384; omega)
    rw [if_pos h1, List.length_append]; omega
  · obtain ⟨hv, hp0, hp1, hc0, hc1⟩ := hc.v1 h1
    have u2 : (uintF (u64N c.page)).length ≤ 3 := uintF_len 2 _ (by rw [u64N_of hp0 (by omega)]; show _ < 2097152; omega)
    have u3 : (uintF (u64N c.count)).length ≤ 5 := uintF_len 4 _ (by rw [u64N_of hc0 (by omega)]; show _ < 34359738368; omega)
    rw [if_neg h1, List.length_append]; omega
theorem may_branch {P : Nat} {c : PC} (h : mayP 3 P c = true) : c.kind = 3 := by
  unfold mayP at h
  split at h
  · cases h
  · rw [if_pos rfl] at h
    exact (of_decide_eq_true h).1
theorem pcF_le3 {i pre P : Nat} {c : PC} (hc : OkC P c) (h3 : c.kind = 3) (hP : P ≤ 65536) (kind : Int) : (pcF kind i c pre).length ≤ 11 + P / 8 := by
  have hrl : (restF kind i c.key pre).length ≤ c.key.length := by unfold restF; split <;> simp
  have hk0 := hc.k0
  have u1 : (uintF (restF kind i c.key pre).length).length ≤ 2 := uintF_len 1 _ (by show _ < 16384; omega)
  have h1 : c.kind ≠ 1 := by omega
  obtain ⟨hv, hp0, hp1, hc0, hc1⟩ := hc.v1 h1
  have u2 : (uintF (u64N c.page)).length ≤ 3 := uintF_len 2 _ (by rw [u64N_of hp0 (by omega)]; show _ < 2097152; omega)
  have u3 : (uintF (u64N c.count)).length ≤ 5 := uintF_len 4 _ (by rw [u64N_of hc0 (by omega)]; show _ < 34359738368; omega)
  unfold pcF
  simp only [List.length_cons, List.length_append]
  unfold kvF
  rw [if_neg h1, List.length_append]; omega
/-- Three cells that may be fit. -/
theorem three_fit {kind : Int} {l : List PC} {P : Nat} (hP : P ≤ 65536) (hP2 : 512 ≤ P) (h16 : P % 16 = 0) (hm : ∀ c ∈ l, mayP kind P c = true) (h3 : l.length ≤ 3) : psizeF kind l ≤ P := by
  have hz : psizeF kind l = 10 + sharedF kind l + 2 * l.length + (pbodyF kind (sharedF kind l) 0 l).length := rfl
  have hok : ∀ c ∈ l, OkC P c := fun c hc => may_ok (hm c hc)
  have hrs : ∀ (j : Nat) (hj : j < l.length), ¬ (kind = 3 ∧ j = 0) → (restF kind j l[j].key (sharedF kind l)).length + sharedF kind l = l[j].key.length := fun j hj hn => by
    have := (key_split hj hn).1
    unfold restF
    rw [if_neg hn, List.length_drop]; omega
  by_cases hk : kind = 3
  · subst hk
    have hb : ∀ (j : Nat) (hj : j < l.length), (pcF 3 j l[j] (sharedF 3 l)).length ≤ 11 + P / 8 := fun j hj => pcF_le3 (hok _ (List.getElem_mem hj)) (may_branch (hm _ (List.getElem_mem hj))) hP 3
    have hs : sharedF 3 l ≤ P / 8 := by
      rcases Nat.eq_zero_or_pos (sharedF 3 l) with h | h
      · omega
      · obtain ⟨i, hi, hn⟩ := sharedF_pos h
        have h1 := (key_split hi hn).1
        have h2 := (hok _ (List.getElem_mem hi)).k0
        omega
    rw [hz]
    generalize sharedF 3 l = s at *
    match l, h3 with
    | [], _ => simp [pbodyF]; omega
    | [a], _ =>
      have h0 := hb 0 (by simp)
      simp only [List.getElem_cons_zero] at h0
      simp only [pbodyF, List.length_append, List.length_nil, List.length_cons, Nat.zero_add]; omega
    | [a, b], _ =>
      have h0 := hb 0 (by simp)
      have h1 := hb 1 (by simp)
      simp only [List.getElem_cons_zero, List.getElem_cons_succ] at h0 h1
      simp only [pbodyF, List.length_append, List.length_nil, List.length_cons, Nat.zero_add, Nat.reduceAdd]; omega
    | [a, b, c], _ =>
      have h0 := hb 0 (by simp)
      have h1 := hb 1 (by simp)
      have h2 := hb 2 (by simp)
      simp only [List.getElem_cons_zero, List.getElem_cons_succ] at h0 h1 h2
      simp only [pbodyF, List.length_append, List.length_nil, List.length_cons, Nat.zero_add, Nat.reduceAdd]; omega
  · have hb : ∀ (j : Nat) (hj : j < l.length), (pcF kind j l[j] (sharedF kind l)).length + sharedF kind l ≤ 5 + P / 8 + P / 16 * 3 := fun j hj => by
      have h1 := pcF_le (kind := kind) (i := j) (pre := sharedF kind l) (hok _ (List.getElem_mem hj)) hP hP2
      have h2 := hrs j hj (fun e => hk e.1)
      omega
    have hs0 : l = [] → sharedF kind l = 0 := fun e => by subst e; unfold sharedF keysF; simp [comLs]
    rw [hz]
    generalize sharedF kind l = s at *
    match l, h3 with
    | [], _ => have := hs0 rfl; simp [pbodyF]; omega
    | [a], _ =>
      have h0 := hb 0 (by simp)
      simp only [List.getElem_cons_zero] at h0
      simp only [pbodyF, List.length_append, List.length_nil, List.length_cons, Nat.zero_add]; omega
    | [a, b], _ =>
      have h0 := hb 0 (by simp)
      have h1 := hb 1 (by simp)
      simp only [List.getElem_cons_zero, List.getElem_cons_succ] at h0 h1
      simp only [pbodyF, List.length_append, List.length_nil, List.length_cons, Nat.zero_add, Nat.reduceAdd]; omega
    | [a, b, c], _ =>
      have h0 := hb 0 (by simp)
      have h1 := hb 1 (by simp)
      have h2 := hb 2 (by simp)
      simp only [List.getElem_cons_zero, List.getElem_cons_succ] at h0 h1 h2
      simp only [pbodyF, List.length_append, List.length_nil, List.length_cons, Nat.zero_add, Nat.reduceAdd]; omega
end Go.Proofs.YtfcnkpofcekmgaaGreat

-- Packed pages that are worked on: plain laws.
namespace Go.Proofs.YtfcnkpofcekmgaaGreat
/-- The page: its cells, the prefix that is kept, the waste. -/
structure KP where
  l : List PC
  pre : List UInt8
  waste : Nat
def usedP (kind : Int) (s : KP) : Nat := takenF kind s.l s.pre.length
def tidyP (kind : Int) (l : List PC) : KP := ⟨l, prefF kind l, 0⟩
def hasPre (key pre : List UInt8) : Bool := decide (pre.length ≤ key.length) && (key.take pre.length == pre)
def putK (kind : Int) (P : Nat) (l : List PC) (i gone : Nat) (c : PC) : Int :=
  if mayP kind P c = false then 62
  else if 0 ≤ leftO l i c ∨ 0 ≤ rightO l (i + gone) c then 63
  else if P < psizeF kind (withF l i gone c) then 61 else 0
def insKZ (kind : Int) (P : Nat) (l : List PC) (i : Int) (gone : Nat) (c : PC) : Int := if i < 0 ∨ (l.length : Int) - gone < i then 64 else putK kind P l i.toNat gone c
def dftC : PC := ⟨[], 0, [], 0, 0⟩
/-- The bytes of the i-th cell. -/
def oldK (kind : Int) (s : KP) (i : Nat) : Nat := (pcF kind i (s.l.getD i dftC) s.pre.length).length
def firstK (kind : Int) (i : Nat) : Bool := decide (kind = 3 ∧ i = 0)
def anew0 (kind : Int) (pre : List UInt8) (i gone : Nat) (c : PC) : Bool := if gone = 0 then firstK kind i || !hasPre c.key pre else !firstK kind i && !hasPre c.key pre
def wasteK (kind : Int) (s : KP) (i gone : Nat) : Nat := s.waste + (if gone = 0 then 0 else oldK kind s i)
/-- Other cells that fit. -/
def changeS (kind : Int) (P : Nat) (pre : List UInt8) (l : List PC) (waste : Nat) (anew : Bool) : KP :=
  if (anew || decide (P < takenF kind l pre.length + waste)) = true then tidyP kind l else ⟨l, pre, waste⟩
def putS (kind : Int) (P : Nat) (s : KP) (i gone : Nat) (c : PC) : KP := changeS kind P s.pre (withF s.l i gone c) (wasteK kind s i gone) (anew0 kind s.pre i gone c)
def insKS (kind : Int) (P : Nat) (s : KP) (i : Int) (gone : Nat) (c : PC) : KP := if insKZ kind P s.l i gone c = 0 then putS kind P s i.toNat gone c else s
def remKZ (kind : Int) (P : Nat) (l : List PC) (i : Int) : Int :=
  if i < 0 ∨ (l.length : Int) ≤ i then 64 else if kind = 3 ∧ i = 0 ∧ P < psizeF kind (l.take i.toNat ++ l.drop (i.toNat + 1)) then 61 else 0
def takeS (kind : Int) (s : KP) (i : Nat) : KP :=
  if kind = 3 ∧ i = 0 ∨ s.l.take i ++ s.l.drop (i + 1) = [] then tidyP kind (s.l.take i ++ s.l.drop (i + 1)) else ⟨s.l.take i ++ s.l.drop (i + 1), s.pre, s.waste + oldK kind s i⟩
def remKS (kind : Int) (P : Nat) (s : KP) (i : Int) : KP := if remKZ kind P s.l i = 0 then takeS kind s i.toNat else s
/-- The prefix is that of all keys that lie behind it. -/
def PreOk (kind : Int) (l : List PC) (pre : List UInt8) : Prop := ∀ j (hj : j < l.length), ¬ (kind = 3 ∧ j = 0) → hasPre l[j].key pre = true
structure KInv (kind : Int) (P : Nat) (s : KP) : Prop where
  rise : Rising s.l
  may : ∀ c ∈ s.l, mayP kind P c = true
  size : psizeF kind s.l ≤ P
  pre : PreOk kind s.l s.pre
  room : usedP kind s + s.waste ≤ P
theorem hasPre_iff {key pre : List UInt8} : hasPre key pre = true ↔ pre.length ≤ key.length ∧ key.take pre.length = pre := by
  unfold hasPre
  rw [Bool.and_eq_true, decide_eq_true_iff, beq_iff_eq]
theorem hasPre_prefF {kind : Int} {l : List PC} : PreOk kind l (prefF kind l) := fun j hj hn => by
  obtain ⟨h1, h2, h3⟩ := key_split hj hn
  refine hasPre_iff.2 ⟨by omega, ?_⟩
  rw [h2, List.take_left]
theorem usedP_tidy (kind : Int) (l : List PC) : usedP kind (tidyP kind l) = psizeF kind l := by
  unfold usedP tidyP psizeF
  simp only [prefF_length]
theorem tidy_inv {kind : Int} {P : Nat} {l : List PC} (h1 : Rising l) (h2 : ∀ c ∈ l, mayP kind P c = true) (h3 : psizeF kind l ≤ P) : KInv kind P (tidyP kind l) :=
  ⟨h1, h2, h3, hasPre_prefF, by rw [usedP_tidy]; show psizeF kind l + 0 ≤ P; omega⟩
/-! ### a longer prefix takes no more -/
theorem comF_ge : ∀ {a b p : List UInt8}, a.take p.length = p → b.take p.length = p → p.length ≤ comF a b
  | _, _, [], _, _ => by simp
  | [], _, _ :: _, h, _ => by simp at h
  | _ :: _, [], _ :: _, _, h => by simp at h
  | x :: a, y :: b, z :: p, h1, h2 => by
    simp only [List.length_cons, List.take_succ_cons, List.cons.injEq] at h1 h2
    have := comF_ge h1.2 h2.2
    unfold comF
    rw [if_pos (h1.1.trans h2.1.symm)]
    simp; omega
theorem comLs_ge {ks : List (List UInt8)} {p : List UInt8} (h0 : ks ≠ []) (h : ∀ x ∈ ks, hasPre x p = true) : p.length ≤ comLs ks := by
  cases ks with
  | nil => exact absurd rfl h0
  | cons t r =>
    have ht := hasPre_iff.1 (h t (by simp))
    show p.length ≤ r.foldl (fun n x => min n (comF t x)) t.length
    have key : ∀ (r : List (List UInt8)) (m : Nat), p.length ≤ m → (∀ x ∈ r, p.length ≤ comF t x) → p.length ≤ r.foldl (fun n x => min n (comF t x)) m := by
      intro r
      induction r with
      | nil => intro m hm _; exact hm
      | cons y s ih => intro m hm hy; exact ih _ (Nat.le_min.2 ⟨hm, hy y (by simp)⟩) (fun x hx => hy x (by simp [hx]))
    refine key r _ ht.1 (fun x hx => ?_)
    have hx' := hasPre_iff.1 (h x (by simp [hx]))
    exact comF_ge ht.2 hx'.2
theorem keysF_mem {kind : Int} {l : List PC} {k : List UInt8} (h : k ∈ keysF kind l) : ∃ j, ∃ hj : j < l.length, ¬ (kind = 3 ∧ j = 0) ∧ l[j].key = k := by
  unfold keysF at h
  obtain ⟨c, hc, rfl⟩ := List.mem_map.1 h
  by_cases hk : kind = 3
  · rw [if_pos hk] at hc
    obtain ⟨j, hj, rfl⟩ := List.getElem_of_mem hc
    rw [List.length_drop] at hj
    refine ⟨1 + j, by omega, by omega, ?_⟩
    rw [List.getElem_drop]
  · rw [if_neg hk] at hc
    obtain ⟨j, hj, rfl⟩ := List.getElem_of_mem hc
    exact ⟨j, hj, fun e => hk e.1, rfl⟩
theorem shared_ge {kind : Int} {l : List PC} {pre : List UInt8} (hp : PreOk kind l pre) (h0 : keysF kind l ≠ []) : pre.length ≤ sharedF kind l :=
  comLs_ge h0 (fun k hk => by obtain ⟨j, hj, hn, rfl⟩ := keysF_mem hk; exact hp j hj hn)
theorem uintF_mono' (n : Nat) : ∀ m, m ≤ n → (uintF m).length ≤ (uintF n).length := by
  induction n using Nat.strongRecOn with
  | ind n ih =>
    intro m h
    by_cases hm : m < 128
    · rw [uintF_lt hm]
      exact uintF_pos n
    · rw [uintF_ge (n := m) hm, uintF_ge (n := n) (by omega)]
      have := ih (n / 128) (by omega) (m / 128) (by omega)
      simp only [List.length_cons]; omega
theorem uintF_mono {m n : Nat} (h : m ≤ n) : (uintF m).length ≤ (uintF n).length := uintF_mono' n m h
theorem pcF_first {kind : Int} {i : Nat} (h : kind = 3 ∧ i = 0) (c : PC) (n m : Nat) : pcF kind i c n = pcF kind i c m := by
  unfold pcF restF
  rw [if_pos h, if_pos h]
theorem pcF_shrink {kind : Int} {i : Nat} (h : ¬ (kind = 3 ∧ i = 0)) (c : PC) {n s : Nat} (hn : n ≤ s) (hs : s ≤ c.key.length) : (pcF kind i c s).length + (s - n) ≤ (pcF kind i c n).length := by
  unfold pcF restF
  rw [if_neg h, if_neg h]
  simp only [List.length_cons, List.length_append, List.length_drop]
  have := uintF_mono (show c.key.length - s ≤ c.key.length - n by omega)
  omega
theorem pbody_shrink (kind : Int) {n s : Nat} (hn : n ≤ s) : ∀ (l : List PC) (i : Nat), (∀ j (hj : j < l.length), ¬ (kind = 3 ∧ i + j = 0) → s ≤ l[j].key.length) →
    (pbodyF kind s i l).length + (s - n) * (if kind = 3 ∧ i = 0 then l.length - 1 else l.length) ≤ (pbodyF kind n i l).length
  | [], i, _ => by simp [pbodyF]
  | c :: r, i, h => by
    have ih := pbody_shrink kind hn r (i + 1) (fun j hj hn => by
      have := h (j + 1) (by simpa using hj) (by omega)
      simpa using this)
    rw [if_neg (by omega)] at ih
    simp only [pbodyF, List.length_append, List.length_cons]
    by_cases hf : kind = 3 ∧ i = 0
    · rw [if_pos hf, pcF_first hf c s n]
      simp only [Nat.add_sub_cancel]; omega
    · rw [if_neg hf, Nat.mul_add, Nat.mul_one]
      have h0 := h 0 (by simp) (by simpa using hf)
      simp only [List.getElem_cons_zero] at h0
      have := pcF_shrink hf c hn h0
      omega
theorem psize_le {kind : Int} {l : List PC} {pre : List UInt8} (hp : PreOk kind l pre) : psizeF kind l ≤ takenF kind l pre.length := by
  by_cases h0 : keysF kind l = []
  · have hs : sharedF kind l = 0 := by unfold sharedF; rw [h0]; rfl
    unfold psizeF
    rw [hs]
    have hb : ∀ n, pbodyF kind n 0 l = pbodyF kind 0 0 l := fun n => by
      unfold keysF at h0
      rw [List.map_eq_nil_iff] at h0
      by_cases hk : kind = 3
      · rw [if_pos hk] at h0
        cases l with
        | nil => rfl
        | cons c r =>
          have hr : r = [] := by simpa using h0
          subst hr
          simp only [pbodyF]
          rw [pcF_first ⟨hk, rfl⟩ c n 0]
      · rw [if_neg hk] at h0
        subst h0; rfl
    unfold takenF
    rw [hb pre.length]; omega
  · have hge := shared_ge hp h0
    have hlen : ∀ j (hj : j < l.length), ¬ (kind = 3 ∧ 0 + j = 0) → sharedF kind l ≤ l[j].key.length := fun j hj hn => (key_split hj (by simpa using hn)).1
    have hb := pbody_shrink kind hge l 0 hlen
    have hpos : 1 ≤ (if kind = 3 ∧ (0 : Nat) = 0 then l.length - 1 else l.length) := by
      unfold keysF at h0
      by_cases hk : kind = 3
      · rw [if_pos hk] at h0
        rw [if_pos ⟨hk, rfl⟩]
        have : (l.drop 1) ≠ [] := fun e => h0 (by rw [e]; rfl)
        have := List.length_pos_iff.2 this
        rw [List.length_drop] at this; omega
      · rw [if_neg hk] at h0
        rw [if_neg (fun e => hk e.1)]
        have : l ≠ [] := fun e => h0 (by rw [e]; rfl)
        exact List.length_pos_iff.2 this
    have hm := Nat.mul_le_mul_left (sharedF kind l - pre.length) hpos
    unfold psizeF takenF
    omega
/-! ### a cell less -/
theorem pbody_shift {kind : Int} {n i j : Nat} (h : kind = 3 → 0 < i ∧ 0 < j) : ∀ (l : List PC), pbodyF kind n i l = pbodyF kind n j l
  | [] => rfl
  | c :: r => by
    simp only [pbodyF]
    rw [pbody_shift (kind := kind) (n := n) (i := i + 1) (j := j + 1) (fun h' => by omega) r]
    congr 1
    unfold pcF restF
    by_cases hk : kind = 3
    · obtain ⟨h1, h2⟩ := h hk
      rw [if_neg (by omega), if_neg (by omega)]
    · rw [if_neg (fun e => hk e.1), if_neg (fun e => hk e.1)]
theorem taken_rem {kind : Int} {l : List PC} {i n : Nat} (hi : i < l.length) (hn : ¬ (kind = 3 ∧ i = 0)) : takenF kind (l.take i ++ l.drop (i + 1)) n + (2 + (pcF kind i l[i] n).length) = takenF kind l n := by
  have e : l = l.take i ++ (l[i] :: l.drop (i + 1)) := by rw [← List.drop_eq_getElem_cons hi, List.take_append_drop]
  have e1 : pbodyF kind n 0 l = pbodyF kind n 0 (l.take i) ++ (pcF kind i l[i] n ++ pbodyF kind n (i + 1) (l.drop (i + 1))) := by
    have h1 := congrArg (pbodyF kind n 0) e
    rw [h1, pbodyF_append]
    have h2 : (l.take i).length = i := by rw [List.length_take]; omega
    rw [h2, Nat.zero_add]; rfl
  have e2 : pbodyF kind n 0 (l.take i ++ l.drop (i + 1)) = pbodyF kind n 0 (l.take i) ++ pbodyF kind n (i + 1) (l.drop (i + 1)) := by
    rw [pbodyF_append]
    have h2 : (l.take i).length = i := by rw [List.length_take]; omega
    rw [h2, Nat.zero_add, pbody_shift (i := i) (j := i + 1) (fun hk => by omega)]
  unfold takenF
  rw [e1, e2]
  simp only [List.length_append, List.length_take, List.length_drop]
  omega
theorem rise_rem {l : List PC} (h : Rising l) (i : Nat) : Rising (l.take i ++ l.drop (i + 1)) := by
  have e : l.take i ++ l.drop (i + 1) = l.eraseIdx i := (List.eraseIdx_eq_take_drop_succ l i).symm
  rw [e]
  exact h.sublist (List.eraseIdx_sublist _ _)
theorem mem_rem {l : List PC} {i j : Nat} {c : PC} (h : c ∈ l.take i ++ l.drop j) : c ∈ l := by
  rcases List.mem_append.1 h with h | h
  · exact List.mem_of_mem_take h
  · exact List.mem_of_mem_drop h
theorem rem_at {l : List PC} {i j : Nat} (hi : i < l.length) (hj : j < (l.take i ++ l.drop (i + 1)).length) : ∃ k, ∃ hk : k < l.length, (l.take i ++ l.drop (i + 1))[j] = l[k] ∧ (k = 0 → j = 0) ∧ (0 < i → k = 0 ∨ 0 < j) := by
  have hl : (l.take i).length = i := by rw [List.length_take]; omega
  by_cases h : j < i
  · refine ⟨j, by omega, ?_, id, fun _ => by omega⟩
    rw [List.getElem_append_left (by omega), List.getElem_take]
  · simp only [List.length_append, hl, List.length_drop] at hj
    refine ⟨j + 1, by omega, ?_, by omega, fun h0 => .inr (by omega)⟩
    rw [List.getElem_append_right (by omega), List.getElem_drop]
    congr 1
    omega
theorem pre_rem {kind : Int} {l : List PC} {pre : List UInt8} (h : PreOk kind l pre) {i : Nat} (hi : i < l.length) : PreOk kind (l.take i ++ l.drop (i + 1)) pre := fun j hj hn => by
  obtain ⟨k, hk, e, h1, -⟩ := rem_at hi hj
  rw [e]
  exact h k hk (fun e => hn ⟨e.1, h1 e.2⟩)
theorem KInv.rem {kind : Int} {P : Nat} {s : KP} (h : KInv kind P s) (i : Int) : KInv kind P (remKS kind P s i) := by
  unfold remKS remKZ
  by_cases hin : i < 0 ∨ (s.l.length : Int) ≤ i
  · rw [if_pos hin, if_neg (by decide)]; exact h
  · rw [if_neg hin]
    obtain ⟨k, rfl⟩ : ∃ k : Nat, i = (k : Int) := ⟨i.toNat, by omega⟩
    have hk : k < s.l.length := by omega
    rw [Int.toNat_natCast]
    by_cases hz : kind = 3 ∧ (k : Int) = 0 ∧ P < psizeF kind (s.l.take k ++ s.l.drop (k + 1))
    · rw [if_pos hz, if_neg (by decide)]; exact h
    · rw [if_neg hz, if_pos rfl]
      have hm : ∀ c ∈ s.l.take k ++ s.l.drop (k + 1), mayP kind P c = true := fun c hc => h.may c (mem_rem hc)
      have hps : psizeF kind (s.l.take k ++ s.l.drop (k + 1)) ≤ P := by
        by_cases hf : kind = 3 ∧ k = 0
        · omega
        · have h1 := psize_le (pre_rem h.pre hk)
          have h2 := taken_rem (kind := kind) (n := s.pre.length) hk hf
          have h3 := h.room
          unfold usedP at h3
          omega
      unfold takeS
      split
      · exact tidy_inv (rise_rem h.rise k) hm hps
      · rename_i hf
        have hf' : ¬ (kind = 3 ∧ k = 0) := fun e => hf (.inl e)
        refine ⟨rise_rem h.rise k, hm, hps, pre_rem h.pre hk, ?_⟩
        have h2 := taken_rem (kind := kind) (n := s.pre.length) hk hf'
        have h3 := h.room
        unfold usedP at h3 ⊢
        unfold oldK
        simp only
        rw [show s.l.getD k dftC = s.l[k] by simp [List.getD, hk]]
        omega
/-! ### a cell more, another cell -/
theorem with_at {l : List PC} {i gone : Nat} {c : PC} (hi : i + gone ≤ l.length) (hg : gone ≤ 1) {j : Nat} (hj : j < (withF l i gone c).length) : (j = i ∧ (withF l i gone c)[j] = c) ∨ ∃ k, ∃ hk : k < l.length, (withF l i gone c)[j] = l[k] ∧ (k = 0 → j = 0 ∨ (i = 0 ∧ gone = 0)) := by
  have hl : (l.take i).length = i := by rw [List.length_take]; omega
  unfold withF at hj ⊢
  rcases Nat.lt_trichotomy j i with h | h | h
  · right
    refine ⟨j, by omega, ?_, by omega⟩
    rw [List.getElem_append_left (by omega), List.getElem_take]
  · left
    subst h
    refine ⟨rfl, ?_⟩
    rw [List.getElem_append_right (by omega)]
    simp [hl]
  · right
    simp only [List.length_append, hl, List.length_cons, List.length_drop] at hj
    refine ⟨j - 1 + gone, by omega, ?_, by omega⟩
    rw [List.getElem_append_right (by omega), List.getElem_cons]
    rw [dif_neg (by omega), List.getElem_drop]
    congr 1
    omega
theorem mem_with {l : List PC} {i gone : Nat} {c d : PC} (h : d ∈ withF l i gone c) : d = c ∨ d ∈ l := by
  unfold withF at h
  rcases List.mem_append.1 h with h | h
  · exact .inr (List.mem_of_mem_take h)
  · rcases List.mem_cons.1 h with h | h
    · exact .inl h
    · exact .inr (List.mem_of_mem_drop h)
theorem putK_zero {kind : Int} {P : Nat} {l : List PC} {i gone : Nat} {c : PC} (h : putK kind P l i gone c = 0) : mayP kind P c = true ∧ ¬ 0 ≤ leftO l i c ∧ ¬ 0 ≤ rightO l (i + gone) c ∧ psizeF kind (withF l i gone c) ≤ P := by
  unfold putK at h
  split at h
  · cases h
  · rename_i hm
    split at h
    · cases h
    · rename_i ho
      split at h
      · cases h
      · rename_i hz
        exact ⟨by simpa using hm, fun e => ho (.inl e), fun e => ho (.inr e), by omega⟩
theorem putK_rise {kind : Int} {P : Nat} {l : List PC} {i gone : Nat} {c : PC} (hs : Rising l) (hi : i + gone ≤ l.length) (h : putK kind P l i gone c = 0) : Rising (withF l i gone c) := by
  obtain ⟨-, h1, h2, -⟩ := putK_zero h
  refine (with_rises hs hi).2 ⟨fun h3 => ?_, fun h3 => ?_⟩
  · unfold leftO at h1
    rw [dif_pos ⟨h3, by omega⟩] at h1
    omega
  · unfold rightO at h2
    rw [dif_pos h3] at h2
    omega
theorem KInv.put {kind : Int} {P : Nat} {s : KP} (h : KInv kind P s) {i gone : Nat} {c : PC} (hi : i + gone ≤ s.l.length) (hg : gone ≤ 1) (h0 : putK kind P s.l i gone c = 0) : KInv kind P (putS kind P s i gone c) := by
  obtain ⟨hm, -, -, hz⟩ := putK_zero h0
  have hr := putK_rise h.rise hi h0
  have hm' : ∀ d ∈ withF s.l i gone c, mayP kind P d = true := fun d hd => by
    rcases mem_with hd with rfl | hd
    · exact hm
    · exact h.may d hd
  unfold putS changeS
  by_cases hn : (anew0 kind s.pre i gone c || decide (P < takenF kind (withF s.l i gone c) s.pre.length + wasteK kind s i gone)) = true
  · rw [if_pos hn]; exact tidy_inv hr hm' hz
  · rw [if_neg hn]
    rw [Bool.or_eq_true, not_or, decide_eq_true_iff] at hn
    obtain ⟨hn1, hn2⟩ := hn
    unfold anew0 firstK at hn1
    refine ⟨hr, hm', hz, fun j hj hnf => ?_, ?_⟩
    · rcases with_at hi hg hj with ⟨rfl, e⟩ | ⟨k, hk, e, hk0⟩
      · rw [e]
        by_cases hg0 : gone = 0
        · rw [if_pos hg0, Bool.or_eq_true, not_or] at hn1
          simpa using hn1.2
        · rw [if_neg hg0] at hn1
          have h1 : decide (kind = 3 ∧ j = 0) = false := decide_eq_false hnf
          rw [h1] at hn1
          simpa using hn1
      · rw [e]
        refine h.pre k hk (fun e2 => ?_)
        rcases hk0 e2.2 with e3 | ⟨e3, e4⟩
        · exact hnf ⟨e2.1, e3⟩
        · rw [if_pos e4, Bool.or_eq_true, not_or, decide_eq_true_iff] at hn1
          exact hn1.1 ⟨e2.1, e3⟩
    · show takenF kind (withF s.l i gone c) s.pre.length + wasteK kind s i gone ≤ P
      omega
theorem KInv.ins {kind : Int} {P : Nat} {s : KP} (h : KInv kind P s) (i : Int) {gone : Nat} (hg : gone ≤ 1) (c : PC) : KInv kind P (insKS kind P s i gone c) := by
  unfold insKS
  by_cases hz : insKZ kind P s.l i gone c = 0
  · rw [if_pos hz]
    unfold insKZ at hz
    by_cases hin : i < 0 ∨ (s.l.length : Int) - gone < i
    · rw [if_pos hin] at hz; cases hz
    · rw [if_neg hin] at hz
      exact h.put (by omega) hg hz
  · rw [if_neg hz]; exact h
theorem KInv.enc {kind : Int} {P : Nat} {s : KP} (h : KInv kind P s) : encK kind s.l P = 0 := encK_zero.2 ⟨scan_rise h.may (by simp) h.rise, h.size⟩
theorem pbody_len (kind : Int) (n : Nat) : ∀ (l : List PC) (i : Nat), 4 * l.length ≤ (pbodyF kind n i l).length + l.length
  | [], _ => by simp [pbodyF]
  | c :: r, i => by
    have := pbody_len kind n r (i + 1)
    have h3 : 3 ≤ (pcF kind i c n).length := by
      unfold pcF kvF
      have := uintF_pos (restF kind i c.key n).length
      simp only [List.length_cons, List.length_append]
      split
      · have := uintF_pos c.val.length; rw [List.length_append]; omega
      · have := uintF_pos (u64N c.page); rw [List.length_append]; omega
    simp only [pbodyF, List.length_append, List.length_cons]
    omega
theorem KInv.len {kind : Int} {P : Nat} {s : KP} (h : KInv kind P s) (hP : P ≤ 65536) : s.l.length ≤ 16384 := by
  have h1 := h.size
  have h2 := pbody_len kind (sharedF kind s.l) s.l 0
  unfold psizeF takenF at h1
  omega
theorem new_inv {kind : Int} {P : Nat} (hP : 512 ≤ P) : KInv kind P ⟨[], [], 0⟩ :=
  ⟨List.Pairwise.nil, by simp, by
    have : psizeF kind [] = 10 := by unfold psizeF takenF sharedF keysF; simp [pbodyF, comLs]
    show psizeF kind [] ≤ P
    omega, fun j hj => by simp at hj, by unfold usedP takenF; simp only [pbodyF, List.length_nil]; omega⟩
end Go.Proofs.YtfcnkpofcekmgaaGreat

-- sort.Search; packed.Page's within, Find: walks.
namespace Go.Proofs.YtfcnkpofcekmgaaGreat
open Go.RowKit
/-- A packed page that is worked on, at p, as it is read. -/
structure KAt (w : World) (p : Nat) (kind : Int) (P : Nat) (u pv : Value) (used waste : Nat) (l : List CV) : Prop where
  blk : OBlk w p 150 [.int .i64 kind, .int .i64 (P : Int), u, pv, .int .i64 (used : Int), .int .i64 (waste : Int)]
  rd : RdCs w u l
theorem cells6 {w : World} {g : Nat} {T : TypeId} {a0 a1 a2 a3 a4 a5 : Value} (h : OBlk w g T [a0, a1, a2, a3, a4, a5]) :
    w.cell? ⟨g, 0, none⟩ = some a0 ∧ w.cell? ⟨g, 1, none⟩ = some a1 ∧ w.cell? ⟨g, 2, none⟩ = some a2 ∧ w.cell? ⟨g, 3, none⟩ = some a3 ∧ w.cell? ⟨g, 4, none⟩ = some a4 ∧ w.cell? ⟨g, 5, none⟩ = some a5 :=
  ⟨h.cell 0, h.cell 1, h.cell 2, h.cell 3, h.cell 4, h.cell 5⟩
theorem KAt.below {w w' : World} {p : Nat} {kind : Int} {P : Nat} {u pv : Value} {used waste : Nat} {l : List CV} (h : KAt w p kind P u pv used waste l) (hb : Below w.heap.size w w') : KAt w' p kind P u pv used waste l :=
  ⟨h.blk.below hb h.blk.lt, h.rd.below hb⟩
theorem RdCs.key_at' {w : World} {A : Option Addr} {m c i : Nat} {l : List CV} (h : RdCs w (.slice A m c) l) (hi : i < l.length) :
    ∃ ad B b, A = some ad ∧ w.cell? (ad.add (i * 5)) = some (.slice B l[i].c.key.length b) ∧ RdB w (.slice B l[i].c.key.length b) l[i].c.key := by
  obtain ⟨ad, rfl, c0, -⟩ := h.at_ hi
  have hx := (h.ok _ (List.getElem_mem hi)).k
  obtain ⟨B, b, he, -⟩ := hx.form
  rw [he] at hx c0
  exact ⟨ad, B, b, rfl, c0, hx⟩
theorem Compare_q (u v : Value) (a b : List UInt8) (w : World) (hu : RdB w u a) (hv : RdB w v b) :
    Calls Tryz.prog 130 #[u, v] w fun e w' => e = .returned (.int .i64 (ordC a b)) ∧ w' = w := (Compare_any u v a b w hu hv).mono fun _ _ h => ⟨h.1, h.2.symm⟩
theorem Equal_q (u v : Value) (a b : List UInt8) (w : World) (hu : RdB w u a) (hv : RdB w v b) :
    Calls Tryz.prog 134 #[u, v] w fun e w' => e = .returned (.bool (a == b)) ∧ w' = w := (Equal_any u v a b w hu hv).mono fun _ _ h => ⟨h.1, h.2.symm⟩
set_option maxRecDepth 20000 in
set_option maxHeartbeats 1000000 in
theorem Search_any (bp bl bk n : Nat) (p : Nat → Bool) (w : World) (hsz : n < 4611686018427387904)
    (hf : ∀ m i, i < n → Calls Tryz.prog 232 #[.int .i64 (i : Int), .pointer (some ⟨bp, 0, none⟩), .pointer (some ⟨bl, 0, none⟩), .pointer (some ⟨bk, 0, none⟩)] (w.drewN m) fun e w' => e = .returned (.bool (p i)) ∧ ∃ q, w' = (w.drewN m).drewN q)
    (hmono : ∀ a b, a ≤ b → b < n → p a = true → p b = true) :
    Calls Tryz.prog 231 #[.int .i64 (n : Int), .func (.func 232) #[] #[.pointer (some ⟨bp, 0, none⟩), .pointer (some ⟨bl, 0, none⟩), .pointer (some ⟨bk, 0, none⟩)]] w fun e w' =>
      ∃ k : Nat, e = .returned (.int .i64 (k : Int)) ∧ k ≤ n ∧ (∀ t, t < k → p t = false) ∧ (∀ t, k ≤ t → t < n → p t = true) ∧ ∃ q, w' = w.drewN q := by
  have HF := Lib.hid hf
  have M := Lib.hid hmono
  clear hf hmono
  go_enter Tryz.func231, Tryz.ntmps231
  go_wp2
  go_loopw [5, 6] (fun s5 s6 wr => ∃ (lo hi q : Nat), s5 = .int .i64 (lo : Int) ∧ s6 = .int .i64 (hi : Int) ∧ lo ≤ hi ∧ hi ≤ n ∧ wr = w.drewN q ∧ Hid ((∀ t, t < lo → p t = false) ∧ (∀ t, hi ≤ t → t < n → p t = true))) (fun s5 s6 _ => (intOf s6).toNat - (intOf s5).toNat)
  case atStart => exact ⟨0, n, 0, rfl, rfl, Nat.zero_le _, Nat.le_refl _, rfl, Lib.hid ⟨fun t ht => absurd ht (Nat.not_lt_zero _), fun t h1 h2 => by omega⟩⟩
  case round =>
    obtain ⟨lo, hi, q, rfl, rfl, hlh, hin, rfl, I⟩ := hrel
    by_cases hlt : lo < hi
    · have hc := HF.out q ((lo + hi) / 2) (by omega)
      rw [show (((lo + hi) / 2 : Nat) : Int) = ((lo : Int) + (hi : Int)) / 2 by omega] at hc
      cases hp : p ((lo + hi) / 2) <;> rw [hp] at hc
      · have HP := Lib.hid hp
        clear hp
        go_wp2_with (first | (go_at_call 232; refine hc.mono ?_; rintro e w' ⟨rfl, nq, rfl⟩) | fail)
        go_roundw
        case rel => exact ⟨(lo + hi) / 2 + 1, hi, q + nq, by rw [show ((lo : Int) + (hi : Int)) / 2 + 1 = (((lo + hi) / 2 + 1 : Nat) : Int) by omega], rfl, by omega, hin, rfl, Lib.hid ⟨fun t ht => (by
            cases h : p t with
            | false => rfl
            | true => have := M.out t ((lo + hi) / 2) (by omega) (by omega) h; rw [HP.out] at this; cases this), I.out.2⟩⟩
        case measure => simp [intOf]; omega
      · have HP := Lib.hid hp
        clear hp
        go_wp2_with (first | (go_at_call 232; refine hc.mono ?_; rintro e w' ⟨rfl, nq, rfl⟩) | fail)
        go_roundw
        case rel => exact ⟨lo, (lo + hi) / 2, q + nq, rfl, by rw [show ((lo : Int) + (hi : Int)) / 2 = (((lo + hi) / 2 : Nat) : Int) by omega], by omega, by omega, rfl, Lib.hid ⟨I.out.1, fun t ht htn => M.out ((lo + hi) / 2) t ht htn HP.out⟩⟩
        case measure => simp [intOf]; omega
    · obtain rfl : hi = lo := by omega
      go_wp2
      go_ret
      exact ⟨hi, rfl, hin, I.out.1, I.out.2, q, rfl⟩
section
variable {w : World} {p : Nat} {kind : Int} {P : Nat} {u pv : Value} {used waste : Nat} {l : List CV}
set_option maxRecDepth 20000 in
set_option maxHeartbeats 1000000 in
theorem Kw1_any (h : KAt w p kind P u pv used waste l) (vk : Value) (key : List UInt8) (hk : RdB w vk key) (bp bl bk lo i : Nat) (hp : w.cell? ⟨bp, 0, none⟩ = some (.pointer (some ⟨p, 0, none⟩))) (hl : w.cell? ⟨bl, 0, none⟩ = some (.int .i64 (lo : Int))) (hkc : w.cell? ⟨bk, 0, none⟩ = some vk) (hi : lo + i < l.length) :
    Calls Tryz.prog 232 #[.int .i64 (i : Int), .pointer (some ⟨bp, 0, none⟩), .pointer (some ⟨bl, 0, none⟩), .pointer (some ⟨bk, 0, none⟩)] w fun e w' => e = .returned (.bool (decide (0 ≤ ordC l[lo + i].c.key key))) ∧ ∃ q, w' = w.drewN q := by
  obtain ⟨A, c, rfl, hm, hc⟩ := h.rd.slice
  obtain ⟨K, kc, rfl, hkm⟩ := hk.form
  obtain ⟨b0, b1, b2, b3, b4, b5⟩ := cells6 h.blk
  obtain ⟨ad, B, b, rfl, q0, hkr⟩ := h.rd.key_at' hi
  have hcmp := fun m => Compare_q _ _ _ _ (w.drewN m) (show RdB (w.drewN m) _ _ from hkr) (show RdB (w.drewN m) _ _ from hk)
  generalize ordC l[lo + i].c.key key = oc at *
  generalize l[lo + i].c.key = lk at *
  have e1 : IntKind.i64.wrap ((lo : Int) + (i : Int)) = (lo : Int) + (i : Int) := by rw [IntKind.wrap_i64]; omega
  have e2 : (0 : Int) ≤ (lo : Int) + (i : Int) := by omega
  have e3 : (lo : Int) + (i : Int) < (l.length : Int) := by omega
  have e4 : ((lo : Int) + (i : Int)).toNat = lo + i := by omega
  go_enter Tryz.func232, Tryz.ntmps232
  go_upto_region 1 with (fail)
  go_quiet ((go_at_call 130; exact Calls.quiet_of_same (hcmp _)))
  go_wp2_with fail
  go_ret
  exact ⟨rfl, _, rfl⟩
end
set_option maxRecDepth 100000 in
set_option maxHeartbeats 2000000 in
theorem Kwithin_any {w : World} {p : Nat} {kind : Int} {P : Nat} {u pv : Value} {used waste : Nat} {l : List CV} (h : KAt w p kind P u pv used waste l) (hr : Rising (pcs l)) (hn : l.length < 4611686018427387904) (vk : Value) (key : List UInt8) (hk : RdB w vk key) (lo hi : Nat) (hlo : lo ≤ findF key (pcs l)) (hhi : findF key (pcs l) ≤ hi) (hl : hi ≤ l.length) :
    Calls Tryz.prog 226 #[.pointer (some ⟨p, 0, none⟩), vk, .int .i64 (lo : Int), .int .i64 (hi : Int)] w fun e w' => e = .returned (.tuple #[.int .i64 (findF key (pcs l) : Nat), .bool (isF key (pcs l))]) ∧ Below w.heap.size w w' := by
  obtain ⟨A, c, rfl, hm, hc⟩ := h.rd.slice
  obtain ⟨K, kc, rfl, hkm⟩ := hk.form
  have hA : Below w.heap.size w (((w.alloc (.cells #[.pointer (some ⟨p, 0, none⟩)] 111)).alloc (.cells #[.slice K key.length kc] 41)).alloc (.cells #[.int .i64 (lo : Int)] 3)) :=
    (((Below.refl _ _).alloc (Nat.le_refl _) _).alloc (by simp) _).alloc (by simp; omega) _
  have hO1 : OBlk (((w.alloc (.cells #[.pointer (some ⟨p, 0, none⟩)] 111)).alloc (.cells #[.slice K key.length kc] 41)).alloc (.cells #[.int .i64 (lo : Int)] 3)) w.heap.size 111 [.pointer (some ⟨p, 0, none⟩)] := ((OBlk.new' w _ [.pointer (some ⟨p, 0, none⟩)]).alloc _).alloc _
  have hO2 : OBlk (((w.alloc (.cells #[.pointer (some ⟨p, 0, none⟩)] 111)).alloc (.cells #[.slice K key.length kc] 41)).alloc (.cells #[.int .i64 (lo : Int)] 3)) (w.heap.size + 1) 41 [.slice K key.length kc] := by
    have := (OBlk.new' (w.alloc (.cells #[.pointer (some ⟨p, 0, none⟩)] 111)) 41 [.slice K key.length kc]).alloc (.cells #[.int .i64 (lo : Int)] 3)
    rw [World.size_alloc] at this; exact this
  have hO3 : OBlk (((w.alloc (.cells #[.pointer (some ⟨p, 0, none⟩)] 111)).alloc (.cells #[.slice K key.length kc] 41)).alloc (.cells #[.int .i64 (lo : Int)] 3)) (w.heap.size + 1 + 1) 3 [.int .i64 (lo : Int)] := by
    have := OBlk.new' ((w.alloc (.cells #[.pointer (some ⟨p, 0, none⟩)] 111)).alloc (.cells #[.slice K key.length kc] 41)) 3 [.int .i64 (lo : Int)]
    rw [World.size_alloc, World.size_alloc] at this; exact this
  have hK := h.below hA
  have hkk := hk.below hA (Nat.le_refl _)
  have hle := findF_le key (pcs l)
  have hJ := fun j (hj : j < l.length) (e : j < findF key (pcs l)) => find_lt (key := key) (show j < (pcs l).length by rw [pcs_length]; exact hj) e
  have hG := fun j (hj : j < l.length) (e : findF key (pcs l) ≤ j) => find_ge (key := key) hr (show j < (pcs l).length by rw [pcs_length]; exact hj) e
  have hisL := fun hh => isF_lt (key := key) (l := pcs l) hh
  have hisG := fun hh => isF_ge (key := key) (l := pcs l) hh
  rw [pcs_length] at hle
  generalize findF key (pcs l) = F at *
  have HL := Lib.hid hisL
  have HG := Lib.hid hisG
  clear hisL hisG h hk
  have hmf : ∀ (fn : Fn) (first cap : Array Value) (w : World), (Instr.makeFunc fn first cap).run Tryz.prog w = .ok (.func fn first cap) w := fun _ _ _ _ => rfl
  go_enter Tryz.func226, Tryz.ntmps226
  go_upto_region 1 with (fail)
  generalize (((w.alloc (.cells #[.pointer (some ⟨p, 0, none⟩)] 111)).alloc (.cells #[.slice K key.length kc] 41)).alloc (.cells #[.int .i64 (lo : Int)] 3)) = w1 at *
  have a1 : w1.cell? ⟨w.heap.size, 0, none⟩ = some (.pointer (some ⟨p, 0, none⟩)) := hO1.cell' (j := 0) rfl
  have a2 : w1.cell? ⟨w.heap.size + 1, 0, none⟩ = some (.slice K key.length kc) := hO2.cell' (j := 0) rfl
  have a3 : w1.cell? ⟨w.heap.size + 1 + 1, 0, none⟩ = some (.int .i64 (lo : Int)) := hO3.cell' (j := 0) rfl
  have hS : ∀ m, Calls Tryz.prog 231 #[.int .i64 ((hi : Int) - (lo : Int)), .func (.func 232) #[] #[.pointer (some ⟨w.heap.size, 0, none⟩), .pointer (some ⟨w.heap.size + 1 + 1, 0, none⟩), .pointer (some ⟨w.heap.size + 1, 0, none⟩)]] (w1.drewN m) fun e w' => e = .returned (.int .i64 (((F - lo : Nat)) : Int)) ∧ ∃ q, w' = (w1.drewN m).drewN q := fun m => by
    have h := Search_any w.heap.size (w.heap.size + 1 + 1) (w.heap.size + 1) (hi - lo) (fun i => decide (F ≤ lo + i)) (w1.drewN m) (by omega) (fun q i hi' => by
      have hb := below_drewN (below_drewN (Below.refl w1.heap.size w1) m) q
      have hc := Kw1_any (hK.below hb) (.slice K key.length kc) key (hkk.below hb (Nat.le_refl _)) w.heap.size (w.heap.size + 1 + 1) (w.heap.size + 1) lo i a1 a3 a2 (by omega)
      have e : decide (0 ≤ ordC l[lo + i].c.key key) = decide (F ≤ lo + i) := by
        refine decide_eq_decide.2 ⟨fun h1 => Nat.le_of_not_lt fun h2 => ?_, fun h1 => ?_⟩
        · have := hJ (lo + i) (by omega) h2
          rw [pcs_at (by omega)] at this
          omega
        · have := hG (lo + i) (by omega) h1
          rw [pcs_at (by omega)] at this
          omega
      rw [e] at hc
      exact hc) (fun a b hab hb h => by simp only [decide_eq_true_iff] at h ⊢; omega)
    rw [show (((hi - lo : Nat)) : Int) = (hi : Int) - (lo : Int) by omega] at h
    refine h.mono ?_
    rintro e w' ⟨k, rfl, hk, h1, h2, q, rfl⟩
    have : k = F - lo := by
      rcases Nat.lt_trichotomy k (F - lo) with h3 | h3 | h3
      · have := h2 k (Nat.le_refl _) (by omega)
        simp only [decide_eq_true_iff] at this
        omega
      · exact h3
      · have := h1 (F - lo) h3
        simp only [decide_eq_false_iff_not] at this
        omega
    subst this
    exact ⟨rfl, q, rfl⟩
  have e1 : IntKind.i64.wrap ((hi : Int) - (lo : Int)) = (hi : Int) - (lo : Int) := by rw [IntKind.wrap_i64]; omega
  have e2 : (lo : Int) + (((F - lo : Nat)) : Int) = (F : Int) := by omega
  have e3 : IntKind.i64.wrap (F : Int) = (F : Int) := by rw [IntKind.wrap_i64]; omega
  have HS := Lib.hid hS
  clear hS hO1 hO2 hO3
  go_cut [10] (fun s wx => s = .int .i64 (F : Int) ∧ ∃ q, wx = w1.drewN q)
  case first =>
    go_region_held3 (fun w' => w'.cell? ⟨w.heap.size + 1 + 1, 0, none⟩ = some (.int .i64 (lo : Int)))
      (first | exact a3)
      (first
        | (go_at_call 231; refine (HS.out 1).mono ?_; rintro e w7 ⟨rfl, q7, rfl⟩)
        | fail)
    go_wp2_with fail
    go_meet
    exact ⟨rfl, _, rfl⟩
  case rest =>
    obtain ⟨rfl, q1, rfl⟩ := hcut
    have hbq := below_drewN (Below.refl w1.heap.size w1) q1
    have hA2 := below_drewN hA q1
    have hKq := hK.below hbq
    have hkq := hkk.below hbq (Nat.le_refl _)
    have a1' : (w1.drewN q1).cell? ⟨w.heap.size, 0, none⟩ = some (.pointer (some ⟨p, 0, none⟩)) := a1
    have a2' : (w1.drewN q1).cell? ⟨w.heap.size + 1, 0, none⟩ = some (.slice K key.length kc) := a2
    obtain ⟨b0, b1, b2, b3, b4, b5⟩ := cells6 hKq.blk
    clear a1 a2 a3 HS hK hkk hA hbq
    generalize w1.drewN q1 = w2 at *
    by_cases hlt : F < l.length
    · obtain ⟨ad, B, b, rfl, q0, hkr⟩ := hKq.rd.key_at' hlt
      have heq := fun m => Equal_q _ _ _ _ (w2.drewN m) (show RdB (w2.drewN m) _ _ from hkr) (show RdB (w2.drewN m) _ _ from hkq)
      have hfin := HL.out (by rw [pcs_length]; exact hlt)
      simp only [pcs_at hlt] at hfin
      generalize hE : (l[F].c.key == key) = E at *
      have HFIN := Lib.hid hfin
      generalize l[F].c.key = lk at *
      have i1 : (F : Int) < (l.length : Int) := by omega
      have i2 : (0 : Int) ≤ (F : Int) := by omega
      clear hfin hE HL HG hJ hG
      go_upto_region 2 with (fail)
      go_quiet ((go_at_call 134; exact Calls.quiet_of_same (heq _)))
      go_wp2_with fail
      go_ret2
      rw [HFIN.out]
      exact ⟨rfl, below_drewN hA2 _⟩
    · have hfin := HG.out (by rw [pcs_length]; exact hlt)
      have HFIN := Lib.hid hfin
      have i1 : ¬ (F : Int) < (l.length : Int) := by omega
      clear hfin HL HG hJ hG
      go_upto_region 2 with (fail)
      go_quiet (fail)
      go_wp2_with fail
      go_ret2
      rw [HFIN.out]
      exact ⟨rfl, below_drewN hA2 _⟩
set_option maxRecDepth 100000 in
set_option maxHeartbeats 2000000 in
theorem KFind_any {w : World} {p : Nat} {kind : Int} {P : Nat} {u pv : Value} {used waste : Nat} {l : List CV} (h : KAt w p kind P u pv used waste l) (hr : Rising (pcs l)) (hn : l.length < 4611686018427387904) (vk : Value) (key : List UInt8) (hk : RdB w vk key) :
    Calls Tryz.prog 218 #[.pointer (some ⟨p, 0, none⟩), vk] w fun e w' => e = .returned (.tuple #[.int .i64 (findF key (pcs l) : Nat), .bool (isF key (pcs l))]) ∧ Below w.heap.size w w' := by
  have hW := Kwithin_any h hr hn vk key hk 0 l.length (Nat.zero_le _) (by have := findF_le key (pcs l); rw [pcs_length] at this; exact this) (Nat.le_refl _)
  rw [show ((0 : Nat) : Int) = 0 from rfl] at hW
  obtain ⟨A, c, rfl, hm, hc⟩ := h.rd.slice
  obtain ⟨b0, b1, b2, b3, b4, b5⟩ := cells6 h.blk
  generalize findF key (pcs l) = F at *
  generalize isF key (pcs l) = I at *
  go_enter Tryz.func218, Tryz.ntmps218
  go_wp2_with (first | (go_at_call 226; (with_reducible refine hW.mono ?_); rintro e w1 ⟨rfl, hw1⟩) | fail)
  go_ret2
  exact ⟨rfl, hw1⟩
end Go.Proofs.YtfcnkpofcekmgaaGreat
