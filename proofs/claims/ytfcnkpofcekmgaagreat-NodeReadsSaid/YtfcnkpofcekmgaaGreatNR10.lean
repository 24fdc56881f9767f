/- Texts joined: Packed pages; Packed pages that are worked on; sort.Search; packed.Page's within, Find -/
import Derived.Test.YtfcnkpofcekmgaaGreatNR2
import Derived.Test.YtfcnkpofcekmgaaGreatNR3
import Derived.Test.YtfcnkpofcekmgaaGreatNR4
import Derived.Test.YtfcnkpofcekmgaaGreatNR5
import Derived.Test.YtfcnkpofcekmgaaGreatNR6
import Derived.Test.YtfcnkpofcekmgaaGreatNR9
import Derived.Deep.QuietTactic
import Derived.BigQuiet
-- Packed pages: what is written, how it is read: plain laws.
namespace Go.Proofs.YtfcnkpofcekmgaaGreat
def u64N (n : Int) : Nat := (n % 18446744073709551616).toNat
theorem u64N_lt (n : Int) : u64N n < 18446744073709551616 := by unfold u64N; omega
theorem u64N_of {n : Int} (h : 0 ≤ n) (h2 : n < 18446744073709551616) : u64N n = n.toNat := by unfold u64N; rw [Int.emod_eq_of_lt h h2]
def u8I (k : Int) : UInt8 := UInt8.ofNat (k % 256).toNat
def restF (kind : Int) (i : Nat) (key : List UInt8) (pre : Nat) : List UInt8 := if kind = 3 ∧ i = 0 then key else key.drop pre
def kvF (c : PC) : List UInt8 := if c.kind = 1 then uintF c.val.length ++ c.val else uintF (u64N c.page) ++ uintF (u64N c.count)
def pcF (kind : Int) (i : Nat) (c : PC) (pre : Nat) : List UInt8 := u8I c.kind :: (uintF (restF kind i c.key pre).length ++ (restF kind i c.key pre ++ kvF c))
def pbodyF (kind : Int) (pre : Nat) : Nat → List PC → List UInt8
  | _, [] => []
  | i, c :: r => pcF kind i c pre ++ pbodyF kind pre (i + 1) r
def pslotsF (kind : Int) (pre : Nat) : Nat → Nat → List PC → List UInt8
  | _, _, [] => []
  | a, i, c :: r => fixedF a 2 ++ pslotsF kind pre (a + (pcF kind i c pre).length) (i + 1) r
def takenF (kind : Int) (l : List PC) (pre : Nat) : Nat := 10 + pre + 2 * l.length + (pbodyF kind pre 0 l).length
def keysF (kind : Int) (l : List PC) : List (List UInt8) := (if kind = 3 then l.drop 1 else l).map PC.key
def sharedF (kind : Int) (l : List PC) : Nat := comLs (keysF kind l)
def psizeF (kind : Int) (l : List PC) : Nat := takenF kind l (sharedF kind l)
def encK (kind : Int) (l : List PC) (P : Nat) : Int := if scanE kind P none l ≠ 0 then scanE kind P none l else if P < psizeF kind l then 61 else 0
def prefF (kind : Int) (l : List PC) : List UInt8 := match l.getLast? with
  | none => []
  | some c => c.key.take (sharedF kind l)
def preK (kind : Int) (l : List PC) (P : Nat) : List UInt8 :=
  u8I kind :: 2 :: (fixedF l.length 2 ++ (fixedF (sharedF kind l) 2 ++ (prefF kind l ++ (pslotsF kind (sharedF kind l) (6 + sharedF kind l + 2 * l.length) 0 l ++ (pbodyF kind (sharedF kind l) 0 l ++ List.replicate (P - psizeF kind l) 0)))))
def laidK (kind : Int) (l : List PC) (P : Nat) : List UInt8 := preK kind l P ++ fixedF (sumF (preK kind l P)) 4
theorem encK_zero {kind : Int} {l : List PC} {P : Nat} : encK kind l P = 0 ↔ scanE kind P none l = 0 ∧ psizeF kind l ≤ P := by
  unfold encK
  split
  · rename_i h; exact ⟨fun e => absurd e h, fun e => absurd e.1 h⟩
  · rename_i h
    split
    · exact ⟨fun e => by omega, fun e => by omega⟩
    · exact ⟨fun _ => ⟨by simpa using h, by omega⟩, fun _ => rfl⟩
theorem pslotsF_length (kind : Int) (pre : Nat) : ∀ (a i : Nat) (l : List PC), (pslotsF kind pre a i l).length = 2 * l.length
  | _, _, [] => rfl
  | a, i, c :: r => by simp only [pslotsF, List.length_append, fixedF_length, pslotsF_length, List.length_cons]; omega
theorem pbodyF_append (kind : Int) (pre : Nat) : ∀ (i : Nat) (a b : List PC), pbodyF kind pre i (a ++ b) = pbodyF kind pre i a ++ pbodyF kind pre (i + a.length) b
  | i, [], b => rfl
  | i, c :: r, b => by
    simp only [List.cons_append, pbodyF, pbodyF_append kind pre (i + 1) r b, List.append_assoc, List.length_cons]
    rw [show i + 1 + r.length = i + (r.length + 1) by omega]
theorem pslotsF_append (kind : Int) (pre : Nat) : ∀ (a i : Nat) (x y : List PC), pslotsF kind pre a i (x ++ y) = pslotsF kind pre a i x ++ pslotsF kind pre (a + (pbodyF kind pre i x).length) (i + x.length) y
  | a, i, [], y => rfl
  | a, i, c :: r, y => by
    simp only [List.cons_append, pslotsF, pslotsF_append kind pre _ (i + 1) r y, List.append_assoc, List.length_cons, pbodyF, List.length_append]
    rw [show i + 1 + r.length = i + (r.length + 1) by omega, show a + (pcF kind i c pre).length + (pbodyF kind pre (i + 1) r).length = a + ((pcF kind i c pre).length + (pbodyF kind pre (i + 1) r).length) by omega]
/-! ### what keys share -/
theorem comLs_cons (t : List UInt8) (r : List (List UInt8)) : comLs (t :: r) ≤ t.length ∧ ∀ x ∈ r, comLs (t :: r) ≤ comF t x := by
  show r.foldl (fun n x => min n (comF t x)) t.length ≤ t.length ∧ _
  have key : ∀ (r : List (List UInt8)) (m : Nat), r.foldl (fun n x => min n (comF t x)) m ≤ m ∧ ∀ x ∈ r, r.foldl (fun n x => min n (comF t x)) m ≤ comF t x := by
    intro r
    induction r with
    | nil => intro m; exact ⟨Nat.le_refl _, by simp⟩
    | cons y s ih =>
      intro m
      have h := ih (min m (comF t y))
      refine ⟨Nat.le_trans h.1 (Nat.min_le_left _ _), fun x hx => ?_⟩
      rcases List.mem_cons.1 hx with rfl | hx
      · exact Nat.le_trans h.1 (Nat.min_le_right _ _)
      · exact h.2 x hx
  exact ⟨(key r t.length).1, fun x hx => (key r t.length).2 x hx⟩
/-- All keys begin alike, and are that long. -/
theorem comLs_take {ks : List (List UInt8)} {x y : List UInt8} (hx : x ∈ ks) (hy : y ∈ ks) : comLs ks ≤ x.length ∧ x.take (comLs ks) = y.take (comLs ks) := by
  cases ks with
  | nil => cases hx
  | cons t r =>
    obtain ⟨h1, h2⟩ := comLs_cons t r
    have key : ∀ z ∈ t :: r, comLs (t :: r) ≤ z.length ∧ z.take (comLs (t :: r)) = t.take (comLs (t :: r)) := fun z hz => by
      rcases List.mem_cons.1 hz with rfl | hz
      · exact ⟨h1, rfl⟩
      · have h3 := h2 z hz
        have h4 := comF_le t z
        refine ⟨by omega, ?_⟩
        have e := comF_take t z
        have e2 := congrArg (List.take (comLs (t :: r))) e
        rw [List.take_take, List.take_take, Nat.min_eq_left h3] at e2
        exact e2.symm
    exact ⟨(key x hx).1, (key x hx).2.trans (key y hy).2.symm⟩
/-- A cell's key is the prefix, and its rest. -/
theorem key_split {kind : Int} {l : List PC} {i : Nat} (hi : i < l.length) (hn : ¬ (kind = 3 ∧ i = 0)) :
    sharedF kind l ≤ l[i].key.length ∧ l[i].key = prefF kind l ++ l[i].key.drop (sharedF kind l) ∧ (prefF kind l).length = sharedF kind l := by
  have hmem : ∀ j (hj : j < l.length), ¬ (kind = 3 ∧ j = 0) → l[j].key ∈ keysF kind l := fun j hj hnj => by
    unfold keysF
    refine List.mem_map_of_mem ?_
    by_cases hk : kind = 3
    · rw [if_pos hk]
      have : l[j] = (l.drop 1)[j - 1]'(by simp; omega) := by simp only [List.getElem_drop]; congr 1; omega
      rw [this]; exact List.getElem_mem _
    · rw [if_neg hk]; exact List.getElem_mem _
  have hlast : l.getLast? = some (l[l.length - 1]'(by omega)) := by rw [List.getLast?_eq_getElem?, List.getElem?_eq_getElem (by omega)]
  have hp : prefF kind l = (l[l.length - 1]'(by omega)).key.take (sharedF kind l) := by unfold prefF; rw [hlast]
  have hm1 := hmem i hi hn
  have hm2 := hmem (l.length - 1) (by omega) (fun h => hn ⟨h.1, by omega⟩)
  have h1 := comLs_take hm1 hm2
  have h2 := comLs_take hm2 hm1
  refine ⟨h1.1, ?_, ?_⟩
  · rw [hp]
    have : (l[l.length - 1]'(by omega)).key.take (sharedF kind l) = l[i].key.take (sharedF kind l) := h2.2
    rw [this, List.take_append_drop]
  · rw [hp, List.length_take]
    exact Nat.min_eq_left h2.1
theorem prefF_length_le (kind : Int) (l : List PC) : (prefF kind l).length ≤ sharedF kind l := by
  unfold prefF
  split
  · simp
  · rw [List.length_take]; omega
theorem sharedF_pos {kind : Int} {l : List PC} (h : 0 < sharedF kind l) : ∃ i, ∃ _hi : i < l.length, ¬ (kind = 3 ∧ i = 0) := by
  unfold sharedF keysF at h
  by_cases hk : kind = 3
  · rw [if_pos hk] at h
    refine ⟨1, ?_, by omega⟩
    rcases Nat.lt_or_ge 1 l.length with h1 | h1
    · exact h1
    · rw [List.drop_of_length_le h1] at h; simp [comLs] at h
  · refine ⟨0, ?_, by omega⟩
    rcases Nat.eq_zero_or_pos l.length with h1 | h1
    · rw [if_neg hk, List.eq_nil_of_length_eq_zero h1] at h; simp [comLs] at h
    · exact h1
theorem prefF_length (kind : Int) (l : List PC) : (prefF kind l).length = sharedF kind l := by
  rcases Nat.eq_zero_or_pos (sharedF kind l) with h | h
  · have := prefF_length_le kind l; omega
  · obtain ⟨i, hi, hn⟩ := sharedF_pos h
    exact (key_split hi hn).2.2
/-! ### lengths -/
theorem preK_length {kind : Int} {l : List PC} {P : Nat} (h : psizeF kind l ≤ P) : (preK kind l P).length = P - 4 := by
  have e : psizeF kind l = 10 + sharedF kind l + 2 * l.length + (pbodyF kind (sharedF kind l) 0 l).length := rfl
  unfold preK
  simp only [List.length_cons, List.length_append, fixedF_length, prefF_length, pslotsF_length, List.length_replicate]
  omega
theorem laidK_length {kind : Int} {l : List PC} {P : Nat} (h : psizeF kind l ≤ P) : (laidK kind l P).length = P := by
  have e : psizeF kind l = 10 + sharedF kind l + 2 * l.length + (pbodyF kind (sharedF kind l) 0 l).length := rfl
  unfold laidK
  rw [List.length_append, preK_length h, fixedF_length]; omega
/-! ### how a page is read -/
def readK (d : List UInt8) (kind : Int) (i : Nat) (pre : List UInt8) (at_ : Nat) : Option (PC × Nat) :=
  if d.length ≤ at_ then none else
  if (ruF 0 0 (d.drop (at_ + 1))).2.2 ≠ 0 then none else
  if d.length < at_ + 1 + (ruF 0 0 (d.drop (at_ + 1))).2.1 + (ruF 0 0 (d.drop (at_ + 1))).1 then none else
  readT d ((if kind = 3 ∧ i = 0 then [] else pre) ++ (d.drop (at_ + 1 + (ruF 0 0 (d.drop (at_ + 1))).2.1)).take (ruF 0 0 (d.drop (at_ + 1))).1) ((d.getD at_ 0).toNat : Int) (at_ + 1 + (ruF 0 0 (d.drop (at_ + 1))).2.1 + (ruF 0 0 (d.drop (at_ + 1))).1)
where
  readT (d key : List UInt8) (kb : Int) (t : Nat) : Option (PC × Nat) :=
    if (ruF 0 0 (d.drop t)).2.2 ≠ 0 then none else
    if kb = 1 then
      if d.length < t + (ruF 0 0 (d.drop t)).2.1 + (ruF 0 0 (d.drop t)).1 then none
      else some (⟨key, kb, (d.drop (t + (ruF 0 0 (d.drop t)).2.1)).take (ruF 0 0 (d.drop t)).1, 0, 0⟩, t + (ruF 0 0 (d.drop t)).2.1 + (ruF 0 0 (d.drop t)).1)
    else readN d key kb (ruF 0 0 (d.drop t)).1 (t + (ruF 0 0 (d.drop t)).2.1)
  readN (d key : List UInt8) (kb : Int) (pg t : Nat) : Option (PC × Nat) :=
    if 2147483648 < pg then none else
    if (ruF 0 0 (d.drop t)).2.2 ≠ 0 then none else
    if 2147483648 < (ruF 0 0 (d.drop t)).1 then none
    else some (⟨key, kb, [], pg, ((ruF 0 0 (d.drop t)).1 : Nat)⟩, t + (ruF 0 0 (d.drop t)).2.1)
def cellsK (b d : List UInt8) (kind : Int) (pre : List UInt8) : Nat → Nat → Nat → Option (List PC)
  | _, _, 0 => some []
  | i, a, m + 1 => if numAt b (6 + pre.length + 2 * i) 2 ≠ a then none else match readK d kind i pre a with
    | none => none
    | some (c, t) => (cellsK b d kind pre (i + 1) t m).map (c :: ·)
def preP (b : List UInt8) : List UInt8 := (b.drop 6).take (numAt b 4 2)
def parseK (b : List UInt8) : Option (List PC) :=
  if b.length - 4 < 6 + numAt b 4 2 + 2 * numAt b 2 2 then none
  else cellsK b (b.take (b.length - 4)) (kindF b) (preP b) 0 (6 + numAt b 4 2 + 2 * numAt b 2 2) (numAt b 2 2)
theorem ruF_mid {d pre rest : List UInt8} {n t : Nat} (hd : d = pre ++ (uintF n ++ rest)) (ht : pre.length = t) (hn : n < 18446744073709551616) : ruF 0 0 (d.drop t) = (n, (uintF n).length, 0) := by
  subst hd ht
  rw [List.drop_left]
  have := ruF_uintF 0 n 0 rest (by simpa using hn) (.inl rfl) (by omega)
  simpa using this
theorem readN_mid {P : Nat} {d pre rest key : List UInt8} {c : PC} {t : Nat} (hc : OkC P c) (h1 : c.kind ≠ 1) (hd : d = pre ++ (uintF (u64N c.count) ++ rest)) (ht : pre.length = t) (hk : key = c.key) :
    readK.readN d key c.kind (u64N c.page) t = some (c, t + (uintF (u64N c.count)).length) := by
  obtain ⟨hv, hp0, hp1, hc0, hc1⟩ := hc.v1 h1
  have e1 : u64N c.page = c.page.toNat := u64N_of hp0 (by omega)
  have e2 : u64N c.count = c.count.toNat := u64N_of hc0 (by omega)
  have hr := ruF_mid hd ht (u64N_lt _)
  unfold readK.readN
  rw [hr]
  simp only
  rw [if_neg (by omega), if_neg (by simp), if_neg (by omega), e1, e2, hk]
  obtain ⟨key, kind, val, page, count⟩ := c
  simp only at hv hp0 hc0 ⊢
  subst hv
  rw [show ((page.toNat : Nat) : Int) = page by omega, show ((count.toNat : Nat) : Int) = count by omega]
theorem readT_mid {P : Nat} {d pre rest key : List UInt8} {c : PC} {t : Nat} (hc : OkC P c) (hP : P ≤ 65536) (hd : d = pre ++ (kvF c ++ rest)) (ht : pre.length = t) (hk : key = c.key) :
    readK.readT d key c.kind t = some (c, t + (kvF c).length) := by
  unfold readK.readT
  by_cases h1 : c.kind = 1
  · obtain ⟨hv, hp0, hc0⟩ := hc.v0 h1
    have e : kvF c = uintF c.val.length ++ c.val := by unfold kvF; rw [if_pos h1]
    rw [e] at hd ⊢
    have hr := ruF_mid (d := d) (n := c.val.length) (rest := c.val ++ rest) (by rw [hd, List.append_assoc]) ht (by omega)
    rw [hr]
    simp only
    have hl : t + (uintF c.val.length).length + c.val.length ≤ d.length := by rw [hd]; simp; omega
    rw [if_neg (by simp), if_pos h1, if_neg (by omega)]
    have e2 : (d.drop (t + (uintF c.val.length).length)).take c.val.length = c.val := by
      refine take_mid (pre := pre ++ uintF c.val.length) (rest := rest) (by rw [hd]; simp) (by simp [ht]) rfl
    rw [e2, hk]
    obtain ⟨key, kind, val, page, count⟩ := c
    simp only at hp0 hc0 h1 ⊢
    subst hp0 hc0 h1
    simp; omega
  · have e : kvF c = uintF (u64N c.page) ++ uintF (u64N c.count) := by unfold kvF; rw [if_neg h1]
    rw [e] at hd ⊢
    have hr := ruF_mid (d := d) (n := u64N c.page) (rest := uintF (u64N c.count) ++ rest) (by rw [hd, List.append_assoc]) ht (u64N_lt _)
    rw [hr]
    simp only
    rw [if_neg (by simp), if_neg h1, readN_mid (pre := pre ++ uintF (u64N c.page)) (rest := rest) hc h1 (by rw [hd]; simp) (by simp [ht]) hk]
    simp; omega
/-- A cell that stands there is read. -/
theorem readK_mid {P : Nat} {d pr rest pre : List UInt8} {kind : Int} {i : Nat} {c : PC} {at_ s : Nat} (hc : OkC P c) (hP : P ≤ 65536) (hd : d = pr ++ (pcF kind i c s ++ rest)) (ha : pr.length = at_)
    (hk : c.key = (if kind = 3 ∧ i = 0 then [] else pre) ++ restF kind i c.key s) : readK d kind i pre at_ = some (c, at_ + (pcF kind i c s).length) := by
  have hrl : (restF kind i c.key s).length ≤ c.key.length := by unfold restF; split <;> simp
  have hk0 := hc.k0
  have hkd := hc.kd
  generalize hr : restF kind i c.key s = r at *
  have hp : pcF kind i c s = u8I c.kind :: (uintF r.length ++ (r ++ kvF c)) := by unfold pcF; rw [hr]
  rw [hp] at hd ⊢
  have h1 := ruF_mid (d := d) (pre := pr ++ [u8I c.kind]) (n := r.length) (t := at_ + 1) (rest := r ++ (kvF c ++ rest)) (by rw [hd]; simp) (by simp [ha]) (by omega)
  have hl : at_ + 1 + (uintF r.length).length + r.length + (kvF c).length ≤ d.length := by rw [hd]; simp; omega
  have hu := uintF_pos r.length
  have e2 : (d.drop (at_ + 1 + (uintF r.length).length)).take r.length = r := by
    refine take_mid (pre := pr ++ (u8I c.kind :: uintF r.length)) (rest := kvF c ++ rest) (by rw [hd]; simp) (by simp [ha]; omega) rfl
  have e3 : ((d.getD at_ 0).toNat : Int) = c.kind := by
    have : d.getD at_ 0 = u8I c.kind := by rw [hd, List.getD, ← ha]; simp
    rw [this]
    unfold u8I
    rw [UInt8.toNat_ofNat']; omega
  unfold readK
  rw [h1]
  simp only
  rw [if_neg (by omega), if_neg (by simp), if_neg (by omega), e2, e3, ← hk, readT_mid (pre := pr ++ (u8I c.kind :: (uintF r.length ++ r))) (rest := rest) hc hP (by rw [hd]; simp) (by simp [ha]; omega) rfl]
  simp; omega
theorem cellsK_mid {P : Nat} {b d : List UInt8} {kind : Int} {pre : List UInt8} {s : Nat} (hP : P ≤ 65536) (hs : pre.length = s) : ∀ (l : List PC) (i a : Nat) (pr rest spr srest : List UInt8), (∀ c ∈ l, OkC P c) →
    d = pr ++ (pbodyF kind s i l ++ rest) → pr.length = a → b = spr ++ (pslotsF kind s a i l ++ srest) → spr.length = 6 + s + 2 * i → d.length ≤ 65536 →
    (∀ (j : Nat) (hj : j < l.length), l[j].key = (if kind = 3 ∧ i + j = 0 then [] else pre) ++ restF kind (i + j) l[j].key s) → cellsK b d kind pre i a l.length = some l
  | [], _, _, _, _, _, _, _, _, _, _, _, _, _ => rfl
  | c :: r, i, a, pr, rest, spr, srest, hl, hd, ha, hb, hsp, hdl, hk => by
    have e0 : numAt b (6 + pre.length + 2 * i) 2 = a := by
      refine numAt_mid (pre := spr) (rest := pslotsF kind s (a + (pcF kind i c s).length) (i + 1) r ++ srest) (by rw [hb]; simp [pslotsF]) (by rw [hs]; exact hsp) ?_
      show a < 65536
      have : a + (pcF kind i c s).length ≤ d.length := by rw [hd]; simp [pbodyF]; omega
      have : 0 < (pcF kind i c s).length := by simp [pcF]
      omega
    have e1 := readK_mid (d := d) (pr := pr) (rest := pbodyF kind s (i + 1) r ++ rest) (pre := pre) (at_ := a) (i := i) (kind := kind) (s := s) (hl c (by simp)) hP (by rw [hd]; simp [pbodyF]) ha (by have := hk 0 (by simp); simpa using this)
    have e2 := cellsK_mid (b := b) (d := d) (kind := kind) (pre := pre) hP hs r (i + 1) (a + (pcF kind i c s).length) (pr ++ pcF kind i c s) rest (spr ++ fixedF a 2) srest (fun x hx => hl x (by simp [hx]))
      (by rw [hd]; simp [pbodyF]) (by simp [ha]) (by rw [hb]; simp [pslotsF]) (by simp [hsp, fixedF_length]; omega) hdl (fun j hj => by
        have := hk (j + 1) (by simpa using hj)
        simp only [List.getElem_cons_succ] at this
        rw [show i + 1 + j = i + (j + 1) by omega]; exact this)
    rw [List.length_cons, cellsK, if_neg (by simp [e0]), e1]
    show (cellsK b d kind pre (i + 1) (a + (pcF kind i c s).length) r.length).map (c :: ·) = _
    rw [e2]; rfl
/-- What Encode writes is read. -/
theorem parse_laidK {kind : Int} {l : List PC} {P : Nat} (hP : P ≤ 65536) (hk : isKindB kind = true) (h : encK kind l P = 0) :
    parseK (laidK kind l P) = some l ∧ kindF (laidK kind l P) = kind ∧ (laidK kind l P).getD 1 0 = 2 := by
  obtain ⟨h1, h2⟩ := encK_zero.1 h
  have hok : ∀ c ∈ l, OkC P c := fun c hc => may_ok (scan_may h1 c hc)
  have hz : psizeF kind l = 10 + sharedF kind l + 2 * l.length + (pbodyF kind (sharedF kind l) 0 l).length := rfl
  have hL := laidK_length (kind := kind) h2
  have hkd : kind = 2 ∨ kind = 3 := of_decide_eq_true hk
  have hB : laidK kind l P = (u8I kind :: 2 :: (fixedF l.length 2 ++ (fixedF (sharedF kind l) 2 ++ (prefF kind l ++ (pslotsF kind (sharedF kind l) (6 + sharedF kind l + 2 * l.length) 0 l ++ (pbodyF kind (sharedF kind l) 0 l ++ List.replicate (P - psizeF kind l) 0)))))) ++ fixedF (sumF (preK kind l P)) 4 := rfl
  have hT : (laidK kind l P).take ((laidK kind l P).length - 4) = preK kind l P := by
    rw [hL]
    show (preK kind l P ++ _).take _ = _
    rw [List.take_left' (preK_length h2)]
  have e1 : numAt (laidK kind l P) 2 2 = l.length := by
    refine numAt_mid (pre := [u8I kind, 2]) (rest := (fixedF (sharedF kind l) 2 ++ (prefF kind l ++ (pslotsF kind (sharedF kind l) (6 + sharedF kind l + 2 * l.length) 0 l ++ (pbodyF kind (sharedF kind l) 0 l ++ List.replicate (P - psizeF kind l) 0)))) ++ fixedF (sumF (preK kind l P)) 4) (by rw [hB]; simp) rfl (by show _ < 65536; omega)
  have e2 : numAt (laidK kind l P) 4 2 = sharedF kind l := by
    refine numAt_mid (pre := u8I kind :: 2 :: fixedF l.length 2) (rest := (prefF kind l ++ (pslotsF kind (sharedF kind l) (6 + sharedF kind l + 2 * l.length) 0 l ++ (pbodyF kind (sharedF kind l) 0 l ++ List.replicate (P - psizeF kind l) 0))) ++ fixedF (sumF (preK kind l P)) 4) (by rw [hB]; simp) (by simp [fixedF_length]) (by show _ < 65536; omega)
  have e3 : preP (laidK kind l P) = prefF kind l := by
    unfold preP
    rw [e2]
    refine take_mid (pre := u8I kind :: 2 :: (fixedF l.length 2 ++ fixedF (sharedF kind l) 2)) (rest := (pslotsF kind (sharedF kind l) (6 + sharedF kind l + 2 * l.length) 0 l ++ (pbodyF kind (sharedF kind l) 0 l ++ List.replicate (P - psizeF kind l) 0)) ++ fixedF (sumF (preK kind l P)) 4) (by rw [hB]; simp) (by simp [fixedF_length]) (prefF_length kind l)
  have e4 : kindF (laidK kind l P) = kind := by
    unfold kindF
    rw [hB]
    simp only [List.cons_append, List.getD_cons_zero]
    unfold u8I
    rw [UInt8.toNat_ofNat']; omega
  refine ⟨?_, e4, by rw [hB]; rfl⟩
  unfold parseK
  rw [e1, e2, e3, e4, hT, if_neg (by omega)]
  refine cellsK_mid (P := P) hP (prefF_length kind l) l 0 _ (u8I kind :: 2 :: (fixedF l.length 2 ++ (fixedF (sharedF kind l) 2 ++ (prefF kind l ++ pslotsF kind (sharedF kind l) (6 + sharedF kind l + 2 * l.length) 0 l)))) (List.replicate (P - psizeF kind l) 0)
    (u8I kind :: 2 :: (fixedF l.length 2 ++ (fixedF (sharedF kind l) 2 ++ prefF kind l))) ((pbodyF kind (sharedF kind l) 0 l ++ List.replicate (P - psizeF kind l) 0) ++ fixedF (sumF (preK kind l P)) 4) hok ?_ ?_ ?_ ?_ ?_ ?_
  · show preK kind l P = _
    unfold preK; simp
  · simp only [List.length_cons, List.length_append, fixedF_length, prefF_length, pslotsF_length]; omega
  · rw [hB]; simp
  · simp only [List.length_cons, List.length_append, fixedF_length, prefF_length]; omega
  · rw [preK_length h2]; omega
  · intro j hj
    rw [Nat.zero_add]
    unfold restF
    by_cases hn : kind = 3 ∧ j = 0
    · rw [if_pos hn, if_pos hn]; rfl
    · rw [if_neg hn, if_neg hn]
      exact (key_split hj hn).2.1
/-- What a packed page says. -/
def isPk (b : List UInt8) (kind : Int) (l : List PC) : Prop := isPowB (b.length : Int) = true ∧ isKindB kind = true ∧ encK kind l b.length = 0 ∧ laidK kind l b.length = b
theorem isPk_parse {b : List UInt8} {kind : Int} {l : List PC} (h : isPk b kind l) : parseK b = some l ∧ kindF b = kind ∧ b.getD 1 0 = 2 := by
  obtain ⟨h1, h2, h3, h4⟩ := h
  have hP := (isPowB_range h1).2
  have := parse_laidK (P := b.length) (by omega) h2 h3
  rw [h4] at this
  exact this
/-! ### three cells -/
theorem pcF_le {kind : Int} {i pre P : Nat} {c : PC} (hc : OkC P c) (hP : P ≤ 65536) (hP2 : 512 ≤ P) : (pcF kind i c pre).length + (c.key.length - (restF kind i c.key pre).length) ≤ 5 + P / 8 + P / 16 * 3 := by
  have hrl : (restF kind i c.key pre).length ≤ c.key.length := by unfold restF; split <;> simp
  have hk0 := hc.k0
  have u1 : (uintF (restF kind i c.key pre).length).length ≤ 2 := uintF_len 1 _ (by show _ < 16384; omega)
  unfold pcF
  simp only [List.length_cons, List.length_append]
  unfold kvF
  by_cases h1 : c.kind = 1
  · obtain ⟨hv, _, _⟩ := hc.v0 h1
    have u2 : (uintF c.val.length).length ≤ 2 := uintF_len 1 _ (by show _ < 16384; omega)
    rw [if_pos h1, List.length_append]; omega
  · obtain ⟨hv, hp0, hp1, hc0, hc1⟩ := hc.v1 h1
    have u2 : (uintF (u64N c.page)).length ≤ 3 := uintF_len 2 _ (by rw [u64N_of hp0 (by omega)]; show _ < 2097152; omega)
    have u3 : (uintF (u64N c.count)).length ≤ 5 := uintF_len 4 _ (by rw [u64N_of hc0 (by omega)]; show _ < 34359738368; omega)
    rw [if_neg h1, List.length_append]; omega
theorem may_branch {P : Nat} {c : PC} (h : mayP 3 P c = true) : c.kind = 3 := by
  unfold mayP at h
  split at h
  · cases h
  · rw [if_pos rfl] at h
    exact (of_decide_eq_true h).1
theorem pcF_le3 {i pre P : Nat} {c : PC} (hc : OkC P c) (h3 : c.kind = 3) (hP : P ≤ 65536) (kind : Int) : (pcF kind i c pre).length ≤ 11 + P / 8 := by
  have hrl : (restF kind i c.key pre).length ≤ c.key.length := by unfold restF; split <;> simp
  have hk0 := hc.k0
  have u1 : (uintF (restF kind i c.key pre).length).length ≤ 2 := uintF_len 1 _ (by show _ < 16384; omega)
  have h1 : c.kind ≠ 1 := by omega
  obtain ⟨hv, hp0, hp1, hc0, hc1⟩ := hc.v1 h1
  have u2 : (uintF (u64N c.page)).length ≤ 3 := uintF_len 2 _ (by rw [u64N_of hp0 (by omega)]; show _ < 2097152; omega)
  have u3 : (uintF (u64N c.count)).length ≤ 5 := uintF_len 4 _ (by rw [u64N_of hc0 (by omega)]; show _ < 34359738368; omega)
  unfold pcF
  simp only [List.length_cons, List.length_append]
  unfold kvF
  rw [if_neg h1, List.length_append]; omega
/-- Three cells that may be fit. -/
theorem three_fit {kind : Int} {l : List PC} {P : Nat} (hP : P ≤ 65536) (hP2 : 512 ≤ P) (h16 : P % 16 = 0) (hm : ∀ c ∈ l, mayP kind P c = true) (h3 : l.length ≤ 3) : psizeF kind l ≤ P := by
  have hz : psizeF kind l = 10 + sharedF kind l + 2 * l.length + (pbodyF kind (sharedF kind l) 0 l).length := rfl
  have hok : ∀ c ∈ l, OkC P c := fun c hc => may_ok (hm c hc)
  have hrs : ∀ (j : Nat) (hj : j < l.length), ¬ (kind = 3 ∧ j = 0) → (restF kind j l[j].key (sharedF kind l)).length + sharedF kind l = l[j].key.length := fun j hj hn => by
    have := (key_split hj hn).1
    unfold restF
    rw [if_neg hn, List.length_drop]; omega
  by_cases hk : kind = 3
  · subst hk
    have hb : ∀ (j : Nat) (hj : j < l.length), (pcF 3 j l[j] (sharedF 3 l)).length ≤ 11 + P / 8 := fun j hj => pcF_le3 (hok _ (List.getElem_mem hj)) (may_branch (hm _ (List.getElem_mem hj))) hP 3
    have hs : sharedF 3 l ≤ P / 8 := by
      rcases Nat.eq_zero_or_pos (sharedF 3 l) with h | h
      · omega
      · obtain ⟨i, hi, hn⟩ := sharedF_pos h
        have h1 := (key_split hi hn).1
        have h2 := (hok _ (List.getElem_mem hi)).k0
        omega
    rw [hz]
    generalize sharedF 3 l = s at *
    match l, h3 with
    | [], _ => simp [pbodyF]; omega
    | [a], _ =>
      have h0 := hb 0 (by simp)
      simp only [List.getElem_cons_zero] at h0
      simp only [pbodyF, List.length_append, List.length_nil, List.length_cons, Nat.zero_add]; omega
    | [a, b], _ =>
      have h0 := hb 0 (by simp)
      have h1 := hb 1 (by simp)
      simp only [List.getElem_cons_zero, List.getElem_cons_succ] at h0 h1
      simp only [pbodyF, List.length_append, List.length_nil, List.length_cons, Nat.zero_add, Nat.reduceAdd]; omega
    | [a, b, c], _ =>
      have h0 := hb 0 (by simp)
      have h1 := hb 1 (by simp)
      have h2 := hb 2 (by simp)
      simp only [List.getElem_cons_zero, List.getElem_cons_succ] at h0 h1 h2
      simp only [pbodyF, List.length_append, List.length_nil, List.length_cons, Nat.zero_add, Nat.reduceAdd]; omega
  · have hb : ∀ (j : Nat) (hj : j < l.length), (pcF kind j l[j] (sharedF kind l)).length + sharedF kind l ≤ 5 + P / 8 + P / 16 * 3 := fun j hj => by
      have h1 := pcF_le (kind := kind) (i := j) (pre := sharedF kind l) (hok _ (List.getElem_mem hj)) hP hP2
      have h2 := hrs j hj (fun e => hk e.1)
      omega
    have hs0 : l = [] → sharedF kind l = 0 := fun e => by subst e; unfold sharedF keysF; simp [comLs]
    rw [hz]
    generalize sharedF kind l = s at *
    match l, h3 with
    | [], _ => have := hs0 rfl; simp [pbodyF]; omega
    | [a], _ =>
      have h0 := hb 0 (by simp)
      simp only [List.getElem_cons_zero] at h0
      simp only [pbodyF, List.length_append, List.length_nil, List.length_cons, Nat.zero_add]; omega
    | [a, b], _ =>
      have h0 := hb 0 (by simp)
      have h1 := hb 1 (by simp)
      simp only [List.getElem_cons_zero, List.getElem_cons_succ] at h0 h1
      simp only [pbodyF, List.length_append, List.length_nil, List.length_cons, Nat.zero_add, Nat.reduceAdd]; omega
    | [a, b, c], _ =>
      have h0 := hb 0 (by simp)
      have h1 := hb 1 (by simp)
      have h2 := hb 2 (by simp)
      simp only [List.getElem_cons_zero, List.getElem_cons_succ] at h0 h1 h2
      simp only [pbodyF, List.length_append, List.length_nil, List.length_cons, Nat.zero_add, Nat.reduceAdd]; omega
end Go.Proofs.YtfcnkpofcekmgaaGreat

-- Packed pages that are worked on: plain laws.
namespace Go.Proofs.YtfcnkpofcekmgaaGreat
/-- The page: its cells, the prefix that is kept, the waste. -/
structure KP where
  l : List PC
  pre : List UInt8
  waste : Nat
def usedP (kind : Int) (s : KP) : Nat := takenF kind s.l s.pre.length
def tidyP (kind : Int) (l : List PC) : KP := ⟨l, prefF kind l, 0⟩
def hasPre (key pre : List UInt8) : Bool := decide (pre.length ≤ key.length) && (key.take pre.length == pre)
def putK (kind : Int) (P : Nat) (l : List PC) (i gone : Nat) (c : PC) : Int :=
  if mayP kind P c = false then 62
  else if 0 ≤ leftO l i c ∨ 0 ≤ rightO l (i + gone) c then 63
  else if P < psizeF kind (withF l i gone c) then 61 else 0
def insKZ (kind : Int) (P : Nat) (l : List PC) (i : Int) (gone : Nat) (c : PC) : Int := if i < 0 ∨ (l.length : Int) - gone < i then 64 else putK kind P l i.toNat gone c
def dftC : PC := ⟨[], 0, [], 0, 0⟩
/-- The bytes of the i-th cell. -/
def oldK (kind : Int) (s : KP) (i : Nat) : Nat := (pcF kind i (s.l.getD i dftC) s.pre.length).length
def firstK (kind : Int) (i : Nat) : Bool := decide (kind = 3 ∧ i = 0)
def anew0 (kind : Int) (pre : List UInt8) (i gone : Nat) (c : PC) : Bool := if gone = 0 then firstK kind i || !hasPre c.key pre else !firstK kind i && !hasPre c.key pre
def wasteK (kind : Int) (s : KP) (i gone : Nat) : Nat := s.waste + (if gone = 0 then 0 else oldK kind s i)
/-- Other cells that fit. -/
def changeS (kind : Int) (P : Nat) (pre : List UInt8) (l : List PC) (waste : Nat) (anew : Bool) : KP :=
  if (anew || decide (P < takenF kind l pre.length + waste)) = true then tidyP kind l else ⟨l, pre, waste⟩
def putS (kind : Int) (P : Nat) (s : KP) (i gone : Nat) (c : PC) : KP := changeS kind P s.pre (withF s.l i gone c) (wasteK kind s i gone) (anew0 kind s.pre i gone c)
def insKS (kind : Int) (P : Nat) (s : KP) (i : Int) (gone : Nat) (c : PC) : KP := if insKZ kind P s.l i gone c = 0 then putS kind P s i.toNat gone c else s
/-- The prefix is that of all keys that lie behind it. -/
def PreOk (kind : Int) (l : List PC) (pre : List UInt8) : Prop := ∀ j (hj : j < l.length), ¬ (kind = 3 ∧ j = 0) → hasPre l[j].key pre = true
structure KInv (kind : Int) (P : Nat) (s : KP) : Prop where
  rise : Rising s.l
  may : ∀ c ∈ s.l, mayP kind P c = true
  size : psizeF kind s.l ≤ P
  pre : PreOk kind s.l s.pre
  room : usedP kind s + s.waste ≤ P
theorem hasPre_iff {key pre : List UInt8} : hasPre key pre = true ↔ pre.length ≤ key.length ∧ key.take pre.length = pre := by
  unfold hasPre
  rw [Bool.and_eq_true, decide_eq_true_iff, beq_iff_eq]
theorem hasPre_prefF {kind : Int} {l : List PC} : PreOk kind l (prefF kind l) := fun j hj hn => by
  obtain ⟨h1, h2, h3⟩ := key_split hj hn
  refine hasPre_iff.2 ⟨by omega, ?_⟩
  rw [h2, List.take_left]
theorem usedP_tidy (kind : Int) (l : List PC) : usedP kind (tidyP kind l) = psizeF kind l := by
  unfold usedP tidyP psizeF
  simp only [prefF_length]
theorem tidy_inv {kind : Int} {P : Nat} {l : List PC} (h1 : Rising l) (h2 : ∀ c ∈ l, mayP kind P c = true) (h3 : psizeF kind l ≤ P) : KInv kind P (tidyP kind l) :=
  ⟨h1, h2, h3, hasPre_prefF, by rw [usedP_tidy]; show psizeF kind l + 0 ≤ P; omega⟩
/-! ### a longer prefix takes no more -/
/-! ### a cell less -/
/-! ### a cell more, another cell -/
theorem with_at {l : List PC} {i gone : Nat} {c : PC} (hi : i + gone ≤ l.length) (hg : gone ≤ 1) {j : Nat} (hj : j < (withF l i gone c).length) : (j = i ∧ (withF l i gone c)[j] = c) ∨ ∃ k, ∃ hk : k < l.length, (withF l i gone c)[j] = l[k] ∧ (k = 0 → j = 0 ∨ (i = 0 ∧ gone = 0)) := by
  have hl : (l.take i).length = i := by rw [List.length_take]; omega
  unfold withF at hj ⊢
  rcases Nat.lt_trichotomy j i with h | h | h
  · right
    refine ⟨j, by omega, ?_, by omega⟩
    rw [List.getElem_append_left (by omega), List.getElem_take]
  · left
    subst h
    refine ⟨rfl, ?_⟩
    rw [List.getElem_append_right (by omega)]
    simp [hl]
  · right
    simp only [List.length_append, hl, List.length_cons, List.length_drop] at hj
    refine ⟨j - 1 + gone, by omega, ?_, by omega⟩
    rw [List.getElem_append_right (by omega), List.getElem_cons]
    rw [dif_neg (by omega), List.getElem_drop]
    congr 1
    omega
theorem mem_with {l : List PC} {i gone : Nat} {c d : PC} (h : d ∈ withF l i gone c) : d = c ∨ d ∈ l := by
  unfold withF at h
  rcases List.mem_append.1 h with h | h
  · exact .inr (List.mem_of_mem_take h)
  · rcases List.mem_cons.1 h with h | h
    · exact .inl h
    · exact .inr (List.mem_of_mem_drop h)
theorem putK_zero {kind : Int} {P : Nat} {l : List PC} {i gone : Nat} {c : PC} (h : putK kind P l i gone c = 0) : mayP kind P c = true ∧ ¬ 0 ≤ leftO l i c ∧ ¬ 0 ≤ rightO l (i + gone) c ∧ psizeF kind (withF l i gone c) ≤ P := by
  unfold putK at h
  split at h
  · cases h
  · rename_i hm
    split at h
    · cases h
    · rename_i ho
      split at h
      · cases h
      · rename_i hz
        exact ⟨by simpa using hm, fun e => ho (.inl e), fun e => ho (.inr e), by omega⟩
theorem putK_rise {kind : Int} {P : Nat} {l : List PC} {i gone : Nat} {c : PC} (hs : Rising l) (hi : i + gone ≤ l.length) (h : putK kind P l i gone c = 0) : Rising (withF l i gone c) := by
  obtain ⟨-, h1, h2, -⟩ := putK_zero h
  refine (with_rises hs hi).2 ⟨fun h3 => ?_, fun h3 => ?_⟩
  · unfold leftO at h1
    rw [dif_pos ⟨h3, by omega⟩] at h1
    omega
  · unfold rightO at h2
    rw [dif_pos h3] at h2
    omega
theorem KInv.put {kind : Int} {P : Nat} {s : KP} (h : KInv kind P s) {i gone : Nat} {c : PC} (hi : i + gone ≤ s.l.length) (hg : gone ≤ 1) (h0 : putK kind P s.l i gone c = 0) : KInv kind P (putS kind P s i gone c) := by
  obtain ⟨hm, -, -, hz⟩ := putK_zero h0
  have hr := putK_rise h.rise hi h0
  have hm' : ∀ d ∈ withF s.l i gone c, mayP kind P d = true := fun d hd => by
    rcases mem_with hd with rfl | hd
    · exact hm
    · exact h.may d hd
  unfold putS changeS
  by_cases hn : (anew0 kind s.pre i gone c || decide (P < takenF kind (withF s.l i gone c) s.pre.length + wasteK kind s i gone)) = true
  · rw [if_pos hn]; exact tidy_inv hr hm' hz
  · rw [if_neg hn]
    rw [Bool.or_eq_true, not_or, decide_eq_true_iff] at hn
    obtain ⟨hn1, hn2⟩ := hn
    unfold anew0 firstK at hn1
    refine ⟨hr, hm', hz, fun j hj hnf => ?_, ?_⟩
    · rcases with_at hi hg hj with ⟨rfl, e⟩ | ⟨k, hk, e, hk0⟩
      · rw [e]
        by_cases hg0 : gone = 0
        · rw [if_pos hg0, Bool.or_eq_true, not_or] at hn1
          simpa using hn1.2
        · rw [if_neg hg0] at hn1
          have h1 : decide (kind = 3 ∧ j = 0) = false := decide_eq_false hnf
          rw [h1] at hn1
          simpa using hn1
      · rw [e]
        refine h.pre k hk (fun e2 => ?_)
        rcases hk0 e2.2 with e3 | ⟨e3, e4⟩
        · exact hnf ⟨e2.1, e3⟩
        · rw [if_pos e4, Bool.or_eq_true, not_or, decide_eq_true_iff] at hn1
          exact hn1.1 ⟨e2.1, e3⟩
    · show takenF kind (withF s.l i gone c) s.pre.length + wasteK kind s i gone ≤ P
      omega
theorem KInv.ins {kind : Int} {P : Nat} {s : KP} (h : KInv kind P s) (i : Int) {gone : Nat} (hg : gone ≤ 1) (c : PC) : KInv kind P (insKS kind P s i gone c) := by
  unfold insKS
  by_cases hz : insKZ kind P s.l i gone c = 0
  · rw [if_pos hz]
    unfold insKZ at hz
    by_cases hin : i < 0 ∨ (s.l.length : Int) - gone < i
    · rw [if_pos hin] at hz; cases hz
    · rw [if_neg hin] at hz
      exact h.put (by omega) hg hz
  · rw [if_neg hz]; exact h
theorem KInv.enc {kind : Int} {P : Nat} {s : KP} (h : KInv kind P s) : encK kind s.l P = 0 := encK_zero.2 ⟨scan_rise h.may (by simp) h.rise, h.size⟩
theorem pbody_len (kind : Int) (n : Nat) : ∀ (l : List PC) (i : Nat), 4 * l.length ≤ (pbodyF kind n i l).length + l.length
  | [], _ => by simp [pbodyF]
  | c :: r, i => by
    have := pbody_len kind n r (i + 1)
    have h3 : 3 ≤ (pcF kind i c n).length := by
      unfold pcF kvF
      have := uintF_pos (restF kind i c.key n).length
      simp only [List.length_cons, List.length_append]
      split
      · have := uintF_pos c.val.length; rw [List.length_append]; omega
      · have := uintF_pos (u64N c.page); rw [List.length_append]; omega
    simp only [pbodyF, List.length_append, List.length_cons]
    omega
theorem KInv.len {kind : Int} {P : Nat} {s : KP} (h : KInv kind P s) (hP : P ≤ 65536) : s.l.length ≤ 16384 := by
  have h1 := h.size
  have h2 := pbody_len kind (sharedF kind s.l) s.l 0
  unfold psizeF takenF at h1
  omega
theorem open_inv {b : List UInt8} {kind : Int} {l : List PC} (h : isPk b kind l) : KInv kind b.length (tidyP kind l) := by
  obtain ⟨-, -, h3, -⟩ := h
  obtain ⟨h1, h2⟩ := encK_zero.1 h3
  exact tidy_inv (scan_sorted h1).2 (fun c hc => scan_may h1 c hc) h2
end Go.Proofs.YtfcnkpofcekmgaaGreat

-- sort.Search; packed.Page's within, Find: walks.
namespace Go.Proofs.YtfcnkpofcekmgaaGreat
open Go.RowKit
/-- A packed page that is worked on, at p, as it is read. -/
structure KAt (w : World) (p : Nat) (kind : Int) (P : Nat) (u pv : Value) (used waste : Nat) (l : List CV) : Prop where
  blk : OBlk w p 150 [.int .i64 kind, .int .i64 (P : Int), u, pv, .int .i64 (used : Int), .int .i64 (waste : Int)]
  rd : RdCs w u l
theorem cells6 {w : World} {g : Nat} {T : TypeId} {a0 a1 a2 a3 a4 a5 : Value} (h : OBlk w g T [a0, a1, a2, a3, a4, a5]) :
    w.cell? ⟨g, 0, none⟩ = some a0 ∧ w.cell? ⟨g, 1, none⟩ = some a1 ∧ w.cell? ⟨g, 2, none⟩ = some a2 ∧ w.cell? ⟨g, 3, none⟩ = some a3 ∧ w.cell? ⟨g, 4, none⟩ = some a4 ∧ w.cell? ⟨g, 5, none⟩ = some a5 :=
  ⟨h.cell 0, h.cell 1, h.cell 2, h.cell 3, h.cell 4, h.cell 5⟩
theorem KAt.below {w w' : World} {p : Nat} {kind : Int} {P : Nat} {u pv : Value} {used waste : Nat} {l : List CV} (h : KAt w p kind P u pv used waste l) (hb : Below w.heap.size w w') : KAt w' p kind P u pv used waste l :=
  ⟨h.blk.below hb h.blk.lt, h.rd.below hb⟩
theorem RdCs.key_at' {w : World} {A : Option Addr} {m c i : Nat} {l : List CV} (h : RdCs w (.slice A m c) l) (hi : i < l.length) :
    ∃ ad B b, A = some ad ∧ w.cell? (ad.add (i * 5)) = some (.slice B l[i].c.key.length b) ∧ RdB w (.slice B l[i].c.key.length b) l[i].c.key := by
  obtain ⟨ad, rfl, c0, -⟩ := h.at_ hi
  have hx := (h.ok _ (List.getElem_mem hi)).k
  obtain ⟨B, b, he, -⟩ := hx.form
  rw [he] at hx c0
  exact ⟨ad, B, b, rfl, c0, hx⟩
theorem Equal_q (u v : Value) (a b : List UInt8) (w : World) (hu : RdB w u a) (hv : RdB w v b) :
    Calls Tryz.prog 134 #[u, v] w fun e w' => e = .returned (.bool (a == b)) ∧ w' = w := (Equal_any u v a b w hu hv).mono fun _ _ h => ⟨h.1, h.2.symm⟩
section
variable {w : World} {p : Nat} {kind : Int} {P : Nat} {u pv : Value} {used waste : Nat} {l : List CV}
end
end Go.Proofs.YtfcnkpofcekmgaaGreat
