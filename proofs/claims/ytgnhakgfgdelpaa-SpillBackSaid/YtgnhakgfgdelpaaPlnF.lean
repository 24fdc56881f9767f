/- Pages with whole keys: cells, their bytes, what may be, how it is read: plain laws. -/
import Derived.Test.YtgnhakgfgdelpaaInkTextF
import Derived.Test.YtgnhakgfgdelpaaInkFixed
import Derived.Test.YtgnhakgfgdelpaaInkReadFixed
namespace Go.Proofs.Ytgnhakgfgdelpaa
open Go.RowKit
structure PC where
  key : List UInt8
  kind : Int
  val : List UInt8
  page : Int
  count : Int
instance : Inhabited PC := ⟨⟨[], 0, [], 0, 0⟩⟩
def childP (c : PC) : Prop := 2 ≤ c.page ∧ c.page < 65536
def thereP (c : PC) : Prop := c.page = 0 ∧ c.count = 0
instance (c : PC) : Decidable (childP c) := by unfold childP; infer_instance
instance (c : PC) : Decidable (thereP c) := by unfold thereP; infer_instance
def mayP (kind : Int) (P : Nat) (c : PC) : Bool :=
  if P / 8 < c.key.length ∨ (kind = 2 ∧ c.key.length = 0) ∨ (c.kind ≠ 1 ∧ 0 < c.val.length) then false
  else if kind = 3 then decide (c.kind = 3 ∧ childP c ∧ 1 ≤ c.count ∧ c.count ≤ 1073741824)
  else if c.kind = 1 then decide (thereP c ∧ c.val.length ≤ P / 16 * 3)
  else if c.kind = 2 then decide (childP c ∧ (P / 16 * 3 : Nat) < c.count ∧ c.count ≤ 65536)
  else if c.kind = 4 then decide (thereP c ∨ (childP c ∧ 1 ≤ c.count ∧ c.count ≤ 1073741824))
  else false
def longF (c : PC) : Nat := if c.kind = 1 then 5 + c.key.length + c.val.length else 11 + c.key.length
def sizeF : List PC → Nat
  | [] => 8
  | c :: r => sizeF r + (2 + longF c)
def longsF : List PC → Nat
  | [] => 0
  | c :: r => longF c + longsF r
theorem sizeF_eq (l : List PC) : sizeF l = 8 + 2 * l.length + longsF l := by
  induction l with
  | nil => rfl
  | cons c r ih => simp only [sizeF, longsF, List.length_cons, ih]; omega
theorem longsF_append (a b : List PC) : longsF (a ++ b) = longsF a + longsF b := by
  induction a with
  | nil => simp [longsF]
  | cons c r ih => simp only [List.cons_append, longsF, ih]; omega
theorem sizeF_append (a b : List PC) : sizeF (a ++ b) = sizeF a + (sizeF b - 8) := by
  rw [sizeF_eq, sizeF_eq, sizeF_eq, longsF_append, List.length_append]; omega
theorem longF_pos (c : PC) : 5 ≤ longF c := by unfold longF; split <;> omega
/-- What follows the key. -/
def tailF (c : PC) : List UInt8 := if c.kind = 1 then fixedF c.val.length 2 ++ c.val else fixedF c.page.toNat 4 ++ fixedF c.count.toNat 4
def cellF (c : PC) : List UInt8 := UInt8.ofNat c.kind.toNat :: (fixedF c.key.length 2 ++ (c.key ++ tailF c))
theorem tailF_length (c : PC) : (tailF c).length = if c.kind = 1 then 2 + c.val.length else 8 := by
  unfold tailF
  split
  · rw [List.length_append, fixedF_length]
  · rw [List.length_append, fixedF_length, fixedF_length]
theorem cellF_length (c : PC) : (cellF c).length = longF c := by
  unfold cellF longF
  rw [List.length_cons, List.length_append, List.length_append, fixedF_length, tailF_length]
  split <;> omega
def bodyF : List PC → List UInt8
  | [] => []
  | c :: r => cellF c ++ bodyF r
theorem bodyF_length (l : List PC) : (bodyF l).length = longsF l := by
  induction l with
  | nil => rfl
  | cons c r ih => simp [bodyF, longsF, cellF_length, ih]
theorem bodyF_append (a b : List PC) : bodyF (a ++ b) = bodyF a ++ bodyF b := by
  induction a with
  | nil => rfl
  | cons c r ih => simp [bodyF, ih]
def slotsF : Nat → List PC → List UInt8
  | _, [] => []
  | at_, c :: r => fixedF at_ 2 ++ slotsF (at_ + longF c) r
theorem slotsF_length (at_ : Nat) (l : List PC) : (slotsF at_ l).length = 2 * l.length := by
  induction l generalizing at_ with
  | nil => rfl
  | cons c r ih => simp [slotsF, fixedF_length, ih]; omega
theorem slotsF_append (at_ : Nat) (a b : List PC) : slotsF at_ (a ++ b) = slotsF at_ a ++ slotsF (at_ + longsF a) b := by
  induction a generalizing at_ with
  | nil => simp [slotsF, longsF]
  | cons c r ih => simp only [List.cons_append, slotsF, ih, longsF, List.append_assoc]; rw [Nat.add_assoc]
/-- The place of the first cell. -/
def atF (l : List PC) (P : Nat) : Nat := P - 4 - longsF l
def headF (kind : Int) (n : Nat) : List UInt8 := UInt8.ofNat kind.toNat :: 1 :: fixedF n 2
def preF (kind : Int) (l : List PC) (P : Nat) : List UInt8 :=
  headF kind l.length ++ (slotsF (atF l P) l ++ (List.replicate (P - 4 - longsF l - 4 - 2 * l.length) 0 ++ bodyF l))
def laidF (kind : Int) (l : List PC) (P : Nat) : List UInt8 := preF kind l P ++ fixedF (sumF (preF kind l P)) 4
theorem headF_length (kind : Int) (n : Nat) : (headF kind n).length = 4 := by simp [headF, fixedF_length]
theorem preF_length {kind : Int} {l : List PC} {P : Nat} (h : sizeF l ≤ P) : (preF kind l P).length = P - 4 := by
  rw [sizeF_eq] at h
  unfold preF
  simp only [List.length_append, headF_length, slotsF_length, List.length_replicate, bodyF_length]
  omega
theorem laidF_length {kind : Int} {l : List PC} {P : Nat} (h : sizeF l ≤ P) : (laidF kind l P).length = P := by
  have := sizeF_eq l
  unfold laidF
  rw [List.length_append, preF_length h, fixedF_length]; omega
/-! ### what Encode tells -/
def afterP (p : Option (List UInt8)) (k : List UInt8) : Bool := match p with
  | none => true
  | some q => decide (ordC q k < 0)
def scanE (kind : Int) (P : Nat) : Option (List UInt8) → List PC → Int
  | _, [] => 0
  | p, c :: r => if mayP kind P c = false then 62 else if afterP p c.key = false then 63 else scanE kind P (some c.key) r
def isKindB (kind : Int) : Bool := decide (kind = 2 ∨ kind = 3)
def encE (kind : Int) (l : List PC) (P : Nat) : Int := if scanE kind P none l ≠ 0 then scanE kind P none l else if P < sizeF l then 61 else 0
def prevK (l : List PC) (i : Nat) : Option (List UInt8) := if i = 0 then none else some (l.getD (i - 1) default).key
theorem scan_step {kind : Int} {P : Nat} {l : List PC} {i : Nat} (hi : i < l.length) :
    scanE kind P (prevK l i) (l.drop i) = if mayP kind P l[i] = false then 62 else if afterP (prevK l i) l[i].key = false then 63 else scanE kind P (prevK l (i + 1)) (l.drop (i + 1)) := by
  rw [List.drop_eq_getElem_cons hi, scanE]
  have e : prevK l (i + 1) = some l[i].key := by
    unfold prevK
    rw [if_neg (by omega)]
    simp [List.getD, hi]
  rw [e]
theorem scan_range (kind : Int) (P : Nat) : ∀ (l : List PC) (p : Option (List UInt8)), scanE kind P p l = 0 ∨ scanE kind P p l = 62 ∨ scanE kind P p l = 63
  | [], _ => .inl rfl
  | c :: r, p => by
    rw [scanE]
    split
    · exact .inr (.inl rfl)
    · split
      · exact .inr (.inr rfl)
      · exact scan_range kind P r _
theorem scan_may {kind : Int} {P : Nat} : ∀ {l : List PC} {p : Option (List UInt8)}, scanE kind P p l = 0 → ∀ c ∈ l, mayP kind P c = true
  | [], _, _, c, hc => by cases hc
  | c :: r, p, h, d, hd => by
    rw [scanE] at h
    split at h
    · cases h
    · rename_i hm
      split at h
      · cases h
      · rcases List.mem_cons.1 hd with rfl | hd
        · simpa using hm
        · exact scan_may h d hd
/-- What a cell that may be is like. -/
structure OkC (P : Nat) (c : PC) : Prop where
  k0 : c.key.length ≤ P / 8
  kd : 1 ≤ c.kind ∧ c.kind ≤ 4
  v0 : c.kind = 1 → c.val.length ≤ P / 16 * 3 ∧ c.page = 0 ∧ c.count = 0
  v1 : c.kind ≠ 1 → c.val = [] ∧ 0 ≤ c.page ∧ c.page < 65536 ∧ 0 ≤ c.count ∧ c.count ≤ 1073741824
theorem may_ok {kind : Int} {P : Nat} {c : PC} (h : mayP kind P c = true) : OkC P c := by
  unfold mayP at h
  split at h
  · cases h
  · rename_i hn
    have h1 : c.key.length ≤ P / 8 := by omega
    have h2 : c.kind ≠ 1 → c.val = [] := fun hk => List.eq_nil_of_length_eq_zero (by omega)
    split at h
    · have h := of_decide_eq_true h
      unfold childP at h
      exact ⟨h1, by omega, fun e => by omega, fun e => ⟨h2 e, by omega, by omega, by omega, by omega⟩⟩
    · split at h
      · have h := of_decide_eq_true h
        unfold thereP at h
        exact ⟨h1, by omega, fun _ => ⟨h.2, h.1.1, h.1.2⟩, fun e => absurd ‹c.kind = 1› e⟩
      · split at h
        · have h := of_decide_eq_true h
          unfold childP at h
          exact ⟨h1, by omega, fun e => by omega, fun e => ⟨h2 e, by omega, by omega, by omega, by omega⟩⟩
        · split at h
          · have h := of_decide_eq_true h
            unfold childP thereP at h
            refine ⟨h1, by omega, fun e => by omega, fun e => ⟨h2 e, ?_⟩⟩
            rcases h with h | h <;> omega
          · cases h
theorem longF_le {P : Nat} {c : PC} (h : OkC P c) (hP : P ≤ 65536) : longF c ≤ 65536 := by
  have := h.k0
  unfold longF
  split
  · have := (h.v0 (by assumption)).1; omega
  · omega
theorem longs_le {P : Nat} {l : List PC} (h : ∀ c ∈ l, OkC P c) (hP : P ≤ 65536) : longsF l ≤ 65536 * l.length := by
  induction l with
  | nil => simp [longsF]
  | cons c r ih =>
    have h1 := longF_le (h c (by simp)) hP
    have h2 := ih fun d hd => h d (by simp [hd])
    simp only [longsF, List.length_cons]; omega
theorem encE_zero {kind : Int} {l : List PC} {P : Nat} : encE kind l P = 0 ↔ scanE kind P none l = 0 ∧ sizeF l ≤ P := by
  unfold encE
  split
  · rename_i h; exact ⟨fun e => absurd e h, fun e => absurd e.1 h⟩
  · rename_i h
    split
    · exact ⟨fun e => by omega, fun e => by omega⟩
    · exact ⟨fun _ => ⟨by simpa using h, by omega⟩, fun _ => rfl⟩
/-! ### how a page is read -/
def numAt (b : List UInt8) (at_ w : Nat) : Nat := numF ((b.drop at_).take w)
def cellP (b : List UInt8) (at_ end_ : Nat) : Option (PC × Nat) :=
  if end_ < at_ + 3 then none
  else
    if end_ < at_ + 3 + (numAt b (at_ + 1) 2) + 2 then none
    else
      if ((b.getD at_ 0).toNat : Int) ≠ 1 then
        if end_ < at_ + 3 + (numAt b (at_ + 1) 2) + 8 then none
        else some (⟨(b.drop (at_ + 3)).take (numAt b (at_ + 1) 2), (b.getD at_ 0).toNat, [], (numAt b (at_ + 3 + (numAt b (at_ + 1) 2)) 4 : Nat), (numAt b (at_ + 3 + (numAt b (at_ + 1) 2) + 4) 4 : Nat)⟩, at_ + 3 + (numAt b (at_ + 1) 2) + 8)
      else
        if end_ < at_ + 3 + (numAt b (at_ + 1) 2) + 2 + numAt b (at_ + 3 + (numAt b (at_ + 1) 2)) 2 then none
        else some (⟨(b.drop (at_ + 3)).take (numAt b (at_ + 1) 2), (b.getD at_ 0).toNat, (b.drop (at_ + 3 + (numAt b (at_ + 1) 2) + 2)).take (numAt b (at_ + 3 + (numAt b (at_ + 1) 2)) 2), 0, 0⟩, at_ + 3 + (numAt b (at_ + 1) 2) + 2 + numAt b (at_ + 3 + (numAt b (at_ + 1) 2)) 2)
def cellsP (b : List UInt8) (end_ : Nat) : Nat → Nat → Option (List PC)
  | _, 0 => some []
  | at_, n + 1 => match cellP b at_ end_ with
    | none => none
    | some (c, tz) => (cellsP b end_ tz n).map (c :: ·)
def firstP (b : List UInt8) (n end_ : Nat) : Nat := if 0 < n then numAt b 4 2 else end_
def parseF (b : List UInt8) : Option (List PC) :=
  if b.length - 4 < 4 + 2 * numAt b 2 2 then none else cellsP b (b.length - 4) (firstP b (numAt b 2 2) (b.length - 4)) (numAt b 2 2)
def kindF (b : List UInt8) : Int := ((b.getD 0 0).toNat : Int)
theorem numF_fixedF (n k : Nat) (h : n < 256 ^ k) : numF (fixedF n k) = n := by
  induction k generalizing n with
  | zero => simp [fixedF, numF]; simp at h; omega
  | succ k ih =>
    rw [Nat.pow_succ] at h
    have hd : n / 256 < 256 ^ k := Nat.div_lt_of_lt_mul (by rw [Nat.mul_comm]; exact h)
    rw [fixedF, numF_snoc, ih _ hd, UInt8.toNat_ofNat']
    omega
theorem numAt_mid {b pre rest : List UInt8} {n w at_ : Nat} (hb : b = pre ++ (fixedF n w ++ rest)) (ha : pre.length = at_) (hn : n < 256 ^ w) : numAt b at_ w = n := by
  subst hb ha
  unfold numAt
  rw [List.drop_left, List.take_left' (fixedF_length n w), numF_fixedF n w hn]
theorem take_mid {b pre x rest : List UInt8} {n at_ : Nat} (hb : b = pre ++ (x ++ rest)) (ha : pre.length = at_) (hn : x.length = n) : (b.drop at_).take n = x := by
  subst hb ha
  rw [List.drop_left, List.take_left' hn]
/-- A cell that stands there is read. -/
theorem cellP_mid {P : Nat} {b pre rest : List UInt8} {c : PC} {at_ end_ : Nat} (hc : OkC P c) (hP : P ≤ 65536) (hb : b = pre ++ (cellF c ++ rest)) (ha : pre.length = at_) (he : at_ + longF c ≤ end_) : cellP b at_ end_ = some (c, at_ + longF c) := by
  obtain ⟨key, kind, val, page, count⟩ := c
  have hk0 := hc.k0
  have hkd := hc.kd
  have hv0 := hc.v0
  have hv1 := hc.v1
  simp only at hk0 hkd hv0 hv1
  have hl5 := longF_pos ⟨key, kind, val, page, count⟩
  have e0 : b.getD at_ 0 = UInt8.ofNat kind.toNat := by
    subst hb ha
    simp [cellF, List.getD]
  have ek : (((b.getD at_ 0).toNat : Nat) : Int) = kind := by rw [e0, UInt8.toNat_ofNat']; omega
  have e1 : numAt b (at_ + 1) 2 = key.length := by
    refine numAt_mid (pre := pre ++ [UInt8.ofNat kind.toNat]) (rest := (key ++ tailF ⟨key, kind, val, page, count⟩) ++ rest) ?_ (by simp [ha]) (by omega)
    subst hb; simp [cellF]
  have e2 : (b.drop (at_ + 3)).take key.length = key := by
    refine take_mid (pre := pre ++ (UInt8.ofNat kind.toNat :: fixedF key.length 2)) (rest := tailF ⟨key, kind, val, page, count⟩ ++ rest) ?_ (by simp [ha, fixedF_length]) rfl
    subst hb; simp [cellF]
  have hpre : (pre ++ (UInt8.ofNat kind.toNat :: (fixedF key.length 2 ++ key))).length = at_ + 3 + key.length := by simp [ha, fixedF_length]; omega
  unfold longF at he hl5 ⊢
  simp only at he hl5 ⊢
  unfold cellP
  rw [e1, e2, ek]
  by_cases h1 : kind = 1
  · obtain ⟨hv, hp0, hc0⟩ := hv0 h1
    rw [if_pos h1] at he hl5 ⊢
    have e3 : numAt b (at_ + 3 + key.length) 2 = val.length := by
      refine numAt_mid (rest := val ++ rest) ?_ hpre (by omega)
      subst hb; simp [cellF, tailF, h1]
    have e4 : (b.drop (at_ + 3 + key.length + 2)).take val.length = val := by
      refine take_mid (pre := pre ++ (UInt8.ofNat kind.toNat :: (fixedF key.length 2 ++ key)) ++ fixedF val.length 2) (rest := rest) ?_ (by rw [List.length_append, hpre, fixedF_length]) rfl
      subst hb; simp [cellF, tailF, h1]
    rw [e3, e4, if_neg (by omega), if_neg (by omega), if_neg (by simp [h1]), if_neg (by omega), hp0, hc0]
    simp only [Option.some.injEq, Prod.mk.injEq, true_and]
    omega
  · obtain ⟨hv, hp0, hp1, hc0, hc1⟩ := hv1 h1
    rw [if_neg h1] at he hl5 ⊢
    have e3 : numAt b (at_ + 3 + key.length) 4 = page.toNat := by
      refine numAt_mid (rest := fixedF count.toNat 4 ++ rest) ?_ hpre (by omega)
      subst hb; simp [cellF, tailF, h1]
    have e4 : numAt b (at_ + 3 + key.length + 4) 4 = count.toNat := by
      refine numAt_mid (pre := pre ++ (UInt8.ofNat kind.toNat :: (fixedF key.length 2 ++ key)) ++ fixedF page.toNat 4) (rest := rest) ?_ (by rw [List.length_append, hpre, fixedF_length]) (by omega)
      subst hb; simp [cellF, tailF, h1]
    rw [e3, e4, if_neg (by omega), if_neg (by omega), if_pos h1, if_neg (by omega), hv, show ((page.toNat : Nat) : Int) = page by omega, show ((count.toNat : Nat) : Int) = count by omega]
    simp only [Option.some.injEq, Prod.mk.injEq, true_and]
    omega
theorem cellsP_mid {P : Nat} {b rest : List UInt8} {end_ : Nat} (hP : P ≤ 65536) : ∀ (l : List PC) (pre : List UInt8) (at_ : Nat), (∀ c ∈ l, OkC P c) → b = pre ++ (bodyF l ++ rest) → pre.length = at_ → at_ + longsF l ≤ end_ → cellsP b end_ at_ l.length = some l
  | [], _, _, _, _, _, _ => rfl
  | c :: r, pre, at_, hl, hb, ha, he => by
    have e1 := cellP_mid (b := b) (pre := pre) (at_ := at_) (c := c) (rest := bodyF r ++ rest) (end_ := end_) (hl c (by simp)) hP (by rw [hb]; simp [bodyF]) ha (by simp only [longsF] at he; omega)
    have e2 := cellsP_mid (b := b) (end_ := end_) (rest := rest) hP r (pre ++ cellF c) (at_ + longF c) (fun d hd => hl d (by simp [hd])) (by rw [hb]; simp [bodyF]) (by simp [ha, cellF_length]) (by simp only [longsF] at he; omega)
    rw [List.length_cons, cellsP, e1]
    show (cellsP b end_ (at_ + longF c) r.length).map (c :: ·) = _
    rw [e2]; rfl
/-- What Encode writes is read. -/
theorem parse_laid {kind : Int} {l : List PC} {P : Nat} (hP : P ≤ 65536) (hk : isKindB kind = true) (h : encE kind l P = 0) : parseF (laidF kind l P) = some l ∧ kindF (laidF kind l P) = kind := by
  obtain ⟨h1, h2⟩ := encE_zero.1 h
  have hok : ∀ c ∈ l, OkC P c := fun c hc => may_ok (scan_may h1 c hc)
  have hs := sizeF_eq l
  have hL := laidF_length (kind := kind) h2
  have hkd : kind = 2 ∨ kind = 3 := of_decide_eq_true hk
  have hB : laidF kind l P = (UInt8.ofNat kind.toNat :: 1 :: (fixedF l.length 2 ++ (slotsF (atF l P) l ++ (List.replicate (P - 4 - longsF l - 4 - 2 * l.length) 0 ++ bodyF l)))) ++ fixedF (sumF (preF kind l P)) 4 := by
    unfold laidF
    congr 1
  constructor
  · have e1 : numAt (laidF kind l P) 2 2 = l.length := by
      refine numAt_mid (pre := [UInt8.ofNat kind.toNat, 1]) (rest := (slotsF (atF l P) l ++ (List.replicate (P - 4 - longsF l - 4 - 2 * l.length) 0 ++ bodyF l)) ++ fixedF (sumF (preF kind l P)) 4) ?_ rfl (by omega)
      rw [hB]; try simp
    unfold parseF
    rw [e1, hL, if_neg (by omega)]
    have e2 : l ≠ [] → firstP (laidF kind l P) l.length (P - 4) = atF l P := by
      intro hne
      cases l with
      | nil => exact absurd rfl hne
      | cons c r =>
        unfold firstP
        rw [if_pos (by simp)]
        refine numAt_mid (pre := headF kind (c :: r).length) (rest := slotsF (atF (c :: r) P + longF c) r ++ (List.replicate (P - 4 - longsF (c :: r) - 4 - 2 * (c :: r).length) 0 ++ bodyF (c :: r)) ++ fixedF (sumF (preF kind (c :: r) P)) 4) ?_ (headF_length _ _) (by unfold atF; omega)
        rw [hB]; try simp [headF, slotsF]
    by_cases hne : l = []
    · subst hne; rfl
    · rw [e2 hne]
      refine cellsP_mid (P := P) (rest := fixedF (sumF (preF kind l P)) 4) hP l (headF kind l.length ++ (slotsF (atF l P) l ++ List.replicate (P - 4 - longsF l - 4 - 2 * l.length) 0)) (atF l P) hok ?_ ?_ ?_
      · rw [hB]; try simp [headF]
      · simp only [List.length_append, headF_length, slotsF_length, List.length_replicate]; unfold atF; omega
      · unfold atF; omega
  · unfold kindF
    rw [hB]
    simp only [List.cons_append, List.getD_cons_zero, UInt8.toNat_ofNat']
    omega
end Go.Proofs.Ytgnhakgfgdelpaa
