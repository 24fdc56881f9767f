/- Texts joined: Pages with whole keys; Powers of two from 512 to 65536.; Pages of long values; A map from integers to byte lists, as a function; Step laws for regions that draw; A bench's memory; A region that draws its order, whose head only reads and calls quietly, and whos -/
import Derived.Test.YtgnhakgfgdelpaaP1
import Derived.Test.YtgnhakgfgdelpaaP2
import Derived.Maps.OwnSet
import Derived.StillTail
import Derived.Deep.Quiet
-- Pages with whole keys: cells, their bytes, what may be, how it is read: plain laws.
namespace Go.Proofs.Ytgnhakgfgdelpaa
open Go.RowKit
structure PC where
  key : List UInt8
  kind : Int
  val : List UInt8
  page : Int
  count : Int
instance : Inhabited PC := ⟨⟨[], 0, [], 0, 0⟩⟩
def childP (c : PC) : Prop := 2 ≤ c.page ∧ c.page < 65536
def thereP (c : PC) : Prop := c.page = 0 ∧ c.count = 0
instance (c : PC) : Decidable (childP c) := by unfold childP; infer_instance
instance (c : PC) : Decidable (thereP c) := by unfold thereP; infer_instance
def mayP (kind : Int) (P : Nat) (c : PC) : Bool :=
  if P / 8 < c.key.length ∨ (kind = 2 ∧ c.key.length = 0) ∨ (c.kind ≠ 1 ∧ 0 < c.val.length) then false
  else if kind = 3 then decide (c.kind = 3 ∧ childP c ∧ 1 ≤ c.count ∧ c.count ≤ 1073741824)
  else if c.kind = 1 then decide (thereP c ∧ c.val.length ≤ P / 16 * 3)
  else if c.kind = 2 then decide (childP c ∧ (P / 16 * 3 : Nat) < c.count ∧ c.count ≤ 65536)
  else if c.kind = 4 then decide (thereP c ∨ (childP c ∧ 1 ≤ c.count ∧ c.count ≤ 1073741824))
  else false
def longF (c : PC) : Nat := if c.kind = 1 then 5 + c.key.length + c.val.length else 11 + c.key.length
def sizeF : List PC → Nat
  | [] => 8
  | c :: r => sizeF r + (2 + longF c)
def longsF : List PC → Nat
  | [] => 0
  | c :: r => longF c + longsF r
theorem sizeF_eq (l : List PC) : sizeF l = 8 + 2 * l.length + longsF l := by
  induction l with
  | nil => rfl
  | cons c r ih => simp only [sizeF, longsF, List.length_cons, ih]; omega
theorem longsF_append (a b : List PC) : longsF (a ++ b) = longsF a + longsF b := by
  induction a with
  | nil => simp [longsF]
  | cons c r ih => simp only [List.cons_append, longsF, ih]; omega
theorem sizeF_append (a b : List PC) : sizeF (a ++ b) = sizeF a + (sizeF b - 8) := by
  rw [sizeF_eq, sizeF_eq, sizeF_eq, longsF_append, List.length_append]; omega
theorem longF_pos (c : PC) : 5 ≤ longF c := by unfold longF; split <;> omega
/-- What follows the key. -/
def tailF (c : PC) : List UInt8 := if c.kind = 1 then fixedF c.val.length 2 ++ c.val else fixedF c.page.toNat 4 ++ fixedF c.count.toNat 4
def cellF (c : PC) : List UInt8 := UInt8.ofNat c.kind.toNat :: (fixedF c.key.length 2 ++ (c.key ++ tailF c))
theorem tailF_length (c : PC) : (tailF c).length = if c.kind = 1 then 2 + c.val.length else 8 := by
  unfold tailF
  split
  · rw [List.length_append, fixedF_length]
  · rw [List.length_append, fixedF_length, fixedF_length]
theorem cellF_length (c : PC) : (cellF c).length = longF c := by
  unfold cellF longF
  rw [List.length_cons, List.length_append, List.length_append, fixedF_length, tailF_length]
  split <;> omega
def bodyF : List PC → List UInt8
  | [] => []
  | c :: r => cellF c ++ bodyF r
theorem bodyF_length (l : List PC) : (bodyF l).length = longsF l := by
  induction l with
  | nil => rfl
  | cons c r ih => simp [bodyF, longsF, cellF_length, ih]
theorem bodyF_append (a b : List PC) : bodyF (a ++ b) = bodyF a ++ bodyF b := by
  induction a with
  | nil => rfl
  | cons c r ih => simp [bodyF, ih]
def slotsF : Nat → List PC → List UInt8
  | _, [] => []
  | at_, c :: r => fixedF at_ 2 ++ slotsF (at_ + longF c) r
theorem slotsF_length (at_ : Nat) (l : List PC) : (slotsF at_ l).length = 2 * l.length := by
  induction l generalizing at_ with
  | nil => rfl
  | cons c r ih => simp [slotsF, fixedF_length, ih]; omega
theorem slotsF_append (at_ : Nat) (a b : List PC) : slotsF at_ (a ++ b) = slotsF at_ a ++ slotsF (at_ + longsF a) b := by
  induction a generalizing at_ with
  | nil => simp [slotsF, longsF]
  | cons c r ih => simp only [List.cons_append, slotsF, ih, longsF, List.append_assoc]; rw [Nat.add_assoc]
/-- The place of the first cell. -/
def atF (l : List PC) (P : Nat) : Nat := P - 4 - longsF l
def headF (kind : Int) (n : Nat) : List UInt8 := UInt8.ofNat kind.toNat :: 1 :: fixedF n 2
def preF (kind : Int) (l : List PC) (P : Nat) : List UInt8 :=
  headF kind l.length ++ (slotsF (atF l P) l ++ (List.replicate (P - 4 - longsF l - 4 - 2 * l.length) 0 ++ bodyF l))
def laidF (kind : Int) (l : List PC) (P : Nat) : List UInt8 := preF kind l P ++ fixedF (sumF (preF kind l P)) 4
theorem headF_length (kind : Int) (n : Nat) : (headF kind n).length = 4 := by simp [headF, fixedF_length]
theorem preF_length {kind : Int} {l : List PC} {P : Nat} (h : sizeF l ≤ P) : (preF kind l P).length = P - 4 := by
  rw [sizeF_eq] at h
  unfold preF
  simp only [List.length_append, headF_length, slotsF_length, List.length_replicate, bodyF_length]
  omega
theorem laidF_length {kind : Int} {l : List PC} {P : Nat} (h : sizeF l ≤ P) : (laidF kind l P).length = P := by
  have := sizeF_eq l
  unfold laidF
  rw [List.length_append, preF_length h, fixedF_length]; omega
/-! ### what Encode tells -/
def afterP (p : Option (List UInt8)) (k : List UInt8) : Bool := match p with
  | none => true
  | some q => decide (ordC q k < 0)
def scanE (kind : Int) (P : Nat) : Option (List UInt8) → List PC → Int
  | _, [] => 0
  | p, c :: r => if mayP kind P c = false then 62 else if afterP p c.key = false then 63 else scanE kind P (some c.key) r
def isKindB (kind : Int) : Bool := decide (kind = 2 ∨ kind = 3)
def encE (kind : Int) (l : List PC) (P : Nat) : Int := if scanE kind P none l ≠ 0 then scanE kind P none l else if P < sizeF l then 61 else 0
def prevK (l : List PC) (i : Nat) : Option (List UInt8) := if i = 0 then none else some (l.getD (i - 1) default).key
theorem scan_step {kind : Int} {P : Nat} {l : List PC} {i : Nat} (hi : i < l.length) :
    scanE kind P (prevK l i) (l.drop i) = if mayP kind P l[i] = false then 62 else if afterP (prevK l i) l[i].key = false then 63 else scanE kind P (prevK l (i + 1)) (l.drop (i + 1)) := by
  rw [List.drop_eq_getElem_cons hi, scanE]
  have e : prevK l (i + 1) = some l[i].key := by
    unfold prevK
    rw [if_neg (by omega)]
    simp [List.getD, hi]
  rw [e]
theorem scan_range (kind : Int) (P : Nat) : ∀ (l : List PC) (p : Option (List UInt8)), scanE kind P p l = 0 ∨ scanE kind P p l = 62 ∨ scanE kind P p l = 63
  | [], _ => .inl rfl
  | c :: r, p => by
    rw [scanE]
    split
    · exact .inr (.inl rfl)
    · split
      · exact .inr (.inr rfl)
      · exact scan_range kind P r _
theorem scan_may {kind : Int} {P : Nat} : ∀ {l : List PC} {p : Option (List UInt8)}, scanE kind P p l = 0 → ∀ c ∈ l, mayP kind P c = true
  | [], _, _, c, hc => by cases hc
  | c :: r, p, h, d, hd => by
    rw [scanE] at h
    split at h
    · cases h
    · rename_i hm
      split at h
      · cases h
      · rcases List.mem_cons.1 hd with rfl | hd
        · simpa using hm
        · exact scan_may h d hd
/-- What a cell that may be is like. -/
structure OkC (P : Nat) (c : PC) : Prop where
  k0 : c.key.length ≤ P / 8
  kd : 1 ≤ c.kind ∧ c.kind ≤ 4
  v0 : c.kind = 1 → c.val.length ≤ P / 16 * 3 ∧ c.page = 0 ∧ c.count = 0
  v1 : c.kind ≠ 1 → c.val = [] ∧ 0 ≤ c.page ∧ c.page < 65536 ∧ 0 ≤ c.count ∧ c.count ≤ 1073741824
theorem may_ok {kind : Int} {P : Nat} {c : PC} (h : mayP kind P c = true) : OkC P c := by
  unfold mayP at h
  split at h
  · cases h
  · rename_i hn
    have h1 : c.key.length ≤ P / 8 := by omega
    have h2 : c.kind ≠ 1 → c.val = [] := fun hk => List.eq_nil_of_length_eq_zero (by omega)
    split at h
    · have h := of_decide_eq_true h
      unfold childP at h
      exact ⟨h1, by omega, fun e => by omega, fun e => ⟨h2 e, by omega, by omega, by omega, by omega⟩⟩
    · split at h
      · have h := of_decide_eq_true h
        unfold thereP at h
        exact ⟨h1, by omega, fun _ => ⟨h.2, h.1.1, h.1.2⟩, fun e => absurd ‹c.kind = 1› e⟩
      · split at h
        · have h := of_decide_eq_true h
          unfold childP at h
          exact ⟨h1, by omega, fun e => by omega, fun e => ⟨h2 e, by omega, by omega, by omega, by omega⟩⟩
        · split at h
          · have h := of_decide_eq_true h
            unfold childP thereP at h
            refine ⟨h1, by omega, fun e => by omega, fun e => ⟨h2 e, ?_⟩⟩
            rcases h with h | h <;> omega
          · cases h
theorem longF_le {P : Nat} {c : PC} (h : OkC P c) (hP : P ≤ 65536) : longF c ≤ 65536 := by
  have := h.k0
  unfold longF
  split
  · have := (h.v0 (by assumption)).1; omega
  · omega
theorem longs_le {P : Nat} {l : List PC} (h : ∀ c ∈ l, OkC P c) (hP : P ≤ 65536) : longsF l ≤ 65536 * l.length := by
  induction l with
  | nil => simp [longsF]
  | cons c r ih =>
    have h1 := longF_le (h c (by simp)) hP
    have h2 := ih fun d hd => h d (by simp [hd])
    simp only [longsF, List.length_cons]; omega
theorem encE_zero {kind : Int} {l : List PC} {P : Nat} : encE kind l P = 0 ↔ scanE kind P none l = 0 ∧ sizeF l ≤ P := by
  unfold encE
  split
  · rename_i h; exact ⟨fun e => absurd e h, fun e => absurd e.1 h⟩
  · rename_i h
    split
    · exact ⟨fun e => by omega, fun e => by omega⟩
    · exact ⟨fun _ => ⟨by simpa using h, by omega⟩, fun _ => rfl⟩
/-! ### how a page is read -/
def numAt (b : List UInt8) (at_ w : Nat) : Nat := numF ((b.drop at_).take w)
def cellP (b : List UInt8) (at_ end_ : Nat) : Option (PC × Nat) :=
  if end_ < at_ + 3 then none
  else
    if end_ < at_ + 3 + (numAt b (at_ + 1) 2) + 2 then none
    else
      if ((b.getD at_ 0).toNat : Int) ≠ 1 then
        if end_ < at_ + 3 + (numAt b (at_ + 1) 2) + 8 then none
        else some (⟨(b.drop (at_ + 3)).take (numAt b (at_ + 1) 2), (b.getD at_ 0).toNat, [], (numAt b (at_ + 3 + (numAt b (at_ + 1) 2)) 4 : Nat), (numAt b (at_ + 3 + (numAt b (at_ + 1) 2) + 4) 4 : Nat)⟩, at_ + 3 + (numAt b (at_ + 1) 2) + 8)
      else
        if end_ < at_ + 3 + (numAt b (at_ + 1) 2) + 2 + numAt b (at_ + 3 + (numAt b (at_ + 1) 2)) 2 then none
        else some (⟨(b.drop (at_ + 3)).take (numAt b (at_ + 1) 2), (b.getD at_ 0).toNat, (b.drop (at_ + 3 + (numAt b (at_ + 1) 2) + 2)).take (numAt b (at_ + 3 + (numAt b (at_ + 1) 2)) 2), 0, 0⟩, at_ + 3 + (numAt b (at_ + 1) 2) + 2 + numAt b (at_ + 3 + (numAt b (at_ + 1) 2)) 2)
def cellsP (b : List UInt8) (end_ : Nat) : Nat → Nat → Option (List PC)
  | _, 0 => some []
  | at_, n + 1 => match cellP b at_ end_ with
    | none => none
    | some (c, tz) => (cellsP b end_ tz n).map (c :: ·)
def firstP (b : List UInt8) (n end_ : Nat) : Nat := if 0 < n then numAt b 4 2 else end_
def parseF (b : List UInt8) : Option (List PC) :=
  if b.length - 4 < 4 + 2 * numAt b 2 2 then none else cellsP b (b.length - 4) (firstP b (numAt b 2 2) (b.length - 4)) (numAt b 2 2)
def kindF (b : List UInt8) : Int := ((b.getD 0 0).toNat : Int)
theorem numF_fixedF (n k : Nat) (h : n < 256 ^ k) : numF (fixedF n k) = n := by
  induction k generalizing n with
  | zero => simp [fixedF, numF]; simp at h; omega
  | succ k ih =>
    rw [Nat.pow_succ] at h
    have hd : n / 256 < 256 ^ k := Nat.div_lt_of_lt_mul (by rw [Nat.mul_comm]; exact h)
    rw [fixedF, numF_snoc, ih _ hd, UInt8.toNat_ofNat']
    omega
theorem numAt_mid {b pre rest : List UInt8} {n w at_ : Nat} (hb : b = pre ++ (fixedF n w ++ rest)) (ha : pre.length = at_) (hn : n < 256 ^ w) : numAt b at_ w = n := by
  subst hb ha
  unfold numAt
  rw [List.drop_left, List.take_left' (fixedF_length n w), numF_fixedF n w hn]
theorem take_mid {b pre x rest : List UInt8} {n at_ : Nat} (hb : b = pre ++ (x ++ rest)) (ha : pre.length = at_) (hn : x.length = n) : (b.drop at_).take n = x := by
  subst hb ha
  rw [List.drop_left, List.take_left' hn]
/-- A cell that stands there is read. -/
theorem cellP_mid {P : Nat} {b pre rest : List UInt8} {c : PC} {at_ end_ : Nat} (hc : OkC P c) (hP : P ≤ 65536) (hb : b = pre ++ (cellF c ++ rest)) (ha : pre.length = at_) (he : at_ + longF c ≤ end_) : cellP b at_ end_ = some (c, at_ + longF c) := by
  obtain ⟨key, kind, val, page, count⟩ := c
  have hk0 := hc.k0
  have hkd := hc.kd
  have hv0 := hc.v0
  have hv1 := hc.v1
  simp only at hk0 hkd hv0 hv1
  have hl5 := longF_pos ⟨key, kind, val, page, count⟩
  have e0 : b.getD at_ 0 = UInt8.ofNat kind.toNat := by
    subst hb ha
    simp [cellF, List.getD]
  have ek : (((b.getD at_ 0).toNat : Nat) : Int) = kind := by rw [e0, UInt8.toNat_ofNat']; omega
  have e1 : numAt b (at_ + 1) 2 = key.length := by
    refine numAt_mid (pre := pre ++ [UInt8.ofNat kind.toNat]) (rest := (key ++ tailF ⟨key, kind, val, page, count⟩) ++ rest) ?_ (by simp [ha]) (by omega)
    subst hb; simp [cellF]
  have e2 : (b.drop (at_ + 3)).take key.length = key := by
    refine take_mid (pre := pre ++ (UInt8.ofNat kind.toNat :: fixedF key.length 2)) (rest := tailF ⟨key, kind, val, page, count⟩ ++ rest) ?_ (by simp [ha, fixedF_length]) rfl
    subst hb; simp [cellF]
  have hpre : (pre ++ (UInt8.ofNat kind.toNat :: (fixedF key.length 2 ++ key))).length = at_ + 3 + key.length := by simp [ha, fixedF_length]; omega
  unfold longF at he hl5 ⊢
  simp only at he hl5 ⊢
  unfold cellP
  rw [e1, e2, ek]
  by_cases h1 : kind = 1
  · obtain ⟨hv, hp0, hc0⟩ := hv0 h1
    rw [if_pos h1] at he hl5 ⊢
    have e3 : numAt b (at_ + 3 + key.length) 2 = val.length := by
      refine numAt_mid (rest := val ++ rest) ?_ hpre (by omega)
      subst hb; simp [cellF, tailF, h1]
    have e4 : (b.drop (at_ + 3 + key.length + 2)).take val.length = val := by
      refine take_mid (pre := pre ++ (UInt8.ofNat kind.toNat :: (fixedF key.length 2 ++ key)) ++ fixedF val.length 2) (rest := rest) ?_ (by rw [List.length_append, hpre, fixedF_length]) rfl
      subst hb; simp [cellF, tailF, h1]
    rw [e3, e4, if_neg (by omega), if_neg (by omega), if_neg (by simp [h1]), if_neg (by omega), hp0, hc0]
    simp only [Option.some.injEq, Prod.mk.injEq, true_and]
    omega
  · obtain ⟨hv, hp0, hp1, hc0, hc1⟩ := hv1 h1
    rw [if_neg h1] at he hl5 ⊢
    have e3 : numAt b (at_ + 3 + key.length) 4 = page.toNat := by
      refine numAt_mid (rest := fixedF count.toNat 4 ++ rest) ?_ hpre (by omega)
      subst hb; simp [cellF, tailF, h1]
    have e4 : numAt b (at_ + 3 + key.length + 4) 4 = count.toNat := by
      refine numAt_mid (pre := pre ++ (UInt8.ofNat kind.toNat :: (fixedF key.length 2 ++ key)) ++ fixedF page.toNat 4) (rest := rest) ?_ (by rw [List.length_append, hpre, fixedF_length]) (by omega)
      subst hb; simp [cellF, tailF, h1]
    rw [e3, e4, if_neg (by omega), if_neg (by omega), if_pos h1, if_neg (by omega), hv, show ((page.toNat : Nat) : Int) = page by omega, show ((count.toNat : Nat) : Int) = count by omega]
    simp only [Option.some.injEq, Prod.mk.injEq, true_and]
    omega
theorem cellsP_mid {P : Nat} {b rest : List UInt8} {end_ : Nat} (hP : P ≤ 65536) : ∀ (l : List PC) (pre : List UInt8) (at_ : Nat), (∀ c ∈ l, OkC P c) → b = pre ++ (bodyF l ++ rest) → pre.length = at_ → at_ + longsF l ≤ end_ → cellsP b end_ at_ l.length = some l
  | [], _, _, _, _, _, _ => rfl
  | c :: r, pre, at_, hl, hb, ha, he => by
    have e1 := cellP_mid (b := b) (pre := pre) (at_ := at_) (c := c) (rest := bodyF r ++ rest) (end_ := end_) (hl c (by simp)) hP (by rw [hb]; simp [bodyF]) ha (by simp only [longsF] at he; omega)
    have e2 := cellsP_mid (b := b) (end_ := end_) (rest := rest) hP r (pre ++ cellF c) (at_ + longF c) (fun d hd => hl d (by simp [hd])) (by rw [hb]; simp [bodyF]) (by simp [ha, cellF_length]) (by simp only [longsF] at he; omega)
    rw [List.length_cons, cellsP, e1]
    show (cellsP b end_ (at_ + longF c) r.length).map (c :: ·) = _
    rw [e2]; rfl
/-- What Encode writes is read. -/
theorem parse_laid {kind : Int} {l : List PC} {P : Nat} (hP : P ≤ 65536) (hk : isKindB kind = true) (h : encE kind l P = 0) : parseF (laidF kind l P) = some l ∧ kindF (laidF kind l P) = kind := by
  obtain ⟨h1, h2⟩ := encE_zero.1 h
  have hok : ∀ c ∈ l, OkC P c := fun c hc => may_ok (scan_may h1 c hc)
  have hs := sizeF_eq l
  have hL := laidF_length (kind := kind) h2
  have hkd : kind = 2 ∨ kind = 3 := of_decide_eq_true hk
  have hB : laidF kind l P = (UInt8.ofNat kind.toNat :: 1 :: (fixedF l.length 2 ++ (slotsF (atF l P) l ++ (List.replicate (P - 4 - longsF l - 4 - 2 * l.length) 0 ++ bodyF l)))) ++ fixedF (sumF (preF kind l P)) 4 := by
    unfold laidF
    congr 1
  constructor
  · have e1 : numAt (laidF kind l P) 2 2 = l.length := by
      refine numAt_mid (pre := [UInt8.ofNat kind.toNat, 1]) (rest := (slotsF (atF l P) l ++ (List.replicate (P - 4 - longsF l - 4 - 2 * l.length) 0 ++ bodyF l)) ++ fixedF (sumF (preF kind l P)) 4) ?_ rfl (by omega)
      rw [hB]; try simp
    unfold parseF
    rw [e1, hL, if_neg (by omega)]
    have e2 : l ≠ [] → firstP (laidF kind l P) l.length (P - 4) = atF l P := by
      intro hne
      cases l with
      | nil => exact absurd rfl hne
      | cons c r =>
        unfold firstP
        rw [if_pos (by simp)]
        refine numAt_mid (pre := headF kind (c :: r).length) (rest := slotsF (atF (c :: r) P + longF c) r ++ (List.replicate (P - 4 - longsF (c :: r) - 4 - 2 * (c :: r).length) 0 ++ bodyF (c :: r)) ++ fixedF (sumF (preF kind (c :: r) P)) 4) ?_ (headF_length _ _) (by unfold atF; omega)
        rw [hB]; try simp [headF, slotsF]
    by_cases hne : l = []
    · subst hne; rfl
    · rw [e2 hne]
      refine cellsP_mid (P := P) (rest := fixedF (sumF (preF kind l P)) 4) hP l (headF kind l.length ++ (slotsF (atF l P) l ++ List.replicate (P - 4 - longsF l - 4 - 2 * l.length) 0)) (atF l P) hok ?_ ?_ ?_
      · rw [hB]; try simp [headF]
      · simp only [List.length_append, headF_length, slotsF_length, List.length_replicate]; unfold atF; omega
      · unfold atF; omega
  · unfold kindF
    rw [hB]
    simp only [List.cons_append, List.getD_cons_zero, UInt8.toNat_ofNat']
    omega
end Go.Proofs.Ytgnhakgfgdelpaa

-- Powers of two from 512 to 65536.
namespace Go.Proofs.Ytgnhakgfgdelpaa
open Go.RowKit
def isPow (p : Int) : Prop := p = 512 ∨ p = 1024 ∨ p = 2048 ∨ p = 4096 ∨ p = 8192 ∨ p = 16384 ∨ p = 32768 ∨ p = 65536
instance (p : Int) : Decidable (isPow p) := by unfold isPow; infer_instance
def isPowB (p : Int) : Bool := decide (isPow p)
theorem and_pred (k p : Nat) (h1 : 2 ^ k ≤ p) (h2 : p < 2 ^ (k + 1)) : p &&& (p - 1) = 0 ↔ p = 2 ^ k := by
  constructor
  · intro h
    rcases Nat.lt_or_ge (2 ^ k) p with hlt | hge
    · have h3 : p.testBit k = true := by
        have := Nat.testBit_two_pow_add_eq (p - 2 ^ k) k
        rw [show 2 ^ k + (p - 2 ^ k) = p by omega] at this
        rw [this, Nat.testBit_lt_two_pow (by rw [Nat.pow_succ] at h2; omega)]; rfl
      have h4 : (p - 1).testBit k = true := by
        have := Nat.testBit_two_pow_add_eq (p - 1 - 2 ^ k) k
        rw [show 2 ^ k + (p - 1 - 2 ^ k) = p - 1 by omega] at this
        rw [this, Nat.testBit_lt_two_pow (by rw [Nat.pow_succ] at h2; omega)]; rfl
      have h5 := congrArg (fun x => Nat.testBit x k) h
      simp [Nat.testBit_and, h3, h4] at h5
    · omega
  · rintro rfl
    apply Nat.eq_of_testBit_eq
    intro i
    rw [Nat.testBit_and, Nat.testBit_two_pow, Nat.testBit_two_pow_sub_one]
    by_cases h : k = i
    · subst h; simp
    · simp [h]
theorem i64_and_nat (a b : Nat) (ha : a < 9223372036854775808) (hb : b < 9223372036854775808) : bits .and .i64 (a : Int) (b : Int) = ((a &&& b : Nat) : Int) := by
  have oi : ∀ a : Nat, a < 9223372036854775808 → (BitVec.ofInt 64 (a : Int)).toNat = a := fun a ha => by
    rw [BitVec.ofInt_natCast, BitVec.toNat_ofNat]; exact Nat.mod_eq_of_lt (by omega)
  have hx : a &&& b < 2 ^ 63 := Nat.and_lt_two_pow _ (by omega)
  show IntKind.i64.wrap ((BitVec.ofInt 64 (a : Int) &&& BitVec.ofInt 64 (b : Int)).toNat : Int) = _
  rw [BitVec.toNat_and, oi a ha, oi b hb, IntKind.wrap_i64]
  omega
theorem pow_test (p : Int) (h1 : 512 ≤ p) (h2 : p ≤ 65536) : (bits .and .i64 p (p - 1) != 0) = !isPowB p := by
  obtain ⟨n, rfl⟩ := Int.eq_ofNat_of_zero_le (show 0 ≤ p by omega)
  have e : ((n : Int) - 1) = ((n - 1 : Nat) : Int) := by omega
  rw [e, i64_and_nat n (n - 1) (by omega) (by omega)]
  have key : n &&& (n - 1) = 0 ↔ isPow n := by
    unfold isPow
    rcases Nat.lt_or_ge n 1024 with h | h
    · rw [and_pred 9 n (by omega) (by omega)]; omega
    rcases Nat.lt_or_ge n 2048 with h | h
    · rw [and_pred 10 n (by omega) (by omega)]; omega
    rcases Nat.lt_or_ge n 4096 with h | h
    · rw [and_pred 11 n (by omega) (by omega)]; omega
    rcases Nat.lt_or_ge n 8192 with h | h
    · rw [and_pred 12 n (by omega) (by omega)]; omega
    rcases Nat.lt_or_ge n 16384 with h | h
    · rw [and_pred 13 n (by omega) (by omega)]; omega
    rcases Nat.lt_or_ge n 32768 with h | h
    · rw [and_pred 14 n (by omega) (by omega)]; omega
    rcases Nat.lt_or_ge n 65536 with h | h
    · rw [and_pred 15 n (by omega) (by omega)]; omega
    · rw [and_pred 16 n (by omega) (by omega)]; omega
  unfold isPowB
  by_cases h : isPow n
  · rw [key.2 h]; simp [h]
  · have : n &&& (n - 1) ≠ 0 := fun h' => h (key.1 h')
    simp only [h, decide_false, Bool.not_false, bne_iff_ne]; omega
theorem isPowB_range {p : Int} (h : isPowB p = true) : 512 ≤ p ∧ p ≤ 65536 := by
  have := of_decide_eq_true h
  unfold isPow at this
  omega
theorem pow_eq (p : Int) (h1 : 512 ≤ p) (h2 : p ≤ 65536) : (bits .and .i64 p (p - 1) == 0) = isPowB p := by
  have h := pow_test p h1 h2
  have e : (bits .and .i64 p (p - 1) != 0) = !(bits .and .i64 p (p - 1) == 0) := rfl
  rw [e] at h
  simpa using h
theorem isPowB_out {p : Int} (h : p < 512 ∨ 65536 < p) : isPowB p = false := by
  cases e : isPowB p
  · rfl
  · have := isPowB_range e
    omega
end Go.Proofs.Ytgnhakgfgdelpaa

-- Pages of long values: what is written, how it is read: plain laws.
namespace Go.Proofs.Ytgnhakgfgdelpaa
def i64w (n : Int) : Prop := -9223372036854775808 ≤ n ∧ n ≤ 9223372036854775807
def spZ (next : Int) (d : List UInt8) (P : Int) : Int := if isPowB P = false ∨ (next ≠ 0 ∧ (next < 2 ∨ 65536 ≤ next)) then 1 else if d.length = 0 ∨ P - 16 < (d.length : Int) then 31 else 0
def preS (next : Int) (d : List UInt8) (P : Nat) : List UInt8 := 4 :: 0 :: 0 :: 0 :: (fixedF next.toNat 4 ++ (fixedF d.length 4 ++ (d ++ List.replicate (P - 16 - d.length) 0)))
def laidS (next : Int) (d : List UInt8) (P : Nat) : List UInt8 := preS next d P ++ fixedF (sumF (preS next d P)) 4
def spL (next : Int) (d : List UInt8) (P : Int) : List UInt8 := if spZ next d P = 0 then laidS next d P.toNat else []
theorem spZ_zero {next : Int} {d : List UInt8} {P : Int} (h : spZ next d P = 0) : isPowB P = true ∧ (next = 0 ∨ (2 ≤ next ∧ next < 65536)) ∧ 1 ≤ d.length ∧ (d.length : Int) + 16 ≤ P ∧ 512 ≤ P ∧ P ≤ 65536 := by
  unfold spZ at h
  split at h
  · cases h
  · rename_i h1
    split at h
    · cases h
    · rename_i h2
      have hp : isPowB P = true := by
        cases e : isPowB P with
        | true => rfl
        | false => exact absurd (.inl e) h1
      have := isPowB_range hp
      refine ⟨hp, ?_, by omega, by omega, this.1, this.2⟩
      rcases (by omega : next < 0 ∨ 0 ≤ next) with h3 | h3
      · exact absurd (.inr ⟨by omega, by omega⟩) h1
      · by_cases h4 : next = 0
        · exact .inl h4
        · right
          constructor
          · rcases (by omega : next < 2 ∨ 2 ≤ next) with h5 | h5
            · exact absurd (.inr ⟨h4, .inl h5⟩) h1
            · exact h5
          · rcases (by omega : next < 65536 ∨ 65536 ≤ next) with h5 | h5
            · exact h5
            · exact absurd (.inr ⟨h4, .inr h5⟩) h1
theorem spZ_range (next : Int) (d : List UInt8) (P : Int) : 0 ≤ spZ next d P ∧ spZ next d P ≤ 31 := by
  unfold spZ; split
  · simp
  · split <;> simp
theorem preS_length {next : Int} {d : List UInt8} {P : Nat} (h : d.length + 16 ≤ P) : (preS next d P).length = P - 4 := by
  unfold preS
  simp only [List.length_cons, List.length_append, fixedF_length, List.length_replicate]; omega
theorem laidS_length {next : Int} {d : List UInt8} {P : Nat} (h : d.length + 16 ≤ P) : (laidS next d P).length = P := by
  unfold laidS
  rw [List.length_append, preS_length h, fixedF_length]; omega
theorem spL_length (next : Int) (d : List UInt8) (P : Int) : (spL next d P).length ≤ 65536 := by
  unfold spL
  split
  · rename_i h
    have := spZ_zero h
    rw [laidS_length (by omega)]; omega
  · simp
/-- What a spill page says. -/
def isSp (b : List UInt8) (next : Int) (d : List UInt8) : Prop := spZ next d (b.length : Int) = 0 ∧ laidS next d b.length = b
theorem parse_laidS {next : Int} {d : List UInt8} {P : Nat} (h : spZ next d (P : Int) = 0) : (numAt (laidS next d P) 4 4 : Int) = next ∧ numAt (laidS next d P) 8 4 = d.length ∧ ((laidS next d P).drop 12).take d.length = d := by
  obtain ⟨h1, h2, h3, h4, h5, h6⟩ := spZ_zero h
  have hB : laidS next d P = (4 :: 0 :: 0 :: 0 :: (fixedF next.toNat 4 ++ (fixedF d.length 4 ++ (d ++ List.replicate (P - 16 - d.length) 0)))) ++ fixedF (sumF (preS next d P)) 4 := rfl
  refine ⟨?_, ?_, ?_⟩
  · have : numAt (laidS next d P) 4 4 = next.toNat := by
      refine numAt_mid (pre := [4, 0, 0, 0]) (rest := (fixedF d.length 4 ++ (d ++ List.replicate (P - 16 - d.length) 0)) ++ fixedF (sumF (preS next d P)) 4) (by rw [hB]; simp) rfl (by show _ < 4294967296; omega)
    rw [this]; omega
  · refine numAt_mid (pre := 4 :: 0 :: 0 :: 0 :: fixedF next.toNat 4) (rest := (d ++ List.replicate (P - 16 - d.length) 0) ++ fixedF (sumF (preS next d P)) 4) (by rw [hB]; simp) (by simp [fixedF_length]) (by show _ < 4294967296; omega)
  · refine take_mid (pre := 4 :: 0 :: 0 :: 0 :: (fixedF next.toNat 4 ++ fixedF d.length 4)) (rest := List.replicate (P - 16 - d.length) 0 ++ fixedF (sumF (preS next d P)) 4) (by rw [hB]; simp) (by simp [fixedF_length]) rfl
theorem isSp_parse {b : List UInt8} {next : Int} {d : List UInt8} (h : isSp b next d) : (numAt b 4 4 : Int) = next ∧ numAt b 8 4 = d.length ∧ (b.drop 12).take d.length = d := by
  obtain ⟨h1, h2⟩ := h
  have := parse_laidS h1
  rw [h2] at this
  exact this
/-- How many pages a value takes. -/
def pagesF (page n : Int) : Int := if isPowB page = false ∨ n < 1 then 0 else (n - 1) / (page - 16) + 1
end Go.Proofs.Ytgnhakgfgdelpaa

-- A map from integers to byte lists, as a function: laws at its operations.
namespace Go.Proofs.Ytgnhakgfgdelpaa
open Go.RowKit Go.Maps
def nilV : Value := .slice none 0 0
def heldR (v : Value) : Option (DataW Value × List MemPlace) := some (.held v, [])
theorem i64w.wf {n : Int} (h : i64w n) : (Lit.int .i64 n).wf = true := by
  obtain ⟨h1, h2⟩ := h
  have e1 : IntKind.min .i64 = -9223372036854775808 := by decide
  have e2 : IntKind.max .i64 = 9223372036854775807 := by decide
  simp [Lit.wf, e1, e2]
  omega
theorem keyedI : Keyed Try.prog 3 := int_keyed Try.underlying3
theorem key_lit {n : Int} (h : i64w n) : WideAt.IsKeyLit (.int .i64 n) := by
  obtain ⟨k, hk⟩ : ∃ k, keyOf Try.prog 3 (.int .i64 n) = some k := ⟨_, keyOf_int_mk Try.underlying3 h.wf⟩
  trivial
theorem int_ne {n m : Int} (h : n ≠ m) : (Lit.int .i64 n) ≠ (Lit.int .i64 m) := fun e => h (by injection e)
/-- Block b is a map of cnt entries: at n stands pv n. -/
def MapAt (w : World) (b : Nat) (pv : Int → Option Value) (cnt : Nat) : Prop := ∃ D : DataW Value, w.ownsMap Try.prog 3 heldR b cnt D ∧ Maps.size D = cnt ∧
  ∀ n, i64w n → Maps.has D (.int .i64 n) = (pv n).isSome ∧ D.atKey (.int .i64 n) (.held nilV) = .held ((pv n).getD nilV)
def putM (pv : Int → Option Value) (n : Int) (v : Option Value) : Int → Option Value := fun m => if m = n then v else pv m
theorem putM_same {pv : Int → Option Value} {n : Int} {v : Option Value} : putM pv n v n = v := by unfold putM; rw [if_pos rfl]
theorem putM_other {pv : Int → Option Value} {n m : Int} {v : Option Value} (h : m ≠ n) : putM pv n v m = pv m := by unfold putM; rw [if_neg h]
section
variable {w w' : World} {b cnt : Nat} {pv : Int → Option Value}
theorem MapAt.made (w : World) : MapAt (w.alloc (.map #[] 0)) w.heap.size (fun _ => none) 0 :=
  ⟨.map [], World.ownsMap_made _ _ _ _, rfl, fun _ _ => ⟨rfl, rfl⟩⟩
theorem MapAt.heap (h : MapAt w b pv cnt) (hb : w'.heap[b]? = w.heap[b]?) : MapAt w' b pv cnt := by
  obtain ⟨D, ⟨es, clock, h1, h2⟩, h3⟩ := h
  exact ⟨D, ⟨es, clock, hb.trans h1, h2⟩, h3⟩
theorem MapAt.lt (h : MapAt w b pv cnt) : b < w.heap.size := by obtain ⟨D, h1, _⟩ := h; exact h1.lt
theorem MapAt.exact {D : DataW Value} {n : Nat} (h : w.ownsMap Try.prog 3 heldR b n D) : w.ownsMap Try.prog 3 heldR b (Maps.size D) D := by
  obtain ⟨es, clock, h1, h2, _, rfl⟩ := h
  exact ⟨es, clock, h1, h2, by simp [Maps.size, length_sorted], rfl⟩
variable {ops : Array Oper} {rest : List Oper} {o : Oper} {a : Act} {Q : Exit → Act → World → Prop}
theorem wp_look (hg : o.guard = none) (m x : Operand) (hop : o.op = Op.lookup 74 m x true) (hM : MapAt w b pv cnt) (hm : a.eval m = .map (some b)) (n : Int) (hn : i64w n) (hx : a.eval x = .int .i64 n)
    (r : Option Value) (hr : pv n = r) (hK : wpList Try.prog ops Q rest (a.put o.dst (.tuple #[r.getD nilV, .bool r.isSome])) w) : wpList Try.prog ops Q (o :: rest) a w := by
  obtain ⟨D, h1, h2, h3⟩ := hM
  obtain ⟨h4, h5⟩ := h3 n hn
  refine wpList_lookup_own_ok w hg m x 74 hop 3 25 keyedI Try.underlying74 heldR (z := nilV) (by kernel_rfl) (.held nilV) [] rfl b cnt D hm h1 _ _ hx (keyOf_int_mk Try.underlying3 hn.wf) ?_
  intro v ps hv
  rw [h5] at hv
  unfold heldR at hv
  simp only [Option.some.injEq, Prod.mk.injEq, DataW.held.injEq] at hv
  obtain ⟨rfl, _⟩ := hv
  rw [h4, hr]
  exact hK
theorem MapAt.store (hM : MapAt w b pv cnt) (hc : cnt < maxLen) (n : Int) (hn : i64w n) (u : Value) : ∃ w', (Instr.mapUpdate 74 (.map (some b)) (.int .i64 n) u).run Try.prog w = .ok () w' ∧ MapAt w' b (putM pv n (some u)) (if (pv n).isSome then cnt else cnt + 1) ∧ w.mapTurned w' b := by
  obtain ⟨D, h1, h2, h3⟩ := hM
  obtain ⟨w', hrun, k1, k2⟩ := h1.store keyedI Try.underlying74 hc (key := .int .i64 n) (val := u) (d := .held u) (ps := []) (keyOf_int_mk Try.underlying3 hn.wf) rfl
  refine ⟨w', hrun, ⟨D.put (.int .i64 n) (.held u), ?_, ?_, fun m hm' => ?_⟩, k2⟩
  · have k3 := MapAt.exact k1
    rw [size_put (h1.tidy keyedI), (h3 n hn).1, h2] at k3
    exact k3
  · rw [size_put (h1.tidy keyedI), (h3 n hn).1, h2]
  · by_cases e : m = n
    · subst e
      rw [has_put_same h1.isMap (key_lit hn), atKey_put_same h1.isMap (key_lit hn), putM_same]
      exact ⟨rfl, rfl⟩
    · rw [has_put_other (int_ne e), atKey_put_other (int_ne e), putM_other e]
      exact h3 m hm'
theorem wp_store (hg : o.guard = none) (m x v : Operand) (hop : o.op = Op.mapUpdate 74 m x v) (hM : MapAt w b pv cnt) (hc : cnt < maxLen) (hm : a.eval m = .map (some b)) (n : Int) (hn : i64w n) (hx : a.eval x = .int .i64 n) (u : Value) (hv : a.eval v = u)
    (hK : ∀ w', MapAt w' b (putM pv n (some u)) (if (pv n).isSome then cnt else cnt + 1) → w.mapTurned w' b → wpList Try.prog ops Q rest (a.put o.dst undef) w') : wpList Try.prog ops Q (o :: rest) a w := by
  obtain ⟨D, h1, h2, h3⟩ := hM
  refine wpList_mapUpdate_in w hg m x v 74 hop 3 25 keyedI Try.underlying74 heldR b cnt D hm h1 hc _ _ _ hx hv (keyOf_int_mk Try.underlying3 hn.wf) (.held u) [] rfl ?_
  intro w' k1 k2
  refine hK w' ⟨D.put (.int .i64 n) (.held u), ?_, ?_, fun m hm' => ?_⟩ k2
  · have k3 := MapAt.exact k1
    rw [size_put (h1.tidy keyedI), (h3 n hn).1, h2] at k3
    exact k3
  · rw [size_put (h1.tidy keyedI), (h3 n hn).1, h2]
  · by_cases e : m = n
    · subst e
      rw [has_put_same h1.isMap (key_lit hn), atKey_put_same h1.isMap (key_lit hn), putM_same]
      exact ⟨rfl, rfl⟩
    · rw [has_put_other (int_ne e), atKey_put_other (int_ne e), putM_other e]
      exact h3 m hm'
theorem wp_del (hg : o.guard = none) (m x : Operand) (hop : o.op = .call { callee := .builtin .delete, args := #[m, x], argTypes := #[74, 3] }) (hM : MapAt w b pv cnt) (hm : a.eval m = .map (some b)) (n : Int) (hn : i64w n) (hx : a.eval x = .int .i64 n)
    (hK : ∀ w', MapAt w' b (putM pv n none) (if (pv n).isSome then cnt - 1 else cnt) → w.mapTurned w' b → wpList Try.prog ops Q rest (a.put o.dst (.tuple #[])) w') : wpList Try.prog ops Q (o :: rest) a w := by
  obtain ⟨D, h1, h2, h3⟩ := hM
  refine wpList_delete_own w hg m x 74 3 hop 25 keyedI Try.underlying74 heldR b cnt D hm h1 _ _ hx (keyOf_int_mk Try.underlying3 hn.wf) ?_
  intro w' k1 k2
  have hs := size_del (k := .int .i64 n) (h1.tidy keyedI)
  rw [(h3 n hn).1, h2] at hs
  have hs' : Maps.size (D.del (.int .i64 n)) = if (pv n).isSome then cnt - 1 else cnt := by
    cases hq : (pv n).isSome <;> rw [hq] at hs <;> simp at hs ⊢ <;> omega
  refine hK w' ⟨D.del (.int .i64 n), ?_, hs', fun m hm' => ?_⟩ k2
  · have k3 := MapAt.exact k1
    rw [hs'] at k3
    exact k3
  · by_cases e : m = n
    · subst e
      rw [has_del_same, atKey_del_same, putM_same]
      exact ⟨rfl, rfl⟩
    · rw [has_del_other (int_ne e), atKey_del_other (int_ne e), putM_other e]
      exact h3 m hm'
theorem MapAt.obj (hM : MapAt w b pv cnt) : ∃ es clock, w.heap[b]? = some (.map es clock) ∧ es.size = cnt := by
  obtain ⟨D, ⟨es, clock, h1, h2, h3, rfl⟩, h4, _⟩ := hM
  exact ⟨es, clock, h1, by rw [← h4]; simp [Maps.size, length_sorted]⟩
theorem run_len (hM : MapAt w b pv cnt) (ty : TypeId) : (Builtin.len_ #[74] ty #[.map (some b)]).run Try.prog w = .ok (.int .i64 cnt) w := by
  obtain ⟨D, h1, h2, h3⟩ := hM
  rw [h1.len Try.underlying74 ty, h2]
theorem Turn.of_map (h : w.mapTurned w' b) : Turn (fun g => g = b) w w' := Turn.of_grown h.grown (fun k e => (Option.some.inj e).symm)
end
end Go.Proofs.Ytgnhakgfgdelpaa

-- Step laws for regions that draw: string(bytes).
namespace Go.Proofs.Ytgnhakgfgdelpaa
open Go.RowKit
section laws
variable {w : World} {ops : Array Oper} {o : Oper} {a : Act} {Q : Exit → Act → World → Prop}
theorem step_B_string {K : Act → World → Prop} {E : Prop} (hgd : o.guard = none) (x : Operand) (ho : o.op = .convert 25 9 x) (v : Value) (l : List UInt8) (hx : a.eval x = v) (hr : RdB w v l)
    (h : K (a.put o.dst (.string ⟨l.toArray⟩)) w) :
    if Region.wanted o (yielded ops a.tmps) = true then Oper.wp Try.prog o a w K Q else E := by
  have hw : Region.wanted o (yielded ops a.tmps) = true := by simp [Region.wanted, hgd]
  rw [if_pos hw]
  have hrun := run_B_string hr
  unfold Oper.wp
  simp [execOp, ho, hx, hrun, Result.andThen, Oper.upon]
  exact h
/-- .. of an operation that is guarded, where it is wanted. -/
theorem step_B_string_w {K : Act → World → Prop} {E : Prop} (x : Operand) (ho : o.op = .convert 25 9 x) (hw : Region.wanted o (yielded ops a.tmps) = true) (v : Value) (l : List UInt8) (hx : a.eval x = v) (hr : RdB w v l)
    (h : K (a.put o.dst (.string ⟨l.toArray⟩)) w) :
    if Region.wanted o (yielded ops a.tmps) = true then Oper.wp Try.prog o a w K Q else E := by
  rw [if_pos hw]
  have hrun := run_B_string hr
  unfold Oper.wp
  simp [execOp, ho, hx, hrun, Result.andThen, Oper.upon]
  exact h
/-- append(l, m...) of bytes in a region, where it is wanted. -/
theorem step_append_B_w {K : Act → World → Prop} {E : Prop} (s x : Operand)
    (ho : o.op = .call { callee := .builtin .append, args := #[s, x], argTypes := #[25, 25] }) (hw : Region.wanted o (yielded ops a.tmps) = true)
    (base : Nat) (v : Value) (l : List UInt8) (hs : a.eval s = v) (hown : OwB w base v l)
    (vx : Value) (m : List UInt8) (hx : a.eval x = vx) (hr : RdB w vx m) (hsm : l.length + m.length ≤ 140737488355328) (hbase : base ≤ w.heap.size)
    (h : ∀ v' w', OwB w' base v' (l ++ m) → w.grownBy w' v.ownBlock → (v'.ownBlock = v.ownBlock ∨ v'.ownBlock = some w.heap.size) → K (a.put o.dst v') w') :
    if Region.wanted o (yielded ops a.tmps) = true then Oper.wp Try.prog o a w K Q else E := by
  rw [if_pos hw]
  obtain ⟨i, hi, hz0, hz1, hz2⟩ := info_parts u8_info
  obtain ⟨v', w', hr, h2, h3, h4⟩ := run_append_Own (P := Try.prog) w base _ 25 o.type 5 i _ 1 1 Try.underlying25 hi hz0 hz1 hz2 rfl v l.length (bvs l) hown vx m.length (bvs m) (Rd.src w Try.underlying25 (by omega) hr.rd (bvs_one m)) (by omega) hsm hbase
  unfold Oper.wp execOp
  simp only [ho, resolve, invoke, builtin, Sem.run_bind, Sem.run_pure, Result.andThen_ok, List.map_toArray, List.map_cons, List.map_nil, hs, hx, hr]
  refine h v' w' ?_ h3 h4
  unfold OwB
  rw [List.length_append, bvs_append]
  exact h2
end laws
theorem step_append_B {w : World} {ops : Array Oper} {o : Oper} {a : Act} {Q : Exit → Act → World → Prop} {K : Act → World → Prop} {E : Prop} (hgd : o.guard = none) (s x : Operand)
    (ho : o.op = .call { callee := .builtin .append, args := #[s, x], argTypes := #[25, 25] })
    (base : Nat) (v : Value) (l : List UInt8) (hs : a.eval s = v) (hown : OwB w base v l)
    (vx : Value) (m : List UInt8) (hx : a.eval x = vx) (hr : RdB w vx m) (hsm : l.length + m.length ≤ 140737488355328) (hbase : base ≤ w.heap.size)
    (h : ∀ v' w', OwB w' base v' (l ++ m) → w.grownBy w' v.ownBlock → (v'.ownBlock = v.ownBlock ∨ v'.ownBlock = some w.heap.size) → K (a.put o.dst v') w') :
    if Region.wanted o (yielded ops a.tmps) = true then Oper.wp Try.prog o a w K Q else E :=
  step_append_B_w s x ho (by simp [Region.wanted, hgd]) base v l hs hown vx m hx hr hsm hbase h
end Go.Proofs.Ytgnhakgfgdelpaa

-- A bench's memory: laws of make([]byte, 0, n), of stores into its map; what a bench is.
namespace Go.Proofs.Ytgnhakgfgdelpaa
open Go.RowKit Go.Maps
section laws
variable {w : World} {ops : Array Oper} {rest : List Oper} {o : Oper} {a : Act} {Q : Exit → Act → World → Prop} {K : Act → World → Prop} {E : Prop}
/-- make([]byte, 0, n). -/
theorem run_make_0 (w : World) (n : Nat) (hn : n ≤ 281474976710656) : (Instr.makeSlice 25 (.int .i64 0) (.int .i64 (n : Int))).run Try.prog w = .ok (.slice (some ⟨w.heap.size, 0, none⟩) 0 n) (w.alloc (.cells (bvs (List.replicate n 0)).toArray 5)) := by
  obtain ⟨i, hi, hz0, hz1, hz2⟩ := info_parts u8_info
  have hr := run_make (P := Try.prog) w 25 5 i _ Try.underlying25 hi hz0 .i64 .i64 0 n (by omega) (by omega) (by rw [hz2]; omega) (by omega)
  simp at hr
  rw [hr]
  have e := toList_madeCells_one (.int .u8 0) n
  rw [bvs_replicate, ← e]
  simp [Value.cells, hz1]
theorem run_make_n (w : World) (n : Nat) (hn : n ≤ 281474976710656) : (Instr.makeSlice 25 (.int .i64 (n : Int)) (.int .i64 (n : Int))).run Try.prog w = .ok (.slice (some ⟨w.heap.size, 0, none⟩) n n) (w.alloc (.cells (bvs (List.replicate n 0)).toArray 5)) := by
  obtain ⟨i, hi, hz0, hz1, hz2⟩ := info_parts u8_info
  have hr := run_make (P := Try.prog) w 25 5 i _ Try.underlying25 hi hz0 .i64 .i64 n n (by omega) (by omega) (by rw [hz2]; omega) (by omega)
  rw [hr]
  have e := toList_madeCells_one (.int .u8 0) n
  rw [bvs_replicate, ← e]
  simp [Value.cells, hz1]
theorem made_0 (w : World) (n base : Nat) (hb : base ≤ w.heap.size) (hn : n ≤ 140737488355328) : OwB (w.alloc (.cells (bvs (List.replicate n 0)).toArray 5)) base (.slice (some ⟨w.heap.size, 0, none⟩) 0 n) [] := by
  have := (OBlk.new' w 5 (bvs (List.replicate n 0))).owB (base := base) hb (by simp only [maxLen, List.length_replicate]; omega) (n := 0) (by omega)
  rw [List.length_replicate] at this
  exact this
theorem made_n (w : World) (n base : Nat) (hb : base ≤ w.heap.size) (hn : n ≤ 140737488355328) : OwB (w.alloc (.cells (bvs (List.replicate n 0)).toArray 5)) base (.slice (some ⟨w.heap.size, 0, none⟩) n n) (List.replicate n 0) := by
  have := (OBlk.new' w 5 (bvs (List.replicate n 0))).owB' (base := base) hb (by simp only [maxLen, List.length_replicate]; omega)
  rw [List.length_replicate] at this
  exact this
theorem step_make_0 (hgd : o.guard = none) (l c : Operand) (hop : o.op = Op.makeSlice 25 l c) (n : Nat) (hl : a.eval l = .int .i64 0) (hc : a.eval c = .int .i64 (n : Int)) (hn : n ≤ 140737488355328)
    (h : ∀ w', OwB w' w.heap.size (.slice (some ⟨w.heap.size, 0, none⟩) 0 n) [] → Below w.heap.size w w' → w'.heap.size = w.heap.size + 1 → K (a.put o.dst (.slice (some ⟨w.heap.size, 0, none⟩) 0 n)) w') :
    if Region.wanted o (yielded ops a.tmps) = true then Oper.wp Try.prog o a w K Q else E := by
  have hw : Region.wanted o (yielded ops a.tmps) = true := by simp [Region.wanted, hgd]
  rw [if_pos hw]
  have hrun := run_make_0 w n (by omega)
  unfold Oper.wp
  simp [execOp, hop, hl, hc, hrun, Result.andThen, Oper.upon]
  exact h _ (made_0 w n _ (Nat.le_refl _) hn) ((Below.refl _ _).alloc (Nat.le_refl _) _) (by simp)
theorem step_make_n (hgd : o.guard = none) (l c : Operand) (hop : o.op = Op.makeSlice 25 l c) (n : Nat) (hl : a.eval l = .int .i64 (n : Int)) (hc : a.eval c = .int .i64 (n : Int)) (hn : n ≤ 140737488355328)
    (h : ∀ w', OwB w' w.heap.size (.slice (some ⟨w.heap.size, 0, none⟩) n n) (List.replicate n 0) → Below w.heap.size w w' → w'.heap.size = w.heap.size + 1 → K (a.put o.dst (.slice (some ⟨w.heap.size, 0, none⟩) n n)) w') :
    if Region.wanted o (yielded ops a.tmps) = true then Oper.wp Try.prog o a w K Q else E := by
  have hw : Region.wanted o (yielded ops a.tmps) = true := by simp [Region.wanted, hgd]
  rw [if_pos hw]
  have hrun := run_make_n w n (by omega)
  unfold Oper.wp
  simp [execOp, hop, hl, hc, hrun, Result.andThen, Oper.upon]
  exact h _ (made_n w n _ (Nat.le_refl _) hn) ((Below.refl _ _).alloc (Nat.le_refl _) _) (by simp)
theorem wp_make_0 (hg : o.guard = none) (l c : Operand) (hop : o.op = Op.makeSlice 25 l c) (n : Nat) (hl : a.eval l = .int .i64 0) (hc : a.eval c = .int .i64 (n : Int)) (hn : n ≤ 140737488355328)
    (hK : ∀ w', OwB w' w.heap.size (.slice (some ⟨w.heap.size, 0, none⟩) 0 n) [] → Below w.heap.size w w' → w'.heap.size = w.heap.size + 1 → wpList Try.prog ops Q rest (a.put o.dst (.slice (some ⟨w.heap.size, 0, none⟩) 0 n)) w') :
    wpList Try.prog ops Q (o :: rest) a w := by
  refine wpList_plain hg fun K hK' => ?_
  have hr := run_make_0 w n (by omega)
  unfold Oper.wp
  simp [execOp, hop, hl, hc, hr, Result.andThen]
  exact hK' _ _ (hK _ (made_0 w n _ (Nat.le_refl _) hn) ((Below.refl _ _).alloc (Nat.le_refl _) _) (by simp))
set_option maxRecDepth 20000 in
/-- m[k] = v, where the walk has come to its run. -/
theorem upon_store {b cnt : Nat} {pv : Int → Option Value} {f : Unit → World → Result Next} (hM : MapAt w b pv cnt) (hc : cnt < maxLen) (n : Int) (hn : i64w n) (u : Value) (hf : f = fun _ w' => Result.ok Next.skip w')
    (h : ∀ w', MapAt w' b (putM pv n (some u)) (if (pv n).isSome then cnt else cnt + 1) → w.mapTurned w' b → K (a.put o.dst undef) w') :
    Oper.upon Try.prog o a K Q ((Sem.run Try.prog (Instr.mapUpdate 74 (.map (some b)) (.int .i64 n) u) w).andThen f) := by
  subst hf
  have hst := hM.store hc n hn u
  refine hst.elim fun w' hh => ?_
  have hrun := hh.1
  have k1 := hh.2.1
  have k2 := hh.2.2
  have e : Sem.run Try.prog (Instr.mapUpdate 74 (.map (some b)) (.int .i64 n) u) w = .ok () w' := hrun
  have e2 : Oper.upon Try.prog o a K Q ((Result.ok () w').andThen fun _ w' => Result.ok Next.skip w') = K (a.put o.dst undef) w' := rfl
  rw [e, e2]
  exact h w' k1 k2
/-- m[k] = v in a region. -/
theorem step_store {b cnt : Nat} {pv : Int → Option Value} (hgd : o.guard = none) (m x v : Operand) (hop : o.op = Op.mapUpdate 74 m x v) (hM : MapAt w b pv cnt) (hc : cnt < maxLen) (hm : a.eval m = .map (some b)) (n : Int) (hn : i64w n) (hx : a.eval x = .int .i64 n) (u : Value) (hv : a.eval v = u)
    (h : ∀ w', MapAt w' b (putM pv n (some u)) (if (pv n).isSome then cnt else cnt + 1) → w.mapTurned w' b → K (a.put o.dst undef) w') :
    if Region.wanted o (yielded ops a.tmps) = true then Oper.wp Try.prog o a w K Q else E := by
  have hw : Region.wanted o (yielded ops a.tmps) = true := by simp [Region.wanted, hgd]
  rw [if_pos hw]
  obtain ⟨w', hrun, k1, k2⟩ := hM.store hc n hn u
  unfold Oper.wp
  simp [execOp, hop, hm, hx, hv, hrun, Result.andThen, Oper.upon]
  exact h w' k1 k2
end laws
/-! ### what a bench is -/
structure BS where
  eng : Int
  page : Nat
  pages : Nat
  reads : Int
  held : Int → Option (List UInt8)
def BS.put (S : BS) (n : Int) (l : Option (List UInt8)) : BS := { S with held := fun m => if m = n then l else S.held m }
def BS.read (S : BS) : BS := { S with reads := wrap64 (S.reads + 1) }
def cntB (S : BS) : Nat := ((List.range S.pages).filter fun (n : Nat) => (S.held n).isSome).length
structure okB (S : BS) : Prop where
  page : isPowB S.page = true
  lo : 2 ≤ S.pages
  hi : S.pages ≤ 65536
  dom : ∀ n, (S.held n).isSome = true → 2 ≤ n ∧ n < S.pages
  len : ∀ n l, S.held n = some l → l.length ≤ 200000
theorem filter_upd (p : Nat → Bool) (n : Nat) (b : Bool) : ∀ N, n < N → ((List.range N).filter fun m => if m = n then b else p m).length + (if p n then 1 else 0) = ((List.range N).filter p).length + (if b then 1 else 0)
  | 0, h => absurd h (Nat.not_lt_zero _)
  | N + 1, h => by
    rw [List.range_succ, List.filter_append, List.filter_append, List.length_append, List.length_append]
    rcases Nat.lt_or_ge n N with h1 | h1
    · have h2 := filter_upd p n b N h1
      have e : ([N].filter fun m => if m = n then b else p m) = [N].filter p := by
        simp only [List.filter_cons, List.filter_nil, if_neg (show ¬ N = n by omega)]
      rw [e]; omega
    · obtain rfl : n = N := by omega
      have e : ((List.range n).filter fun m => if m = n then b else p m) = (List.range n).filter p := by
        apply List.filter_congr
        intro x hx
        rw [List.mem_range] at hx
        rw [if_neg (by omega)]
      rw [e]
      simp only [List.filter_cons, List.filter_nil, if_true]
      cases b <;> cases p n <;> simp
theorem cntB_put {S : BS} {n : Int} (l : Option (List UInt8)) (h1 : 0 ≤ n) (h2 : n < S.pages) : cntB (S.put n l) + (if (S.held n).isSome then 1 else 0) = cntB S + (if l.isSome then 1 else 0) := by
  obtain ⟨k, rfl⟩ : ∃ k : Nat, n = (k : Int) := ⟨n.toNat, by omega⟩
  have h := filter_upd (fun m => (S.held m).isSome) k l.isSome S.pages (by omega)
  unfold cntB
  rw [← h]
  have e : (fun m : Nat => ((S.put k l).held m).isSome) = fun m => if m = k then l.isSome else (S.held m).isSome := by
    funext m
    unfold BS.put
    by_cases hm : m = k
    · simp [hm]
    · simp only [if_neg hm, if_neg (show ¬ ((m : Int) = (k : Int)) by omega)]
  show ((List.range S.pages).filter fun m : Nat => ((S.put k l).held m).isSome).length + _ = _
  rw [e]
theorem cntB_le (S : BS) : cntB S ≤ S.pages := by
  unfold cntB
  exact Nat.le_trans (List.length_filter_le _ _) (by rw [List.length_range]; exact Nat.le_refl _)
theorem okB.put {S : BS} (h : okB S) {n : Int} {l : Option (List UInt8)} (hn : l.isSome = true → 2 ≤ n ∧ n < S.pages) (hl : ∀ l', l = some l' → l'.length ≤ 200000) : okB (S.put n l) := by
  refine ⟨h.page, h.lo, h.hi, fun m hm => ?_, fun m l' hm => ?_⟩
  · unfold BS.put at hm
    by_cases e : m = n
    · subst e; simp at hm; exact hn hm
    · simp only [if_neg e] at hm; exact h.dom m hm
  · unfold BS.put at hm
    by_cases e : m = n
    · subst e; simp at hm; exact hl l' hm
    · simp only [if_neg e] at hm; exact h.len m l' hm
theorem okB.read {S : BS} (h : okB S) : okB S.read := ⟨h.page, h.lo, h.hi, h.dom, h.len⟩
/-- A bench: its struct, its map, its pages. -/
def benchE (gb gm : Nat) (pv : Int → Option Value) (S : BS) : Ent where
  F g := g = gb ∨ g = gm ∨ ∃ n v, pv n = some v ∧ v.ownBlock = some g
  p w := OBlk w gb 76 [.int .i64 S.eng, .int .i64 S.page, .int .i64 S.pages, .map (some gm), .int .i64 S.reads] ∧ MapAt w gm pv (cntB S) ∧ okB S ∧ gb ≠ gm ∧
    (∀ n, S.held n = none ↔ pv n = none) ∧ ∀ n v, pv n = some v → v.ownBlock ≠ some gb ∧ v.ownBlock ≠ some gm ∧ ∃ l, S.held n = some l ∧ OwB w 0 v l
  loc := fun h ⟨h1, h2, h3, h4, h5, h6⟩ => ⟨h1.of_heap (h _ (.inl rfl)), h2.heap (h _ (.inr (.inl rfl))), h3, h4, h5, fun n v hv => ⟨(h6 n v hv).1, (h6 n v hv).2.1, by
    obtain ⟨l, k1, k2⟩ := (h6 n v hv).2.2
    exact ⟨l, k1, Own.heap k2 (fun g hg => h g (.inr (.inr ⟨n, v, hv, hg⟩)))⟩⟩⟩
end Go.Proofs.Ytgnhakgfgdelpaa

-- A region that draws its order, whose head only reads and calls quietly, and whose tail stands in one forced order: the head is walked once in the order of the text, then the tail.
namespace Go.Proofs.Ytgnhakgfgdelpaa
section
variable {P : Program} {ops : Array Oper} {md : Region.Mode} {C : World → Prop}
/-- Whatever order is picked for the head (places below n); then L. -/
def headAny (P : Program) (md : Region.Mode) (ops : Array Oper) (C : World → Prop) (n : Nat) (L : Array Bool → Act → Prop) : Nat → Array Bool → Act → Prop
  | 0, listed, a => L listed a
  | f + 1, listed, a => Region.ready md ops listed ≠ [] ∧ ∀ i ∈ Region.ready md ops listed, i < n ∧ qOp P ops C i (headAny P md ops C n L f (listed.setIfInBounds i true)) a
theorem any_of_headAny {n g : Nat} {L : Array Bool → Act → Prop} {Q' : Exit → Act → World → Prop} (hL : ∀ listed a w, C w → L listed a → wpAny P md ops Q' g listed a w) :
    ∀ (f : Nat) (listed : Array Bool) (a : Act) (w : World), C w → headAny P md ops C n L f listed a → wpAny P md ops Q' (f + g) listed a w
  | 0, listed, a, w, hw, h => by rw [Nat.zero_add]; exact hL _ _ _ hw h
  | f + 1, listed, a, w, hw, h => by
    rw [show f + 1 + g = (f + g) + 1 by omega]
    exact ⟨fun e => absurd e h.1, fun i hi => wpOp_of_qOp hw (fun a' w' hw' k => any_of_headAny hL f _ a' w' hw' k) (h.2 i hi).2⟩
theorem headAny_first {n i : Nat} {oi : Oper} {v : Value} {L : Array Bool → Act → Prop} (hi : ops[i]? = some oi) (hsel : ∀ (j : Nat) (o : Oper) cs b, ops[j]? = some o → o.op ≠ .select cs b)
    (hs : Region.sinkB md ops n = true) (hc : Region.chainB md ops n = true) (hn : n < ops.size) (hin : i < n)
    (hdone : ∀ listed a, L listed a → ∀ j ∈ Region.ready md ops listed, n ≤ j) :
    ∀ (f : Nat) (listed : Array Bool) (a : Act), HeadInv md ops n listed →
      (∀ j oj, ops[j]? = some oj → j ≠ i → listed.getD j true = false → (∀ e ∈ oj.after, Region.binds md e = true → e.on ≠ i) → oi.apart ops oj = true) →
      i ∈ Region.ready md ops listed → YieldsIn P ops C oi v a →
      headAny P md ops C n L f (listed.setIfInBounds i true) (a.put oi.dst v) → headAny P md ops C n L (f + 1) listed a
  | 0, listed, a, inv, _, hr, hy, H => by
    have hun := (mem_ready.1 hr).1
    refine ⟨fun e => (by rw [e] at hr; cases hr), fun j hj => ?_⟩
    have hjn : j < n := (Nat.lt_or_ge j n).elim id fun h => absurd hj (tail_waits hs hc hn inv _ i rfl hin hun j h)
    refine ⟨hjn, ?_⟩
    by_cases e : j = i
    · subst e; exact hy.qOp hi H
    · have := hdone _ _ H j (ready_mono hj e); omega
  | f + 1, listed, a, inv, hfree, hr, hy, H => by
    have hun := (mem_ready.1 hr).1
    refine ⟨fun e => (by rw [e] at hr; cases hr), fun j hj => ?_⟩
    have hjn : j < n := (Nat.lt_or_ge j n).elim id fun h => absurd hj (tail_waits hs hc hn inv _ i rfl hin hun j h)
    refine ⟨hjn, ?_⟩
    by_cases e : j = i
    · subst e; exact hy.qOp hi H
    obtain ⟨hjun, oj, hoj, hall⟩ := mem_ready.1 hj
    have hnot : ∀ e ∈ oj.after, Region.binds md e = true → e.on ≠ i := fun e he hb heq => by
      have := hall e he hb
      rw [heq, getD_both hun] at this
      cases this
    have h2 := qOp_put hoj (hfree j oj hoj e hjun hnot) (fun cs b => hsel i oi cs b hi) (fun cs b => hsel j oj cs b hoj) hy (H.2 j (ready_mono hj e)).2
    refine qOp_mono (fun a' h3 => ?_) h2
    refine headAny_first hi hsel hs hc hn hin hdone f _ a' (inv.set hj hjn) ?_ (ready_mono hr (Ne.symm e)) h3.1 ?_
    · intro k ok hk hki hku hno
      refine hfree k ok hk hki ?_ hno
      by_cases hjk : j = k
      · subst hjk; exact hjun
      · rwa [getD_set_ne true hjk] at hku
    · rw [Array.setIfInBounds_comm _ _ e]
      exact h3.2
theorem headAny_lex {n g : Nat} {Lq : Act → Prop} (hsel : Region.noSelect ops = true) (hs : Region.sinkB md ops n = true) (hc : Region.chainB md ops n = true) (hn : n < ops.size) :
    ∀ (l : List Oper) (k : Nat) (listed : Array Bool) (a : Act), (∀ j, j < l.length → l[j]? = ops[k + j]?) → k + l.length = n → HeadInv md ops n listed →
    Region.lexHead md ops g l.length k listed = true → wpQuiet P ops C Lq l a →
    headAny P md ops C n (fun listed' a' => Region.seqB md ops g n listed' = true ∧ Lq a') l.length listed a
  | [], k, listed, a, _, hk, _, hB, h => by
    obtain rfl : k = n := by simpa using hk
    exact ⟨by simpa [Region.lexHead] using hB, h⟩
  | o :: l, k, listed, a, hl, hk, inv, hB, h => by
    have h0 : ops[k]? = some o := by simpa using (hl 0 (by simp)).symm
    simp only [List.length_cons, Region.lexHead, Bool.and_eq_true] at hB
    obtain ⟨⟨hr, hf⟩, hB'⟩ := hB
    have hkn : k < n := by simp only [List.length_cons] at hk; omega
    have hr' : k ∈ Region.ready md ops listed := by simpa using hr
    have hst : qOp P ops C k (wpQuiet P ops C Lq l) a := by unfold qOp; simp only [h0]; exact h
    obtain ⟨v, hy, hK⟩ := yieldsIn_of_qOp h0 hst
    exact headAny_first h0 (Region.noSelect_spec hsel) hs hc hn hkn (fun listed' a' hL => seqB_ready hL.1) l.length listed a inv (Region.free_spec h0 hf) hr' hy
      (headAny_lex hsel hs hc hn l (k + 1) _ _ (fun j hj => by have := hl (j + 1) (by simp; omega); simpa [Nat.add_assoc, Nat.add_comm 1 j] using this) (by simp only [List.length_cons] at hk; omega) (inv.set hr' hkn) hB' hK)
/-- The head is walked once, from any world of the class; the tail in its order. -/
theorem wp_region_qtail {id : Nat} {Q : Exit → Act → World → Prop} {a : Act} {w : World} {l : List Oper} (n : Nat) (C : World → Prop) (hC : C w.drew) (hm : P.follows .mixedOrders = true) (hB : Region.lexTailB .any l.toArray n = true)
    (h : wpQuiet P l.toArray C (fun a' => ∀ w', C w' → wpList P l.toArray Q (l.drop n) a' w') (l.take n) a) : (Code.region id l.toArray true).wp P Q a w := by
  simp only [Region.lexTailB, Bool.and_eq_true, decide_eq_true_eq] at hB
  obtain ⟨⟨⟨⟨hsel, hn⟩, hs⟩, hc⟩, hlex⟩ := hB
  have hn' : n < l.length := by simpa using hn
  have htl : (l.take n).length = n := by simp; omega
  have hdl : (l.drop n).length = l.toArray.size - n := by simp
  have inv0 : HeadInv .any l.toArray n (Array.replicate l.toArray.size false) :=
    ⟨by simp, fun j oj _ hl => (by rw [getD_replicate_false] at hl; cases hl), fun t _ ht => getD_in (by simpa using ht) (getD_replicate_false _ _)⟩
  have H := headAny_lex (md := .any) (g := l.toArray.size - n) hsel hs hc hn (l.take n) 0 _ a (fun j hj => by
    have hj' : j < n := by rw [htl] at hj; exact hj
    simp [hj']) (by simpa using htl) inv0 (by rw [htl]; exact hlex) h
  refine wp_region_any hm ?_
  have := any_of_headAny (Q' := Q) (g := l.toArray.size - n) (fun listed a' w' hw' hL => by
    have := wpAny_of_seq (md := .any) (Q' := Q) (l.drop n) n listed a' w' (fun j => by simp [List.getElem?_drop]) (by rw [hdl]; exact hL.1) (hL.2 w' hw')
    rwa [hdl] at this) _ _ _ _ hC H
  rw [htl, show n + (l.toArray.size - n) = l.toArray.size by omega] at this
  exact this
/-- .. at the class of worlds after some draws. -/
theorem wp_region_dtail {id : Nat} {Q : Exit → Act → World → Prop} {a : Act} {w : World} {l : List Oper} (n : Nat) (hm : P.follows .mixedOrders = true) (hB : Region.lexTailB .any l.toArray n = true)
    (h : wpQuiet P l.toArray (fun w' => ∃ k, w' = w.drewN k) (fun a' => ∀ w', (∃ k, w' = w.drewN k) → wpList P l.toArray Q (l.drop n) a' w') (l.take n) a) : (Code.region id l.toArray true).wp P Q a w :=
  wp_region_qtail n _ ⟨1, rfl⟩ hm hB h
end
end Go.Proofs.Ytgnhakgfgdelpaa
