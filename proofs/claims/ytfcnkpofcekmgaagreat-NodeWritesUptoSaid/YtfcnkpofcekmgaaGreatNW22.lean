/- Texts joined: plain.Page.Remove and Cell, in words of pieces; plain.Page.Cell, in words of pieces; Packed pages that are worked on; sort.Search; packed.Page's within, Find; packed.Page.Tidy, in words of pieces -/
import Derived.Test.YtfcnkpofcekmgaaGreatNW3
import Derived.Test.YtfcnkpofcekmgaaGreatNW5
import Derived.Test.YtfcnkpofcekmgaaGreatNW6
import Derived.Test.YtfcnkpofcekmgaaGreatNW7
import Derived.Test.YtfcnkpofcekmgaaGreatNW10
import Derived.Test.YtfcnkpofcekmgaaGreatNW11
import Derived.Test.YtfcnkpofcekmgaaGreatNW15
import Derived.Test.YtfcnkpofcekmgaaGreatNW16
import Derived.Test.YtfcnkpofcekmgaaGreatNW21
import Derived.Deep.QuietTactic
import Derived.BigQuiet
import Derived.Deep.RegionLaw
import Derived.Deep.RegionHeld3
import Derived.Deep.CutRange
import Derived.Deep.DeepCutAuto
-- plain.Page.Remove and Cell, in words of pieces: walks.
namespace Go.Proofs.YtfcnkpofcekmgaaGreat
open Go.RowKit
end Go.Proofs.YtfcnkpofcekmgaaGreat

-- plain.Page.Cell, in words of pieces: the walk.
namespace Go.Proofs.YtfcnkpofcekmgaaGreat
open Go.RowKit
def RngY (c : PC) : Prop := i64r c.kind ∧ i64r c.page ∧ i64r c.count
end Go.Proofs.YtfcnkpofcekmgaaGreat

-- Packed pages that are worked on: plain laws.
namespace Go.Proofs.YtfcnkpofcekmgaaGreat
/-- The page: its cells, the prefix that is kept, the waste. -/
structure KP where
  l : List PC
  pre : List UInt8
  waste : Nat
def usedP (kind : Int) (s : KP) : Nat := takenF kind s.l s.pre.length
def tidyP (kind : Int) (l : List PC) : KP := ⟨l, prefF kind l, 0⟩
def hasPre (key pre : List UInt8) : Bool := decide (pre.length ≤ key.length) && (key.take pre.length == pre)
def putK (kind : Int) (P : Nat) (l : List PC) (i gone : Nat) (c : PC) : Int :=
  if mayP kind P c = false then 62
  else if 0 ≤ leftO l i c ∨ 0 ≤ rightO l (i + gone) c then 63
  else if P < psizeF kind (withF l i gone c) then 61 else 0
def insKZ (kind : Int) (P : Nat) (l : List PC) (i : Int) (gone : Nat) (c : PC) : Int := if i < 0 ∨ (l.length : Int) - gone < i then 64 else putK kind P l i.toNat gone c
def dftC : PC := ⟨[], 0, [], 0, 0⟩
/-- The bytes of the i-th cell. -/
def oldK (kind : Int) (s : KP) (i : Nat) : Nat := (pcF kind i (s.l.getD i dftC) s.pre.length).length
def firstK (kind : Int) (i : Nat) : Bool := decide (kind = 3 ∧ i = 0)
def anew0 (kind : Int) (pre : List UInt8) (i gone : Nat) (c : PC) : Bool := if gone = 0 then firstK kind i || !hasPre c.key pre else !firstK kind i && !hasPre c.key pre
def wasteK (kind : Int) (s : KP) (i gone : Nat) : Nat := s.waste + (if gone = 0 then 0 else oldK kind s i)
/-- Other cells that fit. -/
def changeS (kind : Int) (P : Nat) (pre : List UInt8) (l : List PC) (waste : Nat) (anew : Bool) : KP :=
  if (anew || decide (P < takenF kind l pre.length + waste)) = true then tidyP kind l else ⟨l, pre, waste⟩
def putS (kind : Int) (P : Nat) (s : KP) (i gone : Nat) (c : PC) : KP := changeS kind P s.pre (withF s.l i gone c) (wasteK kind s i gone) (anew0 kind s.pre i gone c)
def insKS (kind : Int) (P : Nat) (s : KP) (i : Int) (gone : Nat) (c : PC) : KP := if insKZ kind P s.l i gone c = 0 then putS kind P s i.toNat gone c else s
/-- The prefix is that of all keys that lie behind it. -/
def PreOk (kind : Int) (l : List PC) (pre : List UInt8) : Prop := ∀ j (hj : j < l.length), ¬ (kind = 3 ∧ j = 0) → hasPre l[j].key pre = true
structure KInv (kind : Int) (P : Nat) (s : KP) : Prop where
  rise : Rising s.l
  may : ∀ c ∈ s.l, mayP kind P c = true
  size : psizeF kind s.l ≤ P
  pre : PreOk kind s.l s.pre
  room : usedP kind s + s.waste ≤ P
theorem hasPre_iff {key pre : List UInt8} : hasPre key pre = true ↔ pre.length ≤ key.length ∧ key.take pre.length = pre := by
  unfold hasPre
  rw [Bool.and_eq_true, decide_eq_true_iff, beq_iff_eq]
theorem hasPre_prefF {kind : Int} {l : List PC} : PreOk kind l (prefF kind l) := fun j hj hn => by
  obtain ⟨h1, h2, h3⟩ := key_split hj hn
  refine hasPre_iff.2 ⟨by omega, ?_⟩
  rw [h2, List.take_left]
theorem usedP_tidy (kind : Int) (l : List PC) : usedP kind (tidyP kind l) = psizeF kind l := by
  unfold usedP tidyP psizeF
  simp only [prefF_length]
theorem tidy_inv {kind : Int} {P : Nat} {l : List PC} (h1 : Rising l) (h2 : ∀ c ∈ l, mayP kind P c = true) (h3 : psizeF kind l ≤ P) : KInv kind P (tidyP kind l) :=
  ⟨h1, h2, h3, hasPre_prefF, by rw [usedP_tidy]; show psizeF kind l + 0 ≤ P; omega⟩
/-! ### a longer prefix takes no more -/
/-! ### a cell less -/
/-! ### a cell more, another cell -/
theorem with_at {l : List PC} {i gone : Nat} {c : PC} (hi : i + gone ≤ l.length) (hg : gone ≤ 1) {j : Nat} (hj : j < (withF l i gone c).length) : (j = i ∧ (withF l i gone c)[j] = c) ∨ ∃ k, ∃ hk : k < l.length, (withF l i gone c)[j] = l[k] ∧ (k = 0 → j = 0 ∨ (i = 0 ∧ gone = 0)) := by
  have hl : (l.take i).length = i := by rw [List.length_take]; omega
  unfold withF at hj ⊢
  rcases Nat.lt_trichotomy j i with h | h | h
  · right
    refine ⟨j, by omega, ?_, by omega⟩
    rw [List.getElem_append_left (by omega), List.getElem_take]
  · left
    subst h
    refine ⟨rfl, ?_⟩
    rw [List.getElem_append_right (by omega)]
    simp [hl]
  · right
    simp only [List.length_append, hl, List.length_cons, List.length_drop] at hj
    refine ⟨j - 1 + gone, by omega, ?_, by omega⟩
    rw [List.getElem_append_right (by omega), List.getElem_cons]
    rw [dif_neg (by omega), List.getElem_drop]
    congr 1
    omega
theorem mem_with {l : List PC} {i gone : Nat} {c d : PC} (h : d ∈ withF l i gone c) : d = c ∨ d ∈ l := by
  unfold withF at h
  rcases List.mem_append.1 h with h | h
  · exact .inr (List.mem_of_mem_take h)
  · rcases List.mem_cons.1 h with h | h
    · exact .inl h
    · exact .inr (List.mem_of_mem_drop h)
theorem putK_zero {kind : Int} {P : Nat} {l : List PC} {i gone : Nat} {c : PC} (h : putK kind P l i gone c = 0) : mayP kind P c = true ∧ ¬ 0 ≤ leftO l i c ∧ ¬ 0 ≤ rightO l (i + gone) c ∧ psizeF kind (withF l i gone c) ≤ P := by
  unfold putK at h
  split at h
  · cases h
  · rename_i hm
    split at h
    · cases h
    · rename_i ho
      split at h
      · cases h
      · rename_i hz
        exact ⟨by simpa using hm, fun e => ho (.inl e), fun e => ho (.inr e), by omega⟩
theorem putK_rise {kind : Int} {P : Nat} {l : List PC} {i gone : Nat} {c : PC} (hs : Rising l) (hi : i + gone ≤ l.length) (h : putK kind P l i gone c = 0) : Rising (withF l i gone c) := by
  obtain ⟨-, h1, h2, -⟩ := putK_zero h
  refine (with_rises hs hi).2 ⟨fun h3 => ?_, fun h3 => ?_⟩
  · unfold leftO at h1
    rw [dif_pos ⟨h3, by omega⟩] at h1
    omega
  · unfold rightO at h2
    rw [dif_pos h3] at h2
    omega
theorem KInv.put {kind : Int} {P : Nat} {s : KP} (h : KInv kind P s) {i gone : Nat} {c : PC} (hi : i + gone ≤ s.l.length) (hg : gone ≤ 1) (h0 : putK kind P s.l i gone c = 0) : KInv kind P (putS kind P s i gone c) := by
  obtain ⟨hm, -, -, hz⟩ := putK_zero h0
  have hr := putK_rise h.rise hi h0
  have hm' : ∀ d ∈ withF s.l i gone c, mayP kind P d = true := fun d hd => by
    rcases mem_with hd with rfl | hd
    · exact hm
    · exact h.may d hd
  unfold putS changeS
  by_cases hn : (anew0 kind s.pre i gone c || decide (P < takenF kind (withF s.l i gone c) s.pre.length + wasteK kind s i gone)) = true
  · rw [if_pos hn]; exact tidy_inv hr hm' hz
  · rw [if_neg hn]
    rw [Bool.or_eq_true, not_or, decide_eq_true_iff] at hn
    obtain ⟨hn1, hn2⟩ := hn
    unfold anew0 firstK at hn1
    refine ⟨hr, hm', hz, fun j hj hnf => ?_, ?_⟩
    · rcases with_at hi hg hj with ⟨rfl, e⟩ | ⟨k, hk, e, hk0⟩
      · rw [e]
        by_cases hg0 : gone = 0
        · rw [if_pos hg0, Bool.or_eq_true, not_or] at hn1
          simpa using hn1.2
        · rw [if_neg hg0] at hn1
          have h1 : decide (kind = 3 ∧ j = 0) = false := decide_eq_false hnf
          rw [h1] at hn1
          simpa using hn1
      · rw [e]
        refine h.pre k hk (fun e2 => ?_)
        rcases hk0 e2.2 with e3 | ⟨e3, e4⟩
        · exact hnf ⟨e2.1, e3⟩
        · rw [if_pos e4, Bool.or_eq_true, not_or, decide_eq_true_iff] at hn1
          exact hn1.1 ⟨e2.1, e3⟩
    · show takenF kind (withF s.l i gone c) s.pre.length + wasteK kind s i gone ≤ P
      omega
theorem KInv.ins {kind : Int} {P : Nat} {s : KP} (h : KInv kind P s) (i : Int) {gone : Nat} (hg : gone ≤ 1) (c : PC) : KInv kind P (insKS kind P s i gone c) := by
  unfold insKS
  by_cases hz : insKZ kind P s.l i gone c = 0
  · rw [if_pos hz]
    unfold insKZ at hz
    by_cases hin : i < 0 ∨ (s.l.length : Int) - gone < i
    · rw [if_pos hin] at hz; cases hz
    · rw [if_neg hin] at hz
      exact h.put (by omega) hg hz
  · rw [if_neg hz]; exact h
theorem KInv.enc {kind : Int} {P : Nat} {s : KP} (h : KInv kind P s) : encK kind s.l P = 0 := encK_zero.2 ⟨scan_rise h.may (by simp) h.rise, h.size⟩
theorem pbody_len (kind : Int) (n : Nat) : ∀ (l : List PC) (i : Nat), 4 * l.length ≤ (pbodyF kind n i l).length + l.length
  | [], _ => by simp [pbodyF]
  | c :: r, i => by
    have := pbody_len kind n r (i + 1)
    have h3 : 3 ≤ (pcF kind i c n).length := by
      unfold pcF kvF
      have := uintF_pos (restF kind i c.key n).length
      simp only [List.length_cons, List.length_append]
      split
      · have := uintF_pos c.val.length; rw [List.length_append]; omega
      · have := uintF_pos (u64N c.page); rw [List.length_append]; omega
    simp only [pbodyF, List.length_append, List.length_cons]
    omega
theorem KInv.len {kind : Int} {P : Nat} {s : KP} (h : KInv kind P s) (hP : P ≤ 65536) : s.l.length ≤ 16384 := by
  have h1 := h.size
  have h2 := pbody_len kind (sharedF kind s.l) s.l 0
  unfold psizeF takenF at h1
  omega
end Go.Proofs.YtfcnkpofcekmgaaGreat

-- sort.Search; packed.Page's within, Find: walks.
namespace Go.Proofs.YtfcnkpofcekmgaaGreat
open Go.RowKit
/-- A packed page that is worked on, at p, as it is read. -/
structure KAt (w : World) (p : Nat) (kind : Int) (P : Nat) (u pv : Value) (used waste : Nat) (l : List CV) : Prop where
  blk : OBlk w p 150 [.int .i64 kind, .int .i64 (P : Int), u, pv, .int .i64 (used : Int), .int .i64 (waste : Int)]
  rd : RdCs w u l
theorem cells6 {w : World} {g : Nat} {T : TypeId} {a0 a1 a2 a3 a4 a5 : Value} (h : OBlk w g T [a0, a1, a2, a3, a4, a5]) :
    w.cell? ⟨g, 0, none⟩ = some a0 ∧ w.cell? ⟨g, 1, none⟩ = some a1 ∧ w.cell? ⟨g, 2, none⟩ = some a2 ∧ w.cell? ⟨g, 3, none⟩ = some a3 ∧ w.cell? ⟨g, 4, none⟩ = some a4 ∧ w.cell? ⟨g, 5, none⟩ = some a5 :=
  ⟨h.cell 0, h.cell 1, h.cell 2, h.cell 3, h.cell 4, h.cell 5⟩
theorem KAt.below {w w' : World} {p : Nat} {kind : Int} {P : Nat} {u pv : Value} {used waste : Nat} {l : List CV} (h : KAt w p kind P u pv used waste l) (hb : Below w.heap.size w w') : KAt w' p kind P u pv used waste l :=
  ⟨h.blk.below hb h.blk.lt, h.rd.below hb⟩
theorem RdCs.key_at' {w : World} {A : Option Addr} {m c i : Nat} {l : List CV} (h : RdCs w (.slice A m c) l) (hi : i < l.length) :
    ∃ ad B b, A = some ad ∧ w.cell? (ad.add (i * 5)) = some (.slice B l[i].c.key.length b) ∧ RdB w (.slice B l[i].c.key.length b) l[i].c.key := by
  obtain ⟨ad, rfl, c0, -⟩ := h.at_ hi
  have hx := (h.ok _ (List.getElem_mem hi)).k
  obtain ⟨B, b, he, -⟩ := hx.form
  rw [he] at hx c0
  exact ⟨ad, B, b, rfl, c0, hx⟩
theorem Equal_q (u v : Value) (a b : List UInt8) (w : World) (hu : RdB w u a) (hv : RdB w v b) :
    Calls Tryz.prog 134 #[u, v] w fun e w' => e = .returned (.bool (a == b)) ∧ w' = w := (Equal_any u v a b w hu hv).mono fun _ _ h => ⟨h.1, h.2.symm⟩
section
variable {w : World} {p : Nat} {kind : Int} {P : Nat} {u pv : Value} {used waste : Nat} {l : List CV}
end
end Go.Proofs.YtfcnkpofcekmgaaGreat

-- packed.Page.Tidy, in words of pieces: the walk.
namespace Go.Proofs.YtfcnkpofcekmgaaGreat
open Go.RowKit
/-- The page's own block. -/
def pkB (p : Nat) (kind : Int) (P : Nat) (u pv : Value) (used waste : Nat) : Ent := blkE p 150 [.int .i64 kind, .int .i64 (P : Int), u, pv, .int .i64 (used : Int), .int .i64 (waste : Int)]
/-- Cells that are read, in whichever pieces. -/
def CsIn (M : List Ent) (u : Value) (l : List CV) : Prop := ∀ W, (∀ E ∈ M, E.p W) → RdCs W u l
theorem CsIn.at_ {M M' : List Ent} {u : Value} {l : List CV} {w0 w : World} (h : CsIn M u l) (hS : Sep w0 w M') (hs : ∀ E ∈ M, E ∈ M') : RdCs w u l := h w (fun E hE => hS.of_mem (hs E hE))
set_option maxRecDepth 100000 in
set_option maxHeartbeats 2000000 in
theorem KTidy_sep {w0 w : World} {M : List Ent} {p P : Nat} {kind : Int} {u pv : Value} {used waste : Nat} {l : List CV} (hS : Sep w0 w (pkB p kind P u pv used waste :: M)) (hM : CsIn M u l) (hf : bigK (pcs l) ≤ 140737488355328) :
    Calls Tryz.prog 137 #[.pointer (some ⟨p, 0, none⟩)] w fun e w' => (∃ x, e = .returned x) ∧ ∃ pv', Sep w0 w' (pkB p kind P u pv' (psizeF kind (pcs l)) 0 :: bytesE pv' (prefF kind (pcs l)) :: M) := by
  have hrd := hM.at_ hS (fun E hE => List.mem_cons_of_mem _ hE)
  obtain ⟨U, uc, rfl, hm, hc⟩ := hrd.slice
  have hpk : ∀ (i : Nat) (hi : i < (pcs l).length), ¬ (kind = 3 ∧ i = 0) → sharedF kind (pcs l) ≤ (pcs l)[i].key.length := fun i hi hn => (key_split (kind := kind) hi hn).1
  have hspos : 0 < sharedF kind (pcs l) → ∃ m, l.length = m + 1 ∧ ∃ h : m < l.length, sharedF kind (pcs l) ≤ l[m].c.key.length ∧ prefF kind (pcs l) = l[m].c.key.take (sharedF kind (pcs l)) ∧ l[m].c.key.length ≤ 140737488355328 := fun hs => by
    obtain ⟨j, hj, hjn⟩ := sharedF_pos hs
    rw [pcs_length] at hj
    obtain ⟨m, hm1⟩ : ∃ m, l.length = m + 1 := ⟨l.length - 1, by omega⟩
    have hlt : m < l.length := by omega
    have hkm := hpk m (by rw [pcs_length]; exact hlt) (fun h => hjn ⟨h.1, by omega⟩)
    have hpf : prefF kind (pcs l) = ((pcs l)[m]'(by rw [pcs_length]; exact hlt)).key.take (sharedF kind (pcs l)) := by
      unfold prefF
      have e : (pcs l).getLast? = some ((pcs l)[m]'(by rw [pcs_length]; exact hlt)) := by
        have e9 : (pcs l).length - 1 = m := by rw [pcs_length]; omega
        rw [List.getLast?_eq_getElem?, e9]
        exact List.getElem?_eq_getElem _
      rw [e]
    have hb := bigK_mem (show (pcs l)[m]'(by rw [pcs_length]; exact hlt) ∈ pcs l from List.getElem_mem _)
    rw [pcs_at hlt] at hkm hpf hb
    exact ⟨m, hm1, hlt, hkm, hpf, by omega⟩
  have hzero : sharedF kind (pcs l) = 0 → prefF kind (pcs l) = [] := fun h => List.eq_nil_of_length_eq_zero (by rw [prefF_length]; exact h)
  have hsb : sharedF kind (pcs l) ≤ 1152921504606846976 := by
    rcases Nat.eq_zero_or_pos (sharedF kind (pcs l)) with h | h
    · omega
    · obtain ⟨m, -, h1, h2, -, h3⟩ := hspos h; omega
  have hsh : ∀ W, RdCs W (.slice U l.length uc) l → Calls Tryz.prog 139 #[.int .i64 kind, .slice U l.length uc] W fun e w' => e = .returned (.int .i64 (sharedF kind (pcs l) : Nat)) ∧ Below W.heap.size W w' := fun W hW => Kshared_any kind _ l W hW
  have htk : ∀ W, RdCs W (.slice U l.length uc) l → Calls Tryz.prog 138 #[.int .i64 kind, .slice U l.length uc, .int .i64 (sharedF kind (pcs l) : Nat)] W fun e w' => e = .returned (.int .i64 (psizeF kind (pcs l) : Nat)) ∧ Below W.heap.size W w' := fun W hW => Ktaken_any kind _ l (sharedF kind (pcs l)) W hW (by omega) (by omega) hpk
  obtain ⟨s, hs⟩ : ∃ s, sharedF kind (pcs l) = s := ⟨_, rfl⟩
  obtain ⟨z, hz⟩ : ∃ z, psizeF kind (pcs l) = z := ⟨_, rfl⟩
  obtain ⟨pre, hpre⟩ : ∃ z, prefF kind (pcs l) = z := ⟨_, rfl⟩
  rw [hs, hpre] at hspos hzero
  rw [hs] at hsh htk hsb
  rw [hz] at htk ⊢
  rw [hpre]
  have HSP := Lib.hid hspos
  have HZ := Lib.hid hzero
  have HTK := Lib.hid htk
  have hbp : OBlk w p 150 [.int .i64 kind, .int .i64 (P : Int), .slice U l.length uc, pv, .int .i64 (used : Int), .int .i64 (waste : Int)] := hS.head
  obtain ⟨b0, b1, b2, b3, b4, b5⟩ := cells6 hbp
  have hsh1 := fun m => hsh (w.drewN m) (hrd.below (below_drewN (Below.refl _ _) m))
  clear hs hz hpre hpk hspos hzero htk hsh hf
  go_enter Tryz.func137, Tryz.ntmps137
  go_upto_region 0 with (fail)
  go_cut [2] (fun sl wx => sl = .int .i64 (s : Int) ∧ Below w.heap.size w wx)
  case first =>
    go_region_held3 (fun w' => w'.cell? ⟨p, 0, none⟩ = some (.int .i64 kind) ∧ w'.cell? ⟨p, 2, none⟩ = some (.slice U l.length uc))
      (first | exact ⟨b0, b2⟩ | exact ⟨(cells6 (hbp.drew.below hw2 hbp.lt)).1, (cells6 (hbp.drew.below hw2 hbp.lt)).2.2.1⟩)
      (first
        | (go_at_call 139; refine (hsh1 1).mono ?_; rintro e w2 ⟨rfl, hw2⟩)
        | fail)
    go_wp2_with fail
    go_meet
    exact ⟨rfl, (Below.refl _ _).drew.trans hw2⟩
  case rest =>
    obtain ⟨rfl, hw2⟩ := hcut
    have hS2 := hS.below hw2
    clear hsh1 hbp b0 b1 b2 b3 b4 b5 hrd hS hw2
    have hbp : OBlk wc p 150 [.int .i64 kind, .int .i64 (P : Int), .slice U l.length uc, pv, .int .i64 (used : Int), .int .i64 (waste : Int)] := hS2.head
    obtain ⟨b0, b1, b2, b3, b4, b5⟩ := cells6 hbp
    have f3 := hbp.frozen (j := 3) (by simp)
    go_upto_region 2 with (fail)
    have hS3 : Sep w0 _ (pkB p kind P (.slice U l.length uc) (.slice none 0 0) used waste :: M) := hS2.setCell 3 (.slice none 0 0)
    clear hS2 hbp b0 b1 b2 b3 b4 b5 f3
    generalize wc.setCell ⟨p, 3, none⟩ (.slice none 0 0) = w3 at *
    go_upto_if 16 with (fail)
    go_cut [] (fun wx => ∃ pv', Sep w0 wx (pkB p kind P (.slice U l.length uc) pv' used waste :: bytesE pv' pre :: M))
    case first =>
      by_cases hs0 : 0 < s
      · have i1 : (0 : Int) < (s : Int) := by omega
        obtain ⟨m, hm1, hlt, hkm, hpf, hkb⟩ := HSP.out hs0
        have hrd3 := hM.at_ hS3 (fun E hE => List.mem_cons_of_mem _ hE)
        obtain ⟨ad, B, b, rfl, q0, hkr⟩ := hrd3.key_at' hlt
        generalize l[m].c.key = key at *
        obtain ⟨A7, c7, hrun, hrd7⟩ := hkr.run_h s hkm
        have hbp : OBlk w3 p 150 [.int .i64 kind, .int .i64 (P : Int), .slice (some ad) l.length uc, .slice none 0 0, .int .i64 (used : Int), .int .i64 (waste : Int)] := hS3.head
        obtain ⟨b0, b1, b2, b3, b4, b5⟩ := cells6 hbp
        have f3 := hbp.frozen (j := 3) (by simp)
        have j1 : (0 : Int) ≤ (l.length : Int) - 1 := by omega
        have j2 : (l.length : Int) - 1 < (l.length : Int) := by omega
        have j3 : ((l.length : Int) - 1).toNat = m := by omega
        have j4 : IntKind.i64.wrap ((l.length : Int) - 1) = (l.length : Int) - 1 := by rw [IntKind.wrap_i64]; omega
        have j5 : (1 : Int) ≤ (l.length : Int) := by omega
        have j6 : 0 < l.length := by omega
        have j7 : l.length - 1 = m := by omega
        have hkl : (key.take s).length = s := by rw [List.length_take]; omega
        have hcl := CloneK_any (.slice A7 s c7) (key.take s) w3.drew hrd7 (by rw [hkl]; omega)
        clear hkl hrd7
        generalize key.take s = kt at *
        have HPF := Lib.hid hpf
        have HM1 := Lib.hid hm1
        have hpz := hbp.lt
        clear hrd3 hpf hm1
        go_upto_region 3 with (fail)
        go_region_law
          (first
            | (go_simp; go_at_call 167; refine hcl.mono ?_; rintro e w4 ⟨v4, rfl, ho4, hw4⟩; obtain ⟨V4, vc4, rfl⟩ := Own.slice ho4; have hB4 := hbp.drew.below hw4 hpz; obtain ⟨d0, d1, d2, d3, d4, d5⟩ := cells6 hB4; have g3 := hB4.frozen (j := 3) (by simp); have hS4 := hS3.drew.bytes hw4 ho4 (Nat.le_refl _))
            | fail)
        all_goals
          go_wp2_with fail
          go_meet
          exact ⟨_, by rw [HPF.out]; exact hS4.sw1.setCell 3 _⟩
      · have i1 : ¬ (0 : Int) < (s : Int) := by omega
        go_wp2_with fail
        go_meet
        exact ⟨_, by rw [HZ.out (by omega)]; exact hS3.nil.sw1⟩
    case rest =>
      clear hS3
      obtain ⟨pv', hS4⟩ := hcut
      have hbp : OBlk wc p 150 [.int .i64 kind, .int .i64 (P : Int), .slice U l.length uc, pv', .int .i64 (used : Int), .int .i64 (waste : Int)] := hS4.head
      obtain ⟨b0, b1, b2, b3, b4, b5⟩ := cells6 hbp
      have hpz := hbp.lt
      have f4 := hbp.frozen (j := 4) (by simp)
      have f5 := hbp.frozen (j := 5) (by simp)
      have htk := HTK.out wc.drew (hM.at_ hS4.drew (fun E hE => List.mem_cons_of_mem _ (List.mem_cons_of_mem _ hE)))
      go_upto_region 4 with (fail)
      go_region_law
        (first
          | (go_simp; go_at_call 138; refine htk.mono ?_; rintro e w5 ⟨rfl, hw5⟩; have hB5 := hbp.drew.below hw5 hpz; obtain ⟨d0, d1, d2, d3, d4, d5⟩ := cells6 hB5; have g4 := hB5.frozen (j := 4) (by simp); have g5 := hB5.frozen (j := 5) (by simp); have hS5 := hS4.drew.below hw5)
          | fail)
      all_goals
        go_wp2_with fail
        go_end0
        exact ⟨⟨_, rfl⟩, pv', (hS5.setCell 4 (.int .i64 (z : Int))).setCell 5 (.int .i64 0)⟩
end Go.Proofs.YtfcnkpofcekmgaaGreat
