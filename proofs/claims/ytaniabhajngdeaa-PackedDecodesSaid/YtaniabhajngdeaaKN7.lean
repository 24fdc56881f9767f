/- Texts joined: Packed pages while they are written; bytes.Clone.; Separate pieces of memory; Owned cells, in words of pieces.; Bytes that grow, as pieces.; packed.Page.Tidy, in words of pieces; Pieces picked by number; packed.own; slices.Clone of cells; bytes.HasPrefix -/
import Derived.Test.YtaniabhajngdeaaKN3
import Derived.Test.YtaniabhajngdeaaKN5
import Derived.Test.YtaniabhajngdeaaKN6
import Derived.Lib.SlBytesConst
import Derived.Deep.RegionLaw
import Derived.Deep.RegionHeld3
import Derived.Deep.CutRange
import Derived.Deep.DeepCutAuto
-- Packed pages while they are written: plain laws.
namespace Go.Proofs.Ytaniabhajngdeaa
def a0K (kind : Int) (l : List PC) : Nat := 6 + sharedF kind l + 2 * l.length
def bodyK (kind : Int) (l : List PC) (k : Nat) : List UInt8 := pbodyF kind (sharedF kind l) 0 (l.take k)
def slotsK (kind : Int) (l : List PC) (k : Nat) : List UInt8 := pslotsF kind (sharedF kind l) (a0K kind l) 0 (l.take k)
def headK (kind : Int) (l : List PC) : List UInt8 := u8I kind :: 2 :: (fixedF l.length 2 ++ (fixedF (sharedF kind l) 2 ++ prefF kind l))
def contK (kind : Int) (l : List PC) (P k : Nat) : List UInt8 :=
  headK kind l ++ (slotsK kind l k ++ (List.replicate (2 * (l.length - k)) 0 ++ (bodyK kind l k ++ List.replicate (P - a0K kind l - (bodyK kind l k).length) 0)))
def midK (kind : Int) (l : List PC) (P k : Nat) : List UInt8 :=
  headK kind l ++ (slotsK kind l (k + 1) ++ (List.replicate (2 * (l.length - (k + 1))) 0 ++ (bodyK kind l k ++ List.replicate (P - a0K kind l - (bodyK kind l k).length) 0)))
theorem bodyK_succ {kind : Int} {l : List PC} {k : Nat} (hk : k < l.length) : bodyK kind l (k + 1) = bodyK kind l k ++ pcF kind k l[k] (sharedF kind l) := by
  unfold bodyK
  rw [List.take_succ_eq_append_getElem hk, pbodyF_append]
  simp [pbodyF, List.length_take, Nat.min_eq_left (Nat.le_of_lt hk)]
theorem bodyK_zero (kind : Int) (l : List PC) : bodyK kind l 0 = [] := by unfold bodyK; rfl
theorem bodyK_all (kind : Int) (l : List PC) : bodyK kind l l.length = pbodyF kind (sharedF kind l) 0 l := by unfold bodyK; rw [List.take_length]
theorem bodyK_le {kind : Int} {l : List PC} {k : Nat} (hk : k ≤ l.length) : (bodyK kind l k).length ≤ (pbodyF kind (sharedF kind l) 0 l).length := by
  have e : pbodyF kind (sharedF kind l) 0 l = bodyK kind l k ++ pbodyF kind (sharedF kind l) (0 + (l.take k).length) (l.drop k) := by
    unfold bodyK
    rw [← pbodyF_append, List.take_append_drop]
  rw [e, List.length_append]; omega
theorem fitK {kind : Int} {l : List PC} {P : Nat} (h : psizeF kind l ≤ P) : a0K kind l + (pbodyF kind (sharedF kind l) 0 l).length + 4 ≤ P := by
  have e : psizeF kind l = 10 + sharedF kind l + 2 * l.length + (pbodyF kind (sharedF kind l) 0 l).length := rfl
  unfold a0K; omega
theorem slotsK_length {kind : Int} {l : List PC} {k : Nat} (hk : k ≤ l.length) : (slotsK kind l k).length = 2 * k := by
  unfold slotsK
  rw [pslotsF_length, List.length_take, Nat.min_eq_left hk]
theorem headK_length (kind : Int) (l : List PC) : (headK kind l).length = 6 + sharedF kind l := by
  unfold headK
  simp only [List.length_cons, List.length_append, fixedF_length, prefF_length]; omega
theorem contK_length {kind : Int} {l : List PC} {P k : Nat} (h : psizeF kind l ≤ P) (hk : k ≤ l.length) : (contK kind l P k).length = P := by
  have h1 := fitK h
  have h2 := bodyK_le (kind := kind) hk
  have e : a0K kind l = 6 + sharedF kind l + 2 * l.length := rfl
  unfold contK
  simp only [List.length_append, headK_length, slotsK_length hk, List.length_replicate]
  omega
theorem midK_length {kind : Int} {l : List PC} {P k : Nat} (h : psizeF kind l ≤ P) (hk : k < l.length) : (midK kind l P k).length = P := by
  have h1 := fitK h
  have h2 := bodyK_le (kind := kind) (Nat.le_of_lt hk)
  have e : a0K kind l = 6 + sharedF kind l + 2 * l.length := rfl
  unfold midK
  simp only [List.length_append, headK_length, slotsK_length (show k + 1 ≤ l.length from hk), List.length_replicate]
  omega
theorem slotsK_succ {kind : Int} {l : List PC} {k : Nat} (hk : k < l.length) : slotsK kind l (k + 1) = slotsK kind l k ++ fixedF (a0K kind l + (bodyK kind l k).length) 2 := by
  unfold slotsK bodyK
  rw [List.take_succ_eq_append_getElem hk, pslotsF_append]
  simp [pslotsF]
theorem contK_slot {kind : Int} {l : List PC} {P k : Nat} (hk : k < l.length) :
    splice (contK kind l P k) (6 + sharedF kind l + 2 * k) (fixedF (a0K kind l + (bodyK kind l k).length) 2) = midK kind l P k := by
  have e1 : List.replicate (2 * (l.length - k)) (0 : UInt8) = List.replicate 2 0 ++ List.replicate (2 * (l.length - (k + 1))) 0 := by
    rw [List.replicate_append_replicate]; congr 1; omega
  have e2 : contK kind l P k = (headK kind l ++ slotsK kind l k) ++ (List.replicate 2 0 ++ (List.replicate (2 * (l.length - (k + 1))) 0 ++ (bodyK kind l k ++ List.replicate (P - a0K kind l - (bodyK kind l k).length) 0))) := by
    unfold contK
    rw [e1]
    simp only [List.append_assoc]
  rw [e2, splice_mid _ _ _ _ (6 + sharedF kind l + 2 * k) (by rw [List.length_append, headK_length, slotsK_length (Nat.le_of_lt hk)]) (by rw [fixedF_length]; rfl)]
  unfold midK
  rw [slotsK_succ hk]
  simp only [List.append_assoc]
theorem contK_cell {kind : Int} {l : List PC} {P k : Nat} (h : psizeF kind l ≤ P) (hk : k < l.length) :
    splice (midK kind l P k) (a0K kind l + (bodyK kind l k).length) (pcF kind k l[k] (sharedF kind l)) = contK kind l P (k + 1) := by
  have h1 := fitK h
  have h2 := bodyK_le (kind := kind) (show k + 1 ≤ l.length from hk)
  have h3 := bodyK_succ (kind := kind) hk
  have e0 : a0K kind l = 6 + sharedF kind l + 2 * l.length := rfl
  rw [h3, List.length_append] at h2
  have e1 : List.replicate (P - a0K kind l - (bodyK kind l k).length) (0 : UInt8) = List.replicate (pcF kind k l[k] (sharedF kind l)).length 0 ++ List.replicate (P - a0K kind l - ((bodyK kind l k).length + (pcF kind k l[k] (sharedF kind l)).length)) 0 := by
    rw [List.replicate_append_replicate]; congr 1; omega
  have e2 : midK kind l P k = (headK kind l ++ (slotsK kind l (k + 1) ++ (List.replicate (2 * (l.length - (k + 1))) 0 ++ bodyK kind l k))) ++ (List.replicate (pcF kind k l[k] (sharedF kind l)).length 0 ++ List.replicate (P - a0K kind l - ((bodyK kind l k).length + (pcF kind k l[k] (sharedF kind l)).length)) 0) := by
    unfold midK
    rw [e1]
    simp only [List.append_assoc]
  rw [e2, splice_mid _ _ _ _ _ (by simp only [List.length_append, headK_length, slotsK_length (show k + 1 ≤ l.length from hk), List.length_replicate]; omega) (by rw [List.length_replicate])]
  unfold contK
  rw [h3, List.length_append]
  simp only [List.append_assoc]
theorem contK_end {kind : Int} {l : List PC} {P : Nat} (h : psizeF kind l ≤ P) :
    (contK kind l P l.length).take (P - 4) = preK kind l P ∧ splice (contK kind l P l.length) (P - 4) (fixedF (sumF (preK kind l P)) 4) = laidK kind l P := by
  have h1 := fitK h
  have hz : psizeF kind l = 10 + sharedF kind l + 2 * l.length + (pbodyF kind (sharedF kind l) 0 l).length := rfl
  have e0 : a0K kind l = 6 + sharedF kind l + 2 * l.length := rfl
  have e1 : List.replicate (P - a0K kind l - (pbodyF kind (sharedF kind l) 0 l).length) (0 : UInt8) = List.replicate (P - psizeF kind l) 0 ++ List.replicate 4 0 := by
    rw [List.replicate_append_replicate]; congr 1; omega
  have e : contK kind l P l.length = preK kind l P ++ (List.replicate 4 0 ++ []) := by
    unfold contK preK headK slotsK
    rw [bodyK_all, e1, Nat.sub_self, Nat.mul_zero, List.take_length, e0]
    simp
  constructor
  · rw [e, List.take_left' (preK_length h)]
  · rw [e, splice_mid _ _ _ _ (P - 4) (preK_length h) (by rw [fixedF_length]; rfl)]
    unfold laidK; simp
def st1K (kind : Int) (P : Nat) : List UInt8 := ((List.replicate P (0 : UInt8)).set 0 (u8I kind)).set 1 2
def st2K (kind : Int) (l : List PC) (P : Nat) : List UInt8 := u8I kind :: 2 :: (fixedF l.length 2 ++ List.replicate (P - 4) 0)
def st3K (kind : Int) (l : List PC) (P : Nat) : List UInt8 := u8I kind :: 2 :: (fixedF l.length 2 ++ (fixedF (sharedF kind l) 2 ++ List.replicate (P - 6) 0))
theorem st1K_length (kind : Int) (P : Nat) : (st1K kind P).length = P := by simp [st1K]
theorem st2K_length {kind : Int} {l : List PC} {P : Nat} (h : 512 ≤ P) : (st2K kind l P).length = P := by simp [st2K, fixedF_length]; omega
theorem st3K_length {kind : Int} {l : List PC} {P : Nat} (h : 512 ≤ P) : (st3K kind l P).length = P := by simp [st3K, fixedF_length]; omega
theorem st1K_next {kind : Int} {l : List PC} {P : Nat} (h : 512 ≤ P) : splice (st1K kind P) 2 (fixedF l.length 2) = st2K kind l P := by
  obtain ⟨Q, rfl⟩ : ∃ Q, P = Q + 4 := ⟨P - 4, by omega⟩
  have e : st1K kind (Q + 4) = [u8I kind, 2] ++ (List.replicate 2 0 ++ List.replicate Q 0) := rfl
  rw [e, splice_mid _ _ _ _ 2 rfl (by rw [fixedF_length]; rfl)]
  rfl
theorem st2K_next {kind : Int} {l : List PC} {P : Nat} (h : 512 ≤ P) : splice (st2K kind l P) 4 (fixedF (sharedF kind l) 2) = st3K kind l P := by
  have e1 : List.replicate (P - 4) (0 : UInt8) = List.replicate 2 0 ++ List.replicate (P - 6) 0 := by
    rw [List.replicate_append_replicate]; congr 1; omega
  have e : st2K kind l P = (u8I kind :: 2 :: fixedF l.length 2) ++ (List.replicate 2 0 ++ List.replicate (P - 6) 0) := by
    unfold st2K; rw [e1]; simp
  rw [e, splice_mid _ _ _ _ 4 (by simp [fixedF_length]) (by rw [fixedF_length]; rfl)]
  unfold st3K; simp
theorem st3K_next {kind : Int} {l : List PC} {P : Nat} (h : psizeF kind l ≤ P) : splice (st3K kind l P) 6 (prefF kind l) = contK kind l P 0 := by
  have h1 := fitK h
  have e0 : a0K kind l = 6 + sharedF kind l + 2 * l.length := rfl
  have e1 : List.replicate (P - 6) (0 : UInt8) = List.replicate (sharedF kind l) 0 ++ (List.replicate (2 * l.length) 0 ++ List.replicate (P - a0K kind l) 0) := by
    rw [List.replicate_append_replicate, List.replicate_append_replicate]; congr 1; omega
  have e : st3K kind l P = (u8I kind :: 2 :: (fixedF l.length 2 ++ fixedF (sharedF kind l) 2)) ++ (List.replicate (sharedF kind l) 0 ++ (List.replicate (2 * l.length) 0 ++ List.replicate (P - a0K kind l) 0)) := by
    unfold st3K; rw [e1]; simp
  rw [e, splice_mid _ _ _ _ 6 (by simp [fixedF_length]) (by rw [prefF_length, List.length_replicate])]
  unfold contK headK slotsK
  rw [bodyK_zero]
  simp [pslotsF]
theorem st3K_zero {kind : Int} {l : List PC} {P : Nat} (h : psizeF kind l ≤ P) (h0 : sharedF kind l = 0) : st3K kind l P = contK kind l P 0 := by
  have := st3K_next h
  have e : prefF kind l = [] := List.eq_nil_of_length_eq_zero (by rw [prefF_length, h0])
  rw [e, splice_nil] at this
  exact this
theorem bigK_okc {P : Nat} (hP : P ≤ 65536) : ∀ {l : List PC}, (∀ c ∈ l, OkC P c) → bigK l ≤ 131105 * l.length
  | [], _ => by simp [bigK]
  | c :: r, h => by
    have h1 := okc_fit (h c (by simp)) hP
    have h2 := bigK_okc hP (l := r) (fun x hx => h x (by simp [hx]))
    simp only [bigK, List.length_cons]
    omega
end Go.Proofs.Ytaniabhajngdeaa

-- bytes.Clone.
namespace Go.Proofs.Ytaniabhajngdeaa
open Go.RowKit
set_option maxRecDepth 20000 in
set_option maxHeartbeats 1000000 in
theorem CloneK_any (v : Value) (l : List UInt8) (w : World) (hv : RdB w v l) (hl : l.length ≤ 140737488355328) :
    Calls Try.prog 77 #[v] w fun e w' => ∃ v', e = .returned v' ∧ OwB w' w.heap.size v' l ∧ Below w.heap.size w w' := by
  obtain ⟨A, c, rfl, hm⟩ := hv.form
  have q22 : ∀ (w : World) (a : Option Addr) (n c n' c' : Nat), (binOp .eql 29 (.slice a n c) (.slice none n' c')).run Try.prog w = .ok (.bool a.isNone) w := fun w a n c n' c' => Lib.run_eql_slice_nil w _ _ a n c n' c' Try.underlying29
  cases A with
  | none =>
    have : l = [] := by
      cases l with
      | nil => rfl
      | cons x r => obtain ⟨ad, h, _⟩ := hv.at_ (j := 0) (by simp); cases h
    subst this
    go_enter Try.func77, Try.ntmps77
    go_wp2_with fail
    go_ret
    exact ⟨_, rfl, OwB.nil _ _, Below.refl _ _⟩
  | some ad =>
    go_enter Try.func77, Try.ntmps77
    have hbase : OwB (w.alloc (.cells #[] 5)) w.heap.size (.slice (some ⟨w.heap.size, 0, none⟩) 0 0) [] := by
      have := (OBlk.new' w 5 []).owB' (base := w.heap.size) (m := []) (Nat.le_refl _) (by simp)
      exact this
    go_wp2_with (first
      | (at_builtin; refine wp_append_B rfl (.tmp 5) (.tmp 6) rfl w.heap.size _ [] rfl hbase _ l rfl (hv.alloc _) (by simp; omega) (by simp) ?_; intro v' w' ho hg hbk)
      | fail)
    go_ret
    exact ⟨v', rfl, ho, ((Below.refl w.heap.size w).alloc (Nat.le_refl _) _).grown hg (by simp) (fun k hk => Nat.le_of_eq (Option.some.inj hk))⟩
end Go.Proofs.Ytaniabhajngdeaa

-- Separate pieces of memory: one fact for all of them.
namespace Go.Proofs.Ytaniabhajngdeaa
open Go.RowKit
/-- A piece of memory: its blocks, and what holds of them. -/
structure Ent where
  F : Nat → Prop
  p : World → Prop
  loc : ∀ {w w' : World}, (∀ g, F g → w'.heap[g]? = w.heap[g]?) → p w → p w'
structure Same (w0 w : World) : Prop where
  os : w.os = w0.os
  tape : w.tape = w0.tape
  output : w.output = w0.output
  size : w0.heap.size ≤ w.heap.size
theorem Same.refl (w : World) : Same w w := ⟨rfl, rfl, rfl, Nat.le_refl _⟩
theorem Same.trans {a b c : World} (h : Same a b) (k : Same b c) : Same a c := ⟨k.os.trans h.os, k.tape.trans h.tape, k.output.trans h.output, Nat.le_trans h.size k.size⟩
theorem Same.of_below {B : Nat} {w w' : World} (h : Below B w w') : Same w w' := ⟨h.os, h.tape, h.output, h.size⟩
theorem Same.of_turn {F : Nat → Prop} {w w' : World} (h : Turn F w w') : Same w w' := ⟨h.os, h.tape, h.output, h.size⟩
/-- Pieces that lie apart, all of them in the world w, which came of w0. -/
structure Sep (w0 w : World) (L : List Ent) : Prop where
  same : Same w0 w
  each : ∀ E ∈ L, E.p w ∧ ∀ g, E.F g → g < w.heap.size
  apart : L.Pairwise fun a b => ∀ g, a.F g → ¬ b.F g
section
variable {w0 w w' : World} {L L' : List Ent} {E E' A B C D : Ent}
theorem Sep.perm (h : Sep w0 w L) (hp : L.Perm L') : Sep w0 w L' :=
  ⟨h.same, fun E hE => h.each E (hp.mem_iff.2 hE), (hp.pairwise_iff (fun {a b} hab g h1 h2 => hab g h2 h1)).1 h.apart⟩
theorem Sep.sw1 (h : Sep w0 w (A :: E :: L)) : Sep w0 w (E :: A :: L) := h.perm (List.perm_middle (l₁ := [A]))
theorem Sep.sw2 (h : Sep w0 w (A :: B :: E :: L)) : Sep w0 w (E :: A :: B :: L) := h.perm (List.perm_middle (l₁ := [A, B]))
theorem Sep.sw3 (h : Sep w0 w (A :: B :: C :: E :: L)) : Sep w0 w (E :: A :: B :: C :: L) := h.perm (List.perm_middle (l₁ := [A, B, C]))
theorem Sep.sw4 (h : Sep w0 w (A :: B :: C :: D :: E :: L)) : Sep w0 w (E :: A :: B :: C :: D :: L) := h.perm (List.perm_middle (l₁ := [A, B, C, D]))
/-- The piece behind the first n comes to the head. -/
theorem Sep.sw (L1 : List Ent) (h : Sep w0 w (L1 ++ E :: L)) : Sep w0 w (E :: (L1 ++ L)) := h.perm List.perm_middle
/-- The piece behind the first n behind the head comes next to the head. -/
theorem Sep.sn (L1 : List Ent) (h : Sep w0 w (A :: (L1 ++ E :: L))) : Sep w0 w (A :: E :: (L1 ++ L)) := h.perm (List.Perm.cons _ List.perm_middle)
/-- The first piece goes behind L1. -/
theorem Sep.back (L1 : List Ent) (h : Sep w0 w (E :: (L1 ++ L))) : Sep w0 w (L1 ++ E :: L) := h.perm List.perm_middle.symm
theorem Sep.head (h : Sep w0 w (E :: L)) : E.p w := (h.each E (List.mem_cons_self ..)).1
theorem Sep.lt (h : Sep w0 w (E :: L)) : ∀ g, E.F g → g < w.heap.size := (h.each E (List.mem_cons_self ..)).2
theorem Sep.of_mem (h : Sep w0 w L) (hE : E ∈ L) : E.p w := (h.each E hE).1
theorem Sep.tail (h : Sep w0 w (E :: L)) : Sep w0 w L := ⟨h.same, fun X hX => h.each X (List.mem_cons_of_mem _ hX), (List.pairwise_cons.1 h.apart).2⟩
theorem Sep.far (h : Sep w0 w (E :: L)) (hA : A ∈ L) : ∀ g, E.F g → ¬ A.F g := (List.pairwise_cons.1 h.apart).1 A hA
theorem Sep.cons (h : Sep w0 w L) (hp : E.p w) (hl : ∀ g, E.F g → g < w.heap.size) (ha : ∀ A ∈ L, ∀ g, E.F g → ¬ A.F g) : Sep w0 w (E :: L) :=
  ⟨h.same, fun X hX => by rcases List.mem_cons.1 hX with rfl | hX; exact ⟨hp, hl⟩; exact h.each X hX, List.pairwise_cons.2 ⟨ha, h.apart⟩⟩
/-- Nothing that was there is written. -/
theorem Sep.below (h : Sep w0 w L) (hb : Below w.heap.size w w') : Sep w0 w' L :=
  ⟨h.same.trans (Same.of_below hb), fun X hX => ⟨X.loc (fun g hg => hb.block g ((h.each X hX).2 g hg)) (h.each X hX).1, fun g hg => Nat.lt_of_lt_of_le ((h.each X hX).2 g hg) hb.size⟩, h.apart⟩
/-- .. and a new piece. -/
theorem Sep.new (h : Sep w0 w L) (hb : Below w.heap.size w w') (hp : E.p w') (hF : ∀ g, E.F g → w.heap.size ≤ g ∧ g < w'.heap.size) : Sep w0 w' (E :: L) :=
  (h.below hb).cons hp (fun g hg => (hF g hg).2) (fun X hX g hg h2 => by have h1 := (h.each X hX).2 g h2; have h3 := (hF g hg).1; omega)
/-- The first piece is written. -/
theorem Sep.upd (h : Sep w0 w (E :: L)) (ht : Turn E.F w w') (hp : E'.p w') (hF : ∀ g, E'.F g → (E.F g ∨ w.heap.size ≤ g) ∧ g < w'.heap.size) : Sep w0 w' (E' :: L) := by
  have hl : Sep w0 w' L := ⟨h.same.trans (Same.of_turn ht), fun X hX => ⟨X.loc (fun g hg => ht.block g ((h.tail.each X hX).2 g hg) (fun e => h.far hX g e hg)) (h.tail.each X hX).1, fun g hg => Nat.lt_of_lt_of_le ((h.tail.each X hX).2 g hg) ht.size⟩, h.tail.apart⟩
  refine hl.cons hp (fun g hg => (hF g hg).2) (fun X hX g hg h2 => ?_)
  rcases (hF g hg).1 with h3 | h3
  · exact h.far hX g h3 h2
  · have h1 := (h.tail.each X hX).2 g h2
    omega
/-- The first piece is written, and is of no more use. -/
theorem Sep.kill (h : Sep w0 w (E :: L)) (ht : Turn E.F w w') : Sep w0 w' L :=
  ⟨h.same.trans (Same.of_turn ht), fun X hX => ⟨X.loc (fun g hg => ht.block g ((h.tail.each X hX).2 g hg) (fun e => h.far hX g e hg)) (h.tail.each X hX).1, fun g hg => Nat.lt_of_lt_of_le ((h.tail.each X hX).2 g hg) ht.size⟩, h.tail.apart⟩
/-- The first piece is told otherwise. -/
theorem Sep.weak (h : Sep w0 w (E :: L)) (hp : E.p w → E'.p w) (hF : ∀ g, E'.F g → E.F g) : Sep w0 w (E' :: L) :=
  h.tail.cons (hp h.head) (fun g hg => h.lt g (hF g hg)) (fun _ hX g hg => h.far hX g (hF g hg))
/-- Two pieces as one. -/
def Ent.star (A B : Ent) : Ent := ⟨fun g => A.F g ∨ B.F g, fun w => A.p w ∧ B.p w ∧ ∀ g, A.F g → ¬ B.F g,
  fun h ⟨h1, h2, h3⟩ => ⟨A.loc (fun g hg => h g (.inl hg)) h1, B.loc (fun g hg => h g (.inr hg)) h2, h3⟩⟩
theorem Sep.join (h : Sep w0 w (A :: B :: L)) : Sep w0 w (A.star B :: L) := by
  refine h.tail.tail.cons ⟨h.head, h.tail.head, h.far (List.mem_cons_self ..)⟩ (fun g hg => hg.elim (h.lt g) (h.tail.lt g)) (fun X hX g hg => ?_)
  rcases hg with hg | hg
  · exact h.far (List.mem_cons_of_mem _ hX) g hg
  · exact h.tail.far hX g hg
theorem Sep.split (h : Sep w0 w (A.star B :: L)) : Sep w0 w (A :: B :: L) := by
  refine (h.tail.cons (E := B) h.head.2.1 (fun g hg => h.lt g (.inr hg)) (fun X hX g hg => h.far hX g (.inr hg))).cons h.head.1 (fun g hg => h.lt g (.inl hg)) (fun X hX g hg => ?_)
  rcases List.mem_cons.1 hX with rfl | hX
  · exact h.head.2.2 g hg
  · exact h.far hX g (.inl hg)
/-- The first two pieces are written. -/
theorem Sep.upd2 (h : Sep w0 w (A :: B :: L)) (ht : Turn (fun g => A.F g ∨ B.F g) w w') (hc : C.p w') (hd : D.p w') (hC : ∀ g, C.F g → (A.F g ∨ B.F g ∨ w.heap.size ≤ g) ∧ g < w'.heap.size) (hD : ∀ g, D.F g → (A.F g ∨ B.F g ∨ w.heap.size ≤ g) ∧ g < w'.heap.size)
    (hCD : ∀ g, C.F g → ¬ D.F g) : Sep w0 w' (C :: D :: L) := by
  refine Sep.split (h.join.upd (E' := C.star D) ht ⟨hc, hd, hCD⟩ (fun g hg => ?_))
  rcases hg with hg | hg
  · exact ⟨by rcases (hC g hg).1 with h | h | h; exact .inl (.inl h); exact .inl (.inr h); exact .inr h, (hC g hg).2⟩
  · exact ⟨by rcases (hD g hg).1 with h | h | h; exact .inl (.inl h); exact .inl (.inr h); exact .inr h, (hD g hg).2⟩
theorem Sep.drewN (h : Sep w0 w L) (n : Nat) : Sep w0 (w.drewN n) L := h.below (w' := w.drewN n) ⟨rfl, rfl, rfl, Nat.le_refl _, fun _ _ => rfl⟩
theorem Sep.drew (h : Sep w0 w L) : Sep w0 w.drew L := h.below (w' := w.drew) ⟨rfl, rfl, rfl, Nat.le_refl _, fun _ _ => rfl⟩
/-! ### kinds of pieces -/
/-- All that was there in w0. -/
def oldE (w0 : World) : Ent := ⟨fun g => g < w0.heap.size, fun w => ∀ g, g < w0.heap.size → w.heap[g]? = w0.heap[g]?, fun h k g hg => (h g hg).trans (k g hg)⟩
theorem Sep.start (w : World) : Sep w w [oldE w] := ⟨Same.refl w, fun E hE => by obtain rfl := List.mem_singleton.1 hE; exact ⟨fun _ _ => rfl, fun _ h => h⟩, List.pairwise_singleton _ _⟩
theorem Sep.belowOld {v : World} (h : Sep w0 w L) (hm : oldE w0 ∈ L) : Below w0.heap.size w0 w := ⟨h.same.os, h.same.tape, h.same.output, h.same.size, h.of_mem hm⟩
theorem Sep.old_cell {v : World} (h : Sep w0 w L) (hm : oldE v ∈ L) : ∀ p : Addr, p.block < v.heap.size → w.cell? p = v.cell? p := fun p hp => World.cell?_of_block (h.of_mem hm p.block hp)
theorem Sep.rd {v : World} {x : Value} {l : List UInt8} (h : Sep w0 w L) (hm : oldE v ∈ L) (hr : RdB v x l) : RdB w x l := hr.keep (h.old_cell hm)
/-- A block. -/
def blkE (g : Nat) (T : TypeId) (cs : List Value) : Ent := ⟨fun b => b = g, fun w => OBlk w g T cs, fun h k => k.of_heap (h g rfl)⟩
/-- Bytes of the call's own, or nil. -/
def bytesE (v : Value) (l : List UInt8) : Ent := ⟨fun g => v.ownBlock = some g, fun w => OwB w 0 v l, fun h k => Own.heap k h⟩
def ownE (T : TypeId) (size : Nat) (v : Value) (n : Nat) (xs : List Value) : Ent := ⟨fun g => v.ownBlock = some g, fun w => Own w 0 T size v n xs, fun h k => Own.heap k h⟩
theorem Sep.alloc (h : Sep w0 w L) (T : TypeId) (cs : List Value) : Sep w0 (w.alloc (.cells cs.toArray T)) (blkE w.heap.size T cs :: L) :=
  h.new ((Below.refl _ _).alloc (Nat.le_refl _) _) (OBlk.new' w T cs) (fun g hg => by have hg' : g = w.heap.size := hg; rw [World.size_alloc]; omega)
theorem Sep.setCell {g : Nat} {T : TypeId} {cs : List Value} (h : Sep w0 w (blkE g T cs :: L)) (j : Nat) (u : Value) : Sep w0 (w.setCell ⟨g, j, none⟩ u) (blkE g T (cs.set j u) :: L) :=
  h.upd (Turn.of_grown (grownBy_setCell w ⟨g, j, none⟩ u) (fun k e => (Option.some.inj e).symm)) (OBlk.set (h.head : OBlk w g T cs) j u) (fun b hb => ⟨.inl hb, by have h' := h.lt b hb; simpa using h'⟩)
theorem Sep.bytes {b : Nat} {v : Value} {l : List UInt8} (h : Sep w0 w L) (hb : Below w.heap.size w w') (ho : OwB w' b v l) (hB : w.heap.size ≤ b) : Sep w0 w' (bytesE v l :: L) :=
  h.new hb (OwB.low ho (Nat.zero_le _)) (fun g hg => ⟨Nat.le_trans hB (Own.lt ho g hg).1, (Own.lt ho g hg).2⟩)
/-- A list that is read, in whichever piece. -/
def RdIn (L : List Ent) (v : Value) (l : List UInt8) : Prop := ∃ E ∈ L, ∀ w, E.p w → RdB w v l
theorem RdIn.cons {v : Value} {l : List UInt8} (h : RdIn L v l) : RdIn (E :: L) v l := by obtain ⟨X, hX, h⟩ := h; exact ⟨X, List.mem_cons_of_mem _ hX, h⟩
theorem Sep.rdIn {v : Value} {l : List UInt8} (h : Sep w0 w L) (hr : RdIn L v l) : RdB w v l := by obtain ⟨X, hX, hr⟩ := hr; exact hr w (h.of_mem hX)
/-- Many pieces as one. -/
def allE (D : List Ent) : Ent := ⟨fun g => ∃ E ∈ D, E.F g, fun w => (∀ E ∈ D, E.p w) ∧ D.Pairwise (fun (a b : Ent) => ∀ g : Nat, a.F g → ¬ b.F g),
  fun h ⟨h1, h2⟩ => ⟨fun E hE => E.loc (fun g hg => h g ⟨E, hE, hg⟩) (h1 E hE), h2⟩⟩
theorem Sep.pack {D : List Ent} (h : Sep w0 w (D ++ L)) : Sep w0 w (allE D :: L) := by
  have h1 := List.pairwise_append.1 h.apart
  refine Sep.cons ⟨h.same, fun X hX => h.each X (List.mem_append_right _ hX), h1.2.1⟩ ⟨fun E hE => (h.each E (List.mem_append_left _ hE)).1, h1.1⟩ (fun g hg => ?_) (fun X hX g hg => ?_)
  · obtain ⟨E, hE, hg⟩ := hg
    exact (h.each E (List.mem_append_left _ hE)).2 g hg
  · obtain ⟨E, hE, hg⟩ := hg
    exact h1.2.2 E hE X hX g hg
theorem Sep.unpack {D : List Ent} (h : Sep w0 w (allE D :: L)) : Sep w0 w (D ++ L) := by
  have hp := h.head
  refine ⟨h.same, fun X hX => ?_, List.pairwise_append.2 ⟨hp.2, h.tail.apart, fun E hE X hX g hg => h.far hX g ⟨E, hE, hg⟩⟩⟩
  rcases List.mem_append.1 hX with hX | hX
  · exact ⟨hp.1 X hX, fun g hg => h.lt g ⟨X, hX, hg⟩⟩
  · exact h.tail.each X hX
end
end Go.Proofs.Ytaniabhajngdeaa

-- Owned cells, in words of pieces.
namespace Go.Proofs.Ytaniabhajngdeaa
open Go.RowKit
def cellsE (l : List CV) : List Ent := l.flatMap fun x => [bytesE x.kv x.c.key, bytesE x.vv x.c.val]
def pairsC (l : List CV) : List (Value × List UInt8) := l.flatMap fun x => [(x.kv, x.c.key), (x.vv, x.c.val)]
theorem pairsC_length (l : List CV) : (pairsC l).length = 2 * l.length := by
  induction l with
  | nil => rfl
  | cons x r ih => simp only [pairsC, List.flatMap_cons, List.length_append, List.length_cons, List.length_nil] at ih ⊢; omega
theorem pairsC_snoc (l : List CV) {k : Nat} (h : k < l.length) : pairsC (l.take (k + 1)) = pairsC (l.take k) ++ [(l[k].kv, l[k].c.key)] ++ [(l[k].vv, l[k].c.val)] := by
  rw [List.take_succ_eq_append_getElem h]; unfold pairsC; rw [List.flatMap_append, List.append_assoc]; rfl
theorem cellsE_drop (l : List CV) {k : Nat} (h : k < l.length) : cellsE (l.drop k) = bytesE l[k].kv l[k].c.key :: bytesE l[k].vv l[k].c.val :: cellsE (l.drop (k + 1)) := by
  rw [List.drop_eq_getElem_cons h]; rfl
/-- Cells that came out, each piece by itself. -/
theorem Sep.cellsAdd {w0 w : World} {L : List Ent} {base : Nat} {v : Value} {l : List CV} (h : Sep w0 w L) (hL : ∀ E ∈ L, ∀ g, E.F g → g < base) (ho : OwCs w base v l) : Sep w0 w (ownE 50 5 v l.length (flatC l) :: (cellsE l ++ L)) := by
  have hall : ∀ E ∈ cellsE l, E.p w ∧ (∀ g, E.F g → base ≤ g ∧ g < w.heap.size ∧ ∃ cs, OBlk w g 5 cs) := fun E hE => by
    obtain ⟨x, hx, hE⟩ := List.mem_flatMap.1 hE
    obtain ⟨hk, hv⟩ := ho.each x hx
    simp only [List.mem_cons, List.not_mem_nil, or_false] at hE
    rcases hE with rfl | rfl
    · exact ⟨OwB.low hk (Nat.zero_le _), fun g hg => ⟨(Own.lt hk g hg).1, (Own.lt hk g hg).2, OwB.blkU hk hg⟩⟩
    · exact ⟨OwB.low hv (Nat.zero_le _), fun g hg => ⟨(Own.lt hv g hg).1, (Own.lt hv g hg).2, OwB.blkU hv hg⟩⟩
  have key : ∀ (l : List CV) (S : List Ent), Sep w0 w S → (∀ E ∈ S, ∀ g, E.F g → g < base) → (∀ E ∈ cellsE l, E.p w ∧ (∀ g, E.F g → base ≤ g ∧ g < w.heap.size)) → ((l.flatMap fun x => [x.kv.ownBlock, x.vv.ownBlock]).filterMap id).Pairwise (· < ·) → Sep w0 w (cellsE l ++ S) := by
    intro l
    induction l with
    | nil => intro S hS _ _ _; exact hS
    | cons x r ih =>
      intro S hS hSb hp hr
      have hr' : ((r.flatMap fun x => [x.kv.ownBlock, x.vv.ownBlock]).filterMap id).Pairwise (· < ·) := by
        rw [List.flatMap_cons, List.filterMap_append, List.pairwise_append] at hr
        exact hr.2.1
      have hS2 := ih S hS hSb (fun E hE => hp E (by simp only [cellsE, List.flatMap_cons] at hE ⊢; exact List.mem_append_right _ hE)) hr'
      have hmem : ∀ (y : CV), y ∈ r → ∀ g, (y.kv.ownBlock = some g ∨ y.vv.ownBlock = some g) → g ∈ ((r.flatMap fun x => [x.kv.ownBlock, x.vv.ownBlock]).filterMap id) := fun y hy g hg => by
        rw [List.mem_filterMap]
        refine ⟨some g, List.mem_flatMap.2 ⟨y, hy, ?_⟩, rfl⟩
        simp only [List.mem_cons, List.not_mem_nil, or_false]
        exact hg.imp Eq.symm Eq.symm
      rw [List.flatMap_cons, List.filterMap_append, List.pairwise_append] at hr
      obtain ⟨hr1, _, hr3⟩ := hr
      have hkp := hp (bytesE x.kv x.c.key) (by simp [cellsE])
      have hvp := hp (bytesE x.vv x.c.val) (by simp [cellsE])
      have far : ∀ (u : Value), (u = x.kv ∨ u = x.vv) → ∀ A ∈ cellsE r ++ S, ∀ g, u.ownBlock = some g → ¬ A.F g := fun u hu A hA g hg hAg => by
        rcases List.mem_append.1 hA with hA | hA
        · obtain ⟨y, hy, hA⟩ := List.mem_flatMap.1 hA
          have hyg : y.kv.ownBlock = some g ∨ y.vv.ownBlock = some g := by
            simp only [List.mem_cons, List.not_mem_nil, or_false] at hA
            rcases hA with rfl | rfl
            · exact .inl hAg
            · exact .inr hAg
          have h1 : g ∈ [x.kv.ownBlock, x.vv.ownBlock].filterMap id := by
            rw [List.mem_filterMap]
            refine ⟨some g, ?_, rfl⟩
            simp only [List.mem_cons, List.not_mem_nil, or_false]
            rcases hu with rfl | rfl
            · exact .inl hg.symm
            · exact .inr hg.symm
          have := hr3 g h1 g (hmem y hy g hyg)
          omega
        · have h1 := hSb A hA g hAg
          have h2 : base ≤ g := by
            rcases hu with rfl | rfl
            · exact (hkp.2 g hg).1
            · exact (hvp.2 g hg).1
          omega
      have hV := hS2.cons (E := bytesE x.vv x.c.val) hvp.1 (fun g hg => (hvp.2 g hg).2) (fun A hA g hg => far x.vv (.inr rfl) A hA g hg)
      refine hV.cons (E := bytesE x.kv x.c.key) hkp.1 (fun g hg => (hkp.2 g hg).2) (fun A hA g hg => ?_)
      rcases List.mem_cons.1 hA with rfl | hA
      · intro hvg
        have hk' : x.kv.ownBlock = some g := hg
        have hv' : x.vv.ownBlock = some g := hvg
        rw [hk', hv'] at hr1
        simp at hr1
      · exact far x.kv (.inl rfl) A hA g hg
  have hC := key l L h hL (fun E hE => ⟨(hall E hE).1, fun g hg => ⟨((hall E hE).2 g hg).1, ((hall E hE).2 g hg).2.1⟩⟩) ho.apart
  refine hC.cons (E := ownE 50 5 v l.length (flatC l)) (Own.low ho.own (Nat.zero_le _)) (fun g hg => (Own.lt ho.own g hg).2) (fun A hA g hg hAg => ?_)
  rcases List.mem_append.1 hA with hA | hA
  · obtain ⟨cs, h1⟩ := ((hall A hA).2 g hAg).2.2
    exact Own.ne_Tg ho.own h1 (by decide) hg.symm
  · have h1 := hL A hA g hAg
    have h2 := (Own.lt ho.own g hg).1
    omega
theorem Sep.cells {w0 w w' : World} {L : List Ent} {v : Value} {l : List CV} (h : Sep w0 w L) (hb : Below w.heap.size w w') (ho : OwCs w' w.heap.size v l) : Sep w0 w' (ownE 50 5 v l.length (flatC l) :: (cellsE l ++ L)) :=
  (h.below hb).cellsAdd (fun E hE g hg => (h.each E hE).2 g hg) ho
def RngC (l : List CV) : Prop := ∀ x ∈ l, i64r x.c.kind ∧ i64r x.c.page ∧ i64r x.c.count
/-- Cells of the call's own, with their bytes. -/
def csE (u : Value) (l : List CV) : Ent := allE (ownE 50 5 u l.length (flatC l) :: cellsE l)
theorem csE_rd {w : World} {u : Value} {l : List CV} (h : (csE u l).p w) (hr : RngC l) : RdCs w u l := by
  have ho : Own w 0 50 5 u l.length (flatC l) := h.1 _ (List.mem_cons_self ..)
  refine ⟨ho.rd, fun x hx => ?_⟩
  have hk : OwB w 0 x.kv x.c.key := h.1 (bytesE x.kv x.c.key) (List.mem_cons_of_mem _ (List.mem_flatMap.2 ⟨x, hx, by simp⟩))
  have hv : OwB w 0 x.vv x.c.val := h.1 (bytesE x.vv x.c.val) (List.mem_cons_of_mem _ (List.mem_flatMap.2 ⟨x, hx, by simp⟩))
  exact ⟨hk.rd, hv.rd, (hr x hx).1, (hr x hx).2.1, (hr x hx).2.2⟩
/-- A cell that is read, in whichever pieces. -/
structure XIn (L : List Ent) (x : CV) : Prop where
  k : RdIn L x.kv x.c.key
  v : RdIn L x.vv x.c.val
  r1 : i64r x.c.kind
  r2 : i64r x.c.page
  r3 : i64r x.c.count
  s1 : x.c.key.length ≤ 140737488355328
  s2 : x.c.val.length ≤ 140737488355328
theorem XIn.ok {L M : List Ent} {x : CV} {w0 w : World} (h : XIn L x) (hS : Sep w0 w M) (hs : ∀ E ∈ L, E ∈ M) : x.ok w := by
  obtain ⟨E, hE, hr⟩ := h.k
  obtain ⟨E', hE', hr'⟩ := h.v
  exact ⟨hr w (hS.of_mem (hs E hE)), hr' w (hS.of_mem (hs E' hE')), h.r1, h.r2, h.r3⟩
theorem XIn.app {L1 L2 : List Ent} {x : CV} (h : XIn L2 x) : XIn (L1 ++ L2) x := by
  obtain ⟨E, hE, hr⟩ := h.k
  obtain ⟨E', hE', hr'⟩ := h.v
  exact ⟨⟨E, List.mem_append_right _ hE, hr⟩, ⟨E', List.mem_append_right _ hE', hr'⟩, h.r1, h.r2, h.r3, h.s1, h.s2⟩
theorem cellsE_append (a b : List CV) : cellsE (a ++ b) = cellsE a ++ cellsE b := by simp [cellsE]
theorem cellsE_cons (y : CV) (b : List CV) : cellsE (y :: b) = bytesE y.kv y.c.key :: bytesE y.vv y.c.val :: cellsE b := rfl
theorem cellsE_split (l : List CV) (i : Nat) : cellsE l = cellsE (l.take i) ++ cellsE (l.drop i) := by rw [← cellsE_append, List.take_append_drop]
theorem pcs_append (a b : List CV) : pcs (a ++ b) = pcs a ++ pcs b := by simp [pcs]
theorem pcs_take (l : List CV) (i : Nat) : pcs (l.take i) = (pcs l).take i := by simp [pcs, List.map_take]
theorem pcs_drop (l : List CV) (i : Nat) : pcs (l.drop i) = (pcs l).drop i := by simp [pcs, List.map_drop]
theorem pcs_rem (l : List CV) (i : Nat) : pcs (l.take i ++ l.drop (i + 1)) = (pcs l).take i ++ (pcs l).drop (i + 1) := by
  rw [pcs_append, pcs_take, ← pcs_drop]
theorem RngC.with_ {l : List CV} (h : RngC l) {y : CV} (hy : i64r y.c.kind ∧ i64r y.c.page ∧ i64r y.c.count) (i j : Nat) : RngC (l.take i ++ y :: l.drop j) := by
  intro x hx
  rcases List.mem_append.1 hx with hx | hx
  · exact h x (List.mem_of_mem_take hx)
  · rcases List.mem_cons.1 hx with rfl | hx
    · exact hy
    · exact h x (List.mem_of_mem_drop hx)
theorem RngC.rem {l : List CV} (h : RngC l) (i j : Nat) : RngC (l.take i ++ l.drop j) := by
  intro x hx
  rcases List.mem_append.1 hx with hx | hx
  · exact h x (List.mem_of_mem_take hx)
  · exact h x (List.mem_of_mem_drop hx)
section
variable {w0 w w' : World} {L : List Ent} {u v : Value} {l : List CV} {y : CV} {i : Nat}
theorem Sep.sub {L' : List Ent} (h : Sep w0 w L) (hs : L'.Sublist L) : Sep w0 w L' := ⟨h.same, fun E hE => h.each E (hs.subset hE), h.apart.sublist hs⟩
theorem perm_ins {α : Type} (k a O : α) (T X : List α) : (k :: a :: O :: (T ++ X)).Perm (O :: (T ++ (k :: a :: X))) :=
  (List.perm_middle (l₁ := [k, a])).trans (List.Perm.cons _ (List.perm_append_comm_assoc [k, a] T X))
theorem cellsE_del (hi : i < l.length) : (cellsE (l.take i) ++ cellsE (l.drop (i + 1))).Sublist (cellsE l) := by
  rw [cellsE_split l i, cellsE_drop l hi]
  exact (List.Sublist.refl _).append (((List.Sublist.refl _).cons _).cons _)
theorem Sep.push3 {a b c d : Ent} {T : List Ent} (h : Sep w0 w (a :: b :: c :: d :: (T ++ L))) : Sep w0 w (a :: b :: c :: (T ++ d :: L)) := h.perm (((List.perm_middle.symm).cons _ |>.cons _ |>.cons _))
theorem Sep.push1 {a d : Ent} {T : List Ent} (h : Sep w0 w (a :: d :: (T ++ L))) : Sep w0 w (a :: (T ++ d :: L)) := h.perm ((List.perm_middle.symm).cons _)
/-- A cell more, in its place. -/
theorem Sep.csIns {N : Nat} (hN : (l.take i ++ y :: l.drop i).length = N) (h : Sep w0 w (bytesE y.kv y.c.key :: bytesE y.vv y.c.val :: ownE 50 5 v N (flatC (l.take i ++ y :: l.drop i)) :: (cellsE l ++ L))) : Sep w0 w (csE v (l.take i ++ y :: l.drop i) :: L) := by
  subst hN
  refine Sep.pack (D := ownE 50 5 v _ _ :: cellsE _) (h.perm ?_)
  rw [cellsE_append, cellsE_cons, cellsE_split l i]
  simp only [List.cons_append, List.append_assoc]
  exact perm_ins _ _ _ _ _
/-- A cell in another one's place. -/
theorem Sep.csSet {N : Nat} (hN : (l.take i ++ y :: l.drop (i + 1)).length = N) (hi : i < l.length) (h : Sep w0 w (bytesE y.kv y.c.key :: bytesE y.vv y.c.val :: ownE 50 5 v N (flatC (l.take i ++ y :: l.drop (i + 1))) :: (cellsE l ++ L))) : Sep w0 w (csE v (l.take i ++ y :: l.drop (i + 1)) :: L) := by
  subst hN
  have h1 := h.sub ((((cellsE_del (l := l) hi).append (List.Sublist.refl L)).cons_cons _).cons_cons _ |>.cons_cons _)
  refine Sep.pack (D := ownE 50 5 v _ _ :: cellsE _) (h1.perm ?_)
  rw [cellsE_append, cellsE_cons]
  simp only [List.cons_append, List.append_assoc]
  exact perm_ins _ _ _ _ _
/-- A cell less. -/
theorem Sep.csDel {N : Nat} (hN : (l.take i ++ l.drop (i + 1)).length = N) (hi : i < l.length) (h : Sep w0 w (ownE 50 5 v N (flatC (l.take i ++ l.drop (i + 1))) :: (cellsE l ++ L))) : Sep w0 w (csE v (l.take i ++ l.drop (i + 1)) :: L) := by
  refine Sep.pack (D := ownE 50 5 v _ _ :: cellsE _) ((by subst hN; exact h : Sep w0 w (ownE 50 5 v (l.take i ++ l.drop (i + 1)).length (flatC (l.take i ++ l.drop (i + 1))) :: (cellsE l ++ L))).sub ?_)
  rw [cellsE_append]
  exact ((cellsE_del (l := l) hi).append (List.Sublist.refl L)).cons_cons _
end
/-- What is read of the open pieces. -/
theorem Sep.openRd {w0 w : World} {M : List Ent} {u : Value} {l : List CV} (h : Sep w0 w M) (h1 : ownE 50 5 u l.length (flatC l) ∈ M) (h2 : ∀ E ∈ cellsE l, E ∈ M) (hr : RngC l) : RdCs w u l := by
  have ho : Own w 0 50 5 u l.length (flatC l) := h.of_mem h1
  refine ⟨ho.rd, fun x hx => ?_⟩
  have hk : OwB w 0 x.kv x.c.key := h.of_mem (E := bytesE x.kv x.c.key) (h2 _ (List.mem_flatMap.2 ⟨x, hx, by simp⟩))
  have hv : OwB w 0 x.vv x.c.val := h.of_mem (E := bytesE x.vv x.c.val) (h2 _ (List.mem_flatMap.2 ⟨x, hx, by simp⟩))
  exact ⟨hk.rd, hv.rd, (hr x hx).1, (hr x hx).2.1, (hr x hx).2.2⟩
theorem Sep.set5 {w0 w : World} {g : Nat} {T : TypeId} {b0 b1 b2 b3 b4 : Value} {L : List Ent} (h : Sep w0 w (blkE g T [b0, b1, b2, b3, b4] :: L)) (a0 a1 a2 a3 a4 : Value) :
    Sep w0 (((((w.setCell ⟨g, 0, none⟩ a0).setCell ⟨g, 1, none⟩ a1).setCell ⟨g, 2, none⟩ a2).setCell ⟨g, 3, none⟩ a3).setCell ⟨g, 4, none⟩ a4) (blkE g T [a0, a1, a2, a3, a4] :: L) :=
  ((((h.setCell 0 a0).setCell 1 a1).setCell 2 a2).setCell 3 a3).setCell 4 a4
theorem froz5 {w : World} {g : Nat} {T : TypeId} {a0 a1 a2 a3 a4 : Value} (h : OBlk w g T [a0, a1, a2, a3, a4]) :
    w.frozen? ⟨g, 0, none⟩ = false ∧ w.frozen? ⟨g, 1, none⟩ = false ∧ w.frozen? ⟨g, 2, none⟩ = false ∧ w.frozen? ⟨g, 3, none⟩ = false ∧ w.frozen? ⟨g, 4, none⟩ = false :=
  ⟨h.frozen (j := 0) (by simp), h.frozen (j := 1) (by simp), h.frozen (j := 2) (by simp), h.frozen (j := 3) (by simp), h.frozen (j := 4) (by simp)⟩
theorem Sep.appC {w0 w w' : World} {L : List Ent} {v v' : Value} {n m : Nat} {xs ys : List Value} (h : Sep w0 w (ownE 50 5 v n xs :: L)) (ho : Own w' 0 50 5 v' m ys) (hg : w.grownBy w' v.ownBlock) (hk : v'.ownBlock = v.ownBlock ∨ ∃ k, v'.ownBlock = some k ∧ w.heap.size ≤ k) : Sep w0 w' (ownE 50 5 v' m ys :: L) :=
  h.upd (Turn.of_grown hg (fun _ e => e)) ho (fun g hg' => ⟨by
    rcases hk with e | ⟨k, e, hk⟩
    · exact .inl (e.symm.trans hg' : v.ownBlock = some g)
    · right
      have := e.symm.trans hg'
      injection this with this
      omega, (Own.lt ho g hg').2⟩)
theorem Sep.nilC {w0 w : World} {L : List Ent} (h : Sep w0 w L) : Sep w0 w (ownE 50 5 (.slice none 0 0) 0 [] :: L) :=
  h.cons (Own.nil w 0 _ _) (fun g hg => by cases hg) (fun _ _ g hg => by cases hg)
theorem Sep.csSnocFar {w0 w : World} {v : Value} {l : List CV} {y : CV} {R : List Ent} (xs : List Ent) (h : Sep w0 w (ownE 50 5 v (l.length + 1) (flatC l ++ y.cells) :: bytesE y.kv y.c.key :: bytesE y.vv y.c.val :: (xs ++ (cellsE l ++ R)))) : Sep w0 w (csE v (l ++ [y]) :: (xs ++ R)) := by
  have e1 : flatC (l ++ [y]) = flatC l ++ y.cells := by rw [flatC_append]; simp [flatC]
  have e2 : cellsE (l ++ [y]) = cellsE l ++ [bytesE y.kv y.c.key, bytesE y.vv y.c.val] := by rw [cellsE_append]; rfl
  have e3 : (l ++ [y]).length = l.length + 1 := by simp
  unfold csE
  rw [e1, e2, e3]
  refine Sep.pack (D := ownE 50 5 v (l.length + 1) (flatC l ++ y.cells) :: (cellsE l ++ [bytesE y.kv y.c.key, bytesE y.vv y.c.val])) (h.perm (List.Perm.cons _ ?_))
  have e4 : (bytesE y.kv y.c.key :: bytesE y.vv y.c.val :: (xs ++ (cellsE l ++ R))) = (bytesE y.kv y.c.key :: bytesE y.vv y.c.val :: xs) ++ (cellsE l ++ R) := rfl
  rw [e4]
  refine (List.perm_append_comm_assoc (bytesE y.kv y.c.key :: bytesE y.vv y.c.val :: xs) (cellsE l) R).trans (List.Perm.of_eq ?_)
  show cellsE l ++ ((bytesE y.kv y.c.key :: bytesE y.vv y.c.val :: xs) ++ R) = (cellsE l ++ [bytesE y.kv y.c.key, bytesE y.vv y.c.val]) ++ (xs ++ R)
  rw [List.append_assoc]; rfl
theorem Sep.lift2 {w0 w w' : World} {A B : Ent} {M L : List Ent} (hS : Sep w w' (A :: B :: M)) (hm : oldE w ∈ M) (h : Sep w0 w L) : Sep w0 w' (A :: B :: L) := by
  have hb : Below w.heap.size w w' := hS.belowOld (v := w) (by simp [hm])
  refine ((h.below hb).cons (E := B) hS.tail.head hS.tail.lt (fun X hX g hg hg2 => ?_)).cons (E := A) hS.head hS.lt (fun X hX g hg hg2 => ?_)
  · exact hS.tail.far hm g hg ((h.each X hX).2 g hg2)
  · rcases List.mem_cons.1 hX with rfl | hX
    · exact hS.far (List.mem_cons_self ..) g hg hg2
    · exact hS.far (List.mem_cons_of_mem _ hm) g hg ((h.each X hX).2 g hg2)
/-- Pieces that were made, in the words of an older world. -/
theorem Sep.lift1 {w0 w w' : World} {A : Ent} {M L : List Ent} (hS : Sep w w' (A :: M)) (hm : oldE w ∈ M) (h : Sep w0 w L) : Sep w0 w' (A :: L) := by
  have hb : Below w.heap.size w w' := hS.belowOld (v := w) (by simp [hm])
  exact (h.below hb).cons (E := A) hS.head hS.lt (fun X hX g hg hg2 => hS.far hm g hg ((h.each X hX).2 g hg2))
end Go.Proofs.Ytaniabhajngdeaa

-- Bytes that grow, as pieces.
namespace Go.Proofs.Ytaniabhajngdeaa
open Go.RowKit
/-- An append to bytes of the call's own, in the words of pieces. -/
theorem Sep.appended {w0 w w' : World} {v v' : Value} {l m : List UInt8} {L : List Ent} (h : Sep w0 w (bytesE v l :: L)) (ho : OwB w' 0 v' m) (hg : w.grownBy w' v.ownBlock) (hk : v'.ownBlock = v.ownBlock ∨ v'.ownBlock = some w.heap.size) : Sep w0 w' (bytesE v' m :: L) :=
  h.upd (Turn.of_grown hg (fun _ e => e)) ho (fun g hg' => ⟨by
    rcases hk with e | e
    · exact .inl (e.symm.trans hg' : v.ownBlock = some g)
    · right
      have := e.symm.trans hg'
      injection this with this
      omega, (Own.lt ho g hg').2⟩)
theorem Sep.nil {w0 w : World} {L : List Ent} (h : Sep w0 w L) : Sep w0 w (bytesE (.slice none 0 0) [] :: L) :=
  h.cons (OwB.nil w 0) (fun g hg => by cases hg) (fun _ _ g hg => by cases hg)
end Go.Proofs.Ytaniabhajngdeaa

-- packed.Page.Tidy, in words of pieces: the walk.
namespace Go.Proofs.Ytaniabhajngdeaa
open Go.RowKit
/-- The page's own block. -/
def pkB (p : Nat) (kind : Int) (P : Nat) (u pv : Value) (used waste : Nat) : Ent := blkE p 89 [.int .i64 kind, .int .i64 (P : Int), u, pv, .int .i64 (used : Int), .int .i64 (waste : Int)]
/-- Cells that are read, in whichever pieces. -/
def CsIn (M : List Ent) (u : Value) (l : List CV) : Prop := ∀ W, (∀ E ∈ M, E.p W) → RdCs W u l
theorem CsIn.at_ {M M' : List Ent} {u : Value} {l : List CV} {w0 w : World} (h : CsIn M u l) (hS : Sep w0 w M') (hs : ∀ E ∈ M, E ∈ M') : RdCs w u l := h w (fun E hE => hS.of_mem (hs E hE))
set_option maxRecDepth 100000 in
set_option maxHeartbeats 2000000 in
theorem KTidy_sep {w0 w : World} {M : List Ent} {p P : Nat} {kind : Int} {u pv : Value} {used waste : Nat} {l : List CV} (hS : Sep w0 w (pkB p kind P u pv used waste :: M)) (hM : CsIn M u l) (hf : bigK (pcs l) ≤ 140737488355328) :
    Calls Try.prog 37 #[.pointer (some ⟨p, 0, none⟩)] w fun e w' => (∃ x, e = .returned x) ∧ ∃ pv', Sep w0 w' (pkB p kind P u pv' (psizeF kind (pcs l)) 0 :: bytesE pv' (prefF kind (pcs l)) :: M) := by
  have hrd := hM.at_ hS (fun E hE => List.mem_cons_of_mem _ hE)
  obtain ⟨U, uc, rfl, hm, hc⟩ := hrd.slice
  have hpk : ∀ (i : Nat) (hi : i < (pcs l).length), ¬ (kind = 3 ∧ i = 0) → sharedF kind (pcs l) ≤ (pcs l)[i].key.length := fun i hi hn => (key_split (kind := kind) hi hn).1
  have hspos : 0 < sharedF kind (pcs l) → ∃ m, l.length = m + 1 ∧ ∃ h : m < l.length, sharedF kind (pcs l) ≤ l[m].c.key.length ∧ prefF kind (pcs l) = l[m].c.key.take (sharedF kind (pcs l)) ∧ l[m].c.key.length ≤ 140737488355328 := fun hs => by
    obtain ⟨j, hj, hjn⟩ := sharedF_pos hs
    rw [pcs_length] at hj
    obtain ⟨m, hm1⟩ : ∃ m, l.length = m + 1 := ⟨l.length - 1, by omega⟩
    have hlt : m < l.length := by omega
    have hkm := hpk m (by rw [pcs_length]; exact hlt) (fun h => hjn ⟨h.1, by omega⟩)
    have hpf : prefF kind (pcs l) = ((pcs l)[m]'(by rw [pcs_length]; exact hlt)).key.take (sharedF kind (pcs l)) := by
      unfold prefF
      have e : (pcs l).getLast? = some ((pcs l)[m]'(by rw [pcs_length]; exact hlt)) := by
        have e9 : (pcs l).length - 1 = m := by rw [pcs_length]; omega
        rw [List.getLast?_eq_getElem?, e9]
        exact List.getElem?_eq_getElem _
      rw [e]
    have hb := bigK_mem (show (pcs l)[m]'(by rw [pcs_length]; exact hlt) ∈ pcs l from List.getElem_mem _)
    rw [pcs_at hlt] at hkm hpf hb
    exact ⟨m, hm1, hlt, hkm, hpf, by omega⟩
  have hzero : sharedF kind (pcs l) = 0 → prefF kind (pcs l) = [] := fun h => List.eq_nil_of_length_eq_zero (by rw [prefF_length]; exact h)
  have hsb : sharedF kind (pcs l) ≤ 1152921504606846976 := by
    rcases Nat.eq_zero_or_pos (sharedF kind (pcs l)) with h | h
    · omega
    · obtain ⟨m, -, h1, h2, -, h3⟩ := hspos h; omega
  have hsh : ∀ W, RdCs W (.slice U l.length uc) l → Calls Try.prog 43 #[.int .i64 kind, .slice U l.length uc] W fun e w' => e = .returned (.int .i64 (sharedF kind (pcs l) : Nat)) ∧ Below W.heap.size W w' := fun W hW => Kshared_any kind _ l W hW
  have htk : ∀ W, RdCs W (.slice U l.length uc) l → Calls Try.prog 42 #[.int .i64 kind, .slice U l.length uc, .int .i64 (sharedF kind (pcs l) : Nat)] W fun e w' => e = .returned (.int .i64 (psizeF kind (pcs l) : Nat)) ∧ Below W.heap.size W w' := fun W hW => Ktaken_any kind _ l (sharedF kind (pcs l)) W hW (by omega) (by omega) hpk
  obtain ⟨s, hs⟩ : ∃ s, sharedF kind (pcs l) = s := ⟨_, rfl⟩
  obtain ⟨z, hz⟩ : ∃ z, psizeF kind (pcs l) = z := ⟨_, rfl⟩
  obtain ⟨pre, hpre⟩ : ∃ z, prefF kind (pcs l) = z := ⟨_, rfl⟩
  rw [hs, hpre] at hspos hzero
  rw [hs] at hsh htk hsb
  rw [hz] at htk ⊢
  rw [hpre]
  have HSP := Lib.hid hspos
  have HZ := Lib.hid hzero
  have HTK := Lib.hid htk
  have hbp : OBlk w p 89 [.int .i64 kind, .int .i64 (P : Int), .slice U l.length uc, pv, .int .i64 (used : Int), .int .i64 (waste : Int)] := hS.head
  obtain ⟨b0, b1, b2, b3, b4, b5⟩ := cells6 hbp
  have hsh1 := fun m => hsh (w.drewN m) (hrd.below (below_drewN (Below.refl _ _) m))
  clear hs hz hpre hpk hspos hzero htk hsh hf
  go_enter Try.func37, Try.ntmps37
  go_upto_region 0 with (fail)
  go_cut [2] (fun sl wx => sl = .int .i64 (s : Int) ∧ Below w.heap.size w wx)
  case first =>
    go_region_held3 (fun w' => w'.cell? ⟨p, 0, none⟩ = some (.int .i64 kind) ∧ w'.cell? ⟨p, 2, none⟩ = some (.slice U l.length uc))
      (first | exact ⟨b0, b2⟩ | exact ⟨(cells6 (hbp.drew.below hw2 hbp.lt)).1, (cells6 (hbp.drew.below hw2 hbp.lt)).2.2.1⟩)
      (first
        | (go_at_call 43; refine (hsh1 1).mono ?_; rintro e w2 ⟨rfl, hw2⟩)
        | fail)
    go_wp2_with fail
    go_meet
    exact ⟨rfl, (Below.refl _ _).drew.trans hw2⟩
  case rest =>
    obtain ⟨rfl, hw2⟩ := hcut
    have hS2 := hS.below hw2
    clear hsh1 hbp b0 b1 b2 b3 b4 b5 hrd hS hw2
    have hbp : OBlk wc p 89 [.int .i64 kind, .int .i64 (P : Int), .slice U l.length uc, pv, .int .i64 (used : Int), .int .i64 (waste : Int)] := hS2.head
    obtain ⟨b0, b1, b2, b3, b4, b5⟩ := cells6 hbp
    have f3 := hbp.frozen (j := 3) (by simp)
    go_upto_region 2 with (fail)
    have hS3 : Sep w0 _ (pkB p kind P (.slice U l.length uc) (.slice none 0 0) used waste :: M) := hS2.setCell 3 (.slice none 0 0)
    clear hS2 hbp b0 b1 b2 b3 b4 b5 f3
    generalize wc.setCell ⟨p, 3, none⟩ (.slice none 0 0) = w3 at *
    go_upto_if 16 with (fail)
    go_cut [] (fun wx => ∃ pv', Sep w0 wx (pkB p kind P (.slice U l.length uc) pv' used waste :: bytesE pv' pre :: M))
    case first =>
      by_cases hs0 : 0 < s
      · have i1 : (0 : Int) < (s : Int) := by omega
        obtain ⟨m, hm1, hlt, hkm, hpf, hkb⟩ := HSP.out hs0
        have hrd3 := hM.at_ hS3 (fun E hE => List.mem_cons_of_mem _ hE)
        obtain ⟨ad, B, b, rfl, q0, hkr⟩ := hrd3.key_at' hlt
        generalize l[m].c.key = key at *
        obtain ⟨A7, c7, hrun, hrd7⟩ := hkr.run_h s hkm
        have hbp : OBlk w3 p 89 [.int .i64 kind, .int .i64 (P : Int), .slice (some ad) l.length uc, .slice none 0 0, .int .i64 (used : Int), .int .i64 (waste : Int)] := hS3.head
        obtain ⟨b0, b1, b2, b3, b4, b5⟩ := cells6 hbp
        have f3 := hbp.frozen (j := 3) (by simp)
        have j1 : (0 : Int) ≤ (l.length : Int) - 1 := by omega
        have j2 : (l.length : Int) - 1 < (l.length : Int) := by omega
        have j3 : ((l.length : Int) - 1).toNat = m := by omega
        have j4 : IntKind.i64.wrap ((l.length : Int) - 1) = (l.length : Int) - 1 := by rw [IntKind.wrap_i64]; omega
        have j5 : (1 : Int) ≤ (l.length : Int) := by omega
        have j6 : 0 < l.length := by omega
        have j7 : l.length - 1 = m := by omega
        have hkl : (key.take s).length = s := by rw [List.length_take]; omega
        have hcl := CloneK_any (.slice A7 s c7) (key.take s) w3.drew hrd7 (by rw [hkl]; omega)
        clear hkl hrd7
        generalize key.take s = kt at *
        have HPF := Lib.hid hpf
        have HM1 := Lib.hid hm1
        have hpz := hbp.lt
        clear hrd3 hpf hm1
        go_upto_region 3 with (fail)
        go_region_law
          (first
            | (go_simp; go_at_call 77; refine hcl.mono ?_; rintro e w4 ⟨v4, rfl, ho4, hw4⟩; obtain ⟨V4, vc4, rfl⟩ := Own.slice ho4; have hB4 := hbp.drew.below hw4 hpz; obtain ⟨d0, d1, d2, d3, d4, d5⟩ := cells6 hB4; have g3 := hB4.frozen (j := 3) (by simp); have hS4 := hS3.drew.bytes hw4 ho4 (Nat.le_refl _))
            | fail)
        all_goals
          go_wp2_with fail
          go_meet
          exact ⟨_, by rw [HPF.out]; exact hS4.sw1.setCell 3 _⟩
      · have i1 : ¬ (0 : Int) < (s : Int) := by omega
        go_wp2_with fail
        go_meet
        exact ⟨_, by rw [HZ.out (by omega)]; exact hS3.nil.sw1⟩
    case rest =>
      clear hS3
      obtain ⟨pv', hS4⟩ := hcut
      have hbp : OBlk wc p 89 [.int .i64 kind, .int .i64 (P : Int), .slice U l.length uc, pv', .int .i64 (used : Int), .int .i64 (waste : Int)] := hS4.head
      obtain ⟨b0, b1, b2, b3, b4, b5⟩ := cells6 hbp
      have hpz := hbp.lt
      have f4 := hbp.frozen (j := 4) (by simp)
      have f5 := hbp.frozen (j := 5) (by simp)
      have htk := HTK.out wc.drew (hM.at_ hS4.drew (fun E hE => List.mem_cons_of_mem _ (List.mem_cons_of_mem _ hE)))
      go_upto_region 4 with (fail)
      go_region_law
        (first
          | (go_simp; go_at_call 42; refine htk.mono ?_; rintro e w5 ⟨rfl, hw5⟩; have hB5 := hbp.drew.below hw5 hpz; obtain ⟨d0, d1, d2, d3, d4, d5⟩ := cells6 hB5; have g4 := hB5.frozen (j := 4) (by simp); have g5 := hB5.frozen (j := 5) (by simp); have hS5 := hS4.drew.below hw5)
          | fail)
      all_goals
        go_wp2_with fail
        go_end0
        exact ⟨⟨_, rfl⟩, pv', (hS5.setCell 4 (.int .i64 (z : Int))).setCell 5 (.int .i64 0)⟩
end Go.Proofs.Ytaniabhajngdeaa

-- Pieces picked by number: any of the first ones, in any order; the others of these are let go.
namespace Go.Proofs.Ytaniabhajngdeaa
open Go.RowKit
def unitE : Ent := ⟨fun _ => False, fun _ => True, fun _ h => h⟩
theorem Sep.pick {w0 w : World} {L R : List Ent} (idx : List Nat) (hn : idx.Nodup) (hl : idx.all (fun i => Nat.blt i L.length) = true) (h : Sep w0 w (L ++ R)) : Sep w0 w (idx.map (fun i => L.getD i unitE) ++ R) := by
  have hlt : ∀ i ∈ idx, i < L.length := fun i hi => by
    have := List.all_eq_true.1 hl i hi
    exact Nat.le_of_ble_eq_true this
  have hg : ∀ i (hi : i < L.length), L.getD i unitE = L[i] := fun i hi => by
    rw [List.getD_eq_getElem?_getD, List.getElem?_eq_getElem hi]; rfl
  have ha := List.pairwise_append.1 h.apart
  have hp := List.pairwise_iff_getElem.1 ha.1
  refine ⟨h.same, fun E hE => ?_, List.pairwise_append.2 ⟨?_, ha.2.1, fun a hA b hb => ?_⟩⟩
  · rcases List.mem_append.1 hE with hE | hE
    · obtain ⟨i, hi, rfl⟩ := List.mem_map.1 hE
      rw [hg i (hlt i hi)]
      exact h.each _ (List.mem_append_left _ (List.getElem_mem _))
    · exact h.each E (List.mem_append_right _ hE)
  · rw [List.pairwise_map]
    refine List.Pairwise.imp_of_mem (fun {i j} hi hj hij => ?_) hn
    rw [hg i (hlt i hi), hg j (hlt j hj)]
    rcases Nat.lt_or_ge i j with h1 | h1
    · exact hp i j (hlt i hi) (hlt j hj) h1
    · intro g h2 h3
      exact hp j i (hlt j hj) (hlt i hi) (by omega) g h3 h2
  · obtain ⟨i, hi, rfl⟩ := List.mem_map.1 hA
    rw [hg i (hlt i hi)]
    exact ha.2.2 _ (List.getElem_mem _) b hb
end Go.Proofs.Ytaniabhajngdeaa

-- packed.own; slices.Clone of cells; bytes.HasPrefix: walks.
namespace Go.Proofs.Ytaniabhajngdeaa
open Go.RowKit
set_option maxRecDepth 100000 in
set_option maxHeartbeats 4000000 in
theorem Kown_sep {w0 w : World} {L : List Ent} (h : Sep w0 w L) (x : CV) (hx : x.ok w) (h1 : x.c.key.length ≤ 140737488355328) (h2 : x.c.val.length ≤ 140737488355328) :
    Calls Try.prog 73 #[cellV x] w fun e w' => ∃ y : CV, e = .returned (cellV y) ∧ y.c = x.c ∧ Sep w0 w' (bytesE y.kv y.c.key :: bytesE y.vv y.c.val :: L) := by
  obtain ⟨A, ca, B, cb, key, ck, val, pg, ct, rfl, hk1, hk2⟩ := CV.form hx
  simp only at h1 h2
  have hkr : RdB w (.slice A key.length ca) key := hx.k
  have hvr : RdB w (.slice B val.length cb) val := hx.v
  have hS1 := (((Sep.start w).alloc 50 [.slice A key.length ca, .int .i64 ck, .slice B val.length cb, .int .i64 pg, .int .i64 ct])).alloc 50 [.slice none 0 0, .int .i64 0, .slice none 0 0, .int .i64 0, .int .i64 0]
  have hz1 : (w.alloc (.cells [.slice A key.length ca, .int .i64 ck, .slice B val.length cb, .int .i64 pg, .int .i64 ct].toArray 50)).heap.size = w.heap.size + 1 := World.size_alloc _ _
  rw [hz1] at hS1
  clear hz1
  unfold cellV
  go_enter Try.func73, Try.ntmps73
  go_upto_region 1 with (fail)
  generalize (w.alloc (.cells #[.slice A key.length ca, .int .i64 ck, .slice B val.length cb, .int .i64 pg, .int .i64 ct] 50)).alloc (.cells #[.slice none 0 0, .int .i64 0, .slice none 0 0, .int .i64 0, .int .i64 0] 50) = w1 at *
  have hkr0 := (hS1.drew).rd (v := w) (by simp) hkr
  have hC : OBlk w1 w.heap.size 50 [.slice A key.length ca, .int .i64 ck, .slice B val.length cb, .int .i64 pg, .int .i64 ct] := hS1.tail.head
  obtain ⟨c0, c1, c2, c3, c4⟩ := cells5 hC
  go_region_law
    (first
      | (go_simp; go_at_call 77; refine (CloneK_any _ key _ hkr0 h1).mono ?_; rintro e w4 ⟨vd, rfl, hod, hw4⟩; obtain ⟨K2, kc2, rfl⟩ := Own.slice hod; have hS4 := hS1.drew.bytes hw4 hod (Nat.le_refl _); have hC4 : OBlk w4 w.heap.size 50 [.slice A key.length ca, .int .i64 ck, .slice B val.length cb, .int .i64 pg, .int .i64 ct] := hS4.tail.tail.head; have d2 := hC4.cell' (j := 2) (u := .slice B val.length cb) rfl; have d0 := hC4.cell' (j := 0) (u := .slice A key.length ca) rfl; have hvr4 := hS4.rd (v := w) (by simp) hvr)
      | (go_simp; go_at_call 77; refine (CloneK_any _ val _ hvr4 h2).mono ?_; rintro e w5 ⟨ve, rfl, hoe, hw5⟩; obtain ⟨V2, vc2, rfl⟩ := Own.slice hoe; have hS5 := hS4.bytes hw5 hoe (Nat.le_refl _); have hC5 : OBlk w5 w.heap.size 50 [.slice A key.length ca, .int .i64 ck, .slice B val.length cb, .int .i64 pg, .int .i64 ct] := hS5.tail.tail.tail.head; have e2 := hC5.cell' (j := 2) (u := .slice B val.length cb) rfl; have e0 := hC5.cell' (j := 0) (u := .slice A key.length ca) rfl; have g2 := hC5.frozen (j := 2) (by simp); have g0 := hC5.frozen (j := 0) (by simp))
      | fail)
  all_goals
    have hS6 : Sep w _ (blkE w.heap.size 50 [.slice K2 key.length kc2, .int .i64 ck, .slice V2 val.length vc2, .int .i64 pg, .int .i64 ct] :: bytesE (.slice V2 val.length vc2) val :: bytesE (.slice K2 key.length kc2) key :: blkE (w.heap.size + 1) 50 [.slice none 0 0, .int .i64 0, .slice none 0 0, .int .i64 0, .int .i64 0] :: [oldE w]) := ((Sep.sw3 hS5).setCell 0 (.slice K2 key.length kc2)).setCell 2 (.slice V2 val.length vc2)
    clear c0 c1 c2 c3 c4 d0 d2 e0 e2 g0 g2 hC hC4 hC5 hS4 hS5 hod hoe hkr0 hvr4
    generalize (w5.setCell ⟨w.heap.size, 0, none⟩ (.slice K2 key.length kc2)).setCell ⟨w.heap.size, 2, none⟩ (.slice V2 val.length vc2) = w6 at *
    obtain ⟨y0, y1, y2, y3, y4⟩ := cells5 (show OBlk w6 w.heap.size 50 [.slice K2 key.length kc2, .int .i64 ck, .slice V2 val.length vc2, .int .i64 pg, .int .i64 ct] from hS6.head)
    have hR6 : OBlk w6 (w.heap.size + 1) 50 [.slice none 0 0, .int .i64 0, .slice none 0 0, .int .i64 0, .int .i64 0] := hS6.tail.tail.tail.head
    obtain ⟨r0, r1, r2, r3, r4⟩ := cells5 hR6
    obtain ⟨f0, f1, f2, f3, f4⟩ := froz5 hR6
    go_wp2_with fail
    have hF := (Sep.sw3 hS6).set5 (.slice K2 key.length kc2) (.int .i64 ck) (.slice V2 val.length vc2) (.int .i64 pg) (.int .i64 ct)
    obtain ⟨e0, e1, e2, e3, e4⟩ := cells5 (show OBlk _ (w.heap.size + 1) 50 [.slice K2 key.length kc2, .int .i64 ck, .slice V2 val.length vc2, .int .i64 pg, .int .i64 ct] from hF.head)
    refine bodyPost_ret (v := .agg #[(.slice K2 key.length kc2), .int .i64 ck, (.slice V2 val.length vc2), .int .i64 pg, .int .i64 ct]) ?_ rfl ?_
    · simp [results, Try.results73, go_sem, e0, e1, e2, e3, e4]
    · exact ⟨⟨(.slice K2 key.length kc2), (.slice V2 val.length vc2), ⟨key, ck, val, pg, ct⟩⟩, rfl, rfl, Sep.lift2 (hF.tail.tail.sw1) (List.mem_singleton.2 rfl) h⟩
set_option maxRecDepth 20000 in
set_option maxHeartbeats 1000000 in
theorem HasPrefix_any (u v : Value) (a b : List UInt8) (w : World) (hu : RdB w u a) (hv : RdB w v b) :
    Calls Try.prog 74 #[u, v] w fun e w' => e = .returned (.bool (hasPre a b)) ∧ w' = w := by
  obtain ⟨A, c, rfl, hm⟩ := hu.form
  obtain ⟨B, d, rfl, hm2⟩ := hv.form
  by_cases hle : b.length ≤ a.length
  · obtain ⟨A2, c2, hrun, hrd⟩ := hu.run_h b.length hle
    have heq := Equal_q _ _ _ _ w hrd hv
    have hE : hasPre a b = (a.take b.length == b) := by unfold hasPre; rw [decide_eq_true hle]; rfl
    rw [hE]
    generalize (a.take b.length == b) = E at *
    have i1 : (b.length : Int) ≤ (a.length : Int) := by omega
    clear hE hrd
    go_enter Try.func74, Try.ntmps74
    go_wp2_with (first | (go_at_call 64; (with_reducible refine heq.mono ?_); rintro e w1 ⟨rfl, rfl⟩) | fail)
    go_ret
    exact ⟨rfl, rfl⟩
  · have hE : hasPre a b = false := by unfold hasPre; rw [decide_eq_false hle]; rfl
    rw [hE]
    have i1 : ¬ (b.length : Int) ≤ (a.length : Int) := by omega
    clear hE
    go_enter Try.func74, Try.ntmps74
    go_wp2_with fail
    go_ret
    exact ⟨rfl, rfl⟩
set_option maxRecDepth 20000 in
set_option maxHeartbeats 1000000 in
/-- A copy of a row of cells: their bytes stay shared. -/
theorem CloneC_sep {w0 w : World} {L : List Ent} (h : Sep w0 w L) (v : Value) (l : List CV) (hv : RdCs w v l) (hl : l.length ≤ 1000000) :
    Calls Try.prog 72 #[v] w fun e w' => ∃ v', e = .returned v' ∧ Sep w0 w' (ownE 50 5 v' l.length (flatC l) :: L) := by
  obtain ⟨A, c, rfl, hm, hc⟩ := hv.slice
  have q22 : ∀ (w : World) (a : Option Addr) (n c n' c' : Nat), (binOp .eql 23 (.slice a n c) (.slice none n' c')).run Try.prog w = .ok (.bool a.isNone) w := fun w a n c n' c' => Lib.run_eql_slice_nil w _ _ a n c n' c' Try.underlying23
  cases A with
  | none =>
    have : l = [] := by
      cases l with
      | nil => rfl
      | cons x r => obtain ⟨ad, h, _⟩ := hv.at_ (i := 0) (by simp); cases h
    subst this
    go_enter Try.func72, Try.ntmps72
    go_wp2_with fail
    go_ret
    exact ⟨_, rfl, h.nilC⟩
  | some ad =>
    obtain ⟨i0, hi, hz0, hz1, hz2⟩ := info_parts cell_info
    have hone := flatC_one hv.ok
    have hsrc := hv.form
    have hbase : Own (w.alloc (.cells #[] 50)) w.heap.size 50 5 (.slice (some ⟨w.heap.size, 0, none⟩) 0 0) 0 [] := by
      refine ⟨rfl, .inr ⟨w.heap.size, 0, [], rfl, Nat.le_refl _, OBlk.new' w 50 [], ?_⟩⟩
      simp
    go_enter Try.func72, Try.ntmps72
    go_wp2_with (first
      | (at_builtin; refine wp_append_C rfl (.tmp 5) (.tmp 6) rfl w.heap.size (.slice (some ⟨w.heap.size, 0, none⟩) 0 0) [] rfl hbase _ l rfl (hsrc.alloc _) hone (by simp; omega) (by simp) ?_; intro v' w' ho hg hbk)
      | fail)
    go_ret
    rw [List.nil_append] at ho
    refine ⟨v', rfl, h.new (((Below.refl w.heap.size w).alloc (Nat.le_refl _) _).grown hg (by simp) (fun k hk => Nat.le_of_eq (Option.some.inj hk))) (E := ownE _ _ _ _ _) (Own.low ho (Nat.zero_le _)) (fun g hg => Own.lt ho g hg)⟩
end Go.Proofs.Ytaniabhajngdeaa
