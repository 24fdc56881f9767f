/- Texts joined: packed.taken; Packed pages while they are written; packed.shared, Size; Bytes that grow, as pieces.; packed.written -/
import Derived.Test.YtfcnkpofcekmgaaGreatNW3
import Derived.Test.YtfcnkpofcekmgaaGreatNW4
import Derived.Test.YtfcnkpofcekmgaaGreatNW6
import Derived.Test.YtfcnkpofcekmgaaGreatNW9
import Derived.Test.YtfcnkpofcekmgaaGreatNW10
import Derived.Deep.RegionLaw
-- packed.taken: plain bounds and the walk.
namespace Go.Proofs.YtfcnkpofcekmgaaGreat
open Go.RowKit
def bigK : List PC → Nat
  | [] => 0
  | c :: r => 33 + c.key.length + c.val.length + bigK r
theorem bigK_append : ∀ (a b : List PC), bigK (a ++ b) = bigK a + bigK b
  | [], b => by simp [bigK]
  | c :: r, b => by rw [List.cons_append]; simp only [bigK]; rw [bigK_append r b]; omega
theorem bigK_mem : ∀ {l : List PC} {c : PC}, c ∈ l → 33 + c.key.length + c.val.length ≤ bigK l
  | x :: r, c, h => by
    simp only [bigK]
    rcases List.mem_cons.1 h with rfl | h
    · omega
    · have := bigK_mem h; omega
theorem bigK_take (l : List PC) (k : Nat) : bigK (l.take k) ≤ bigK l := by
  have : bigK l = bigK (l.take k) + bigK (l.drop k) := by rw [← bigK_append, List.take_append_drop]
  omega
theorem bigK_drop (l : List PC) (k : Nat) : bigK (l.drop k) ≤ bigK l := by
  have : bigK l = bigK (l.take k) + bigK (l.drop k) := by rw [← bigK_append, List.take_append_drop]
  omega
theorem pcF_big (kind : Int) (i pre : Nat) {c : PC} (h : c.key.length + c.val.length ≤ 4611686018427387904) : (pcF kind i c pre).length + 2 ≤ 33 + c.key.length + c.val.length := by
  have hrl : (restF kind i c.key pre).length ≤ c.key.length := by unfold restF; split <;> simp
  have u1 := uintF_le10 (n := (restF kind i c.key pre).length) (by omega)
  unfold pcF kvF
  simp only [List.length_cons, List.length_append]
  split
  · have u2 := uintF_le10 (n := c.val.length) (by omega)
    rw [List.length_append]; omega
  · have u2 := uintF_le10 (u64N_lt c.page)
    have u3 := uintF_le10 (u64N_lt c.count)
    rw [List.length_append]; omega
theorem pbody_big (kind : Int) (pre : Nat) : ∀ (i : Nat) (l : List PC), bigK l ≤ 4611686018427387904 → (pbodyF kind pre i l).length + 2 * l.length ≤ bigK l
  | _, [], _ => by simp [pbodyF]
  | i, c :: r, h => by
    simp only [bigK] at h ⊢
    have h1 := pcF_big kind i pre (c := c) (by omega)
    have h2 := pbody_big kind pre (i + 1) r (by omega)
    simp only [pbodyF, List.length_append, List.length_cons]
    omega
theorem taken_take (kind : Int) (pre : Nat) (l : List PC) {k : Nat} (hk : k < l.length) : takenF kind (l.take (k + 1)) pre = takenF kind (l.take k) pre + (2 + (pcF kind k l[k] pre).length) := by
  unfold takenF
  rw [List.take_succ_eq_append_getElem hk, pbodyF_append]
  simp only [pbodyF, List.length_append, List.length_cons, List.length_nil, List.length_take, Nat.min_eq_left (Nat.le_of_lt hk), Nat.zero_add, List.append_nil]
  omega
theorem taken_big (kind : Int) (pre : Nat) (l : List PC) (k : Nat) (h : bigK l ≤ 4611686018427387904) : takenF kind (l.take k) pre ≤ 10 + pre + bigK l := by
  have h1 := bigK_take l k
  have h2 := pbody_big kind pre 0 (l.take k) (by omega)
  unfold takenF
  omega
set_option maxRecDepth 100000 in
set_option maxHeartbeats 4000000 in
theorem Ktaken_any (kind : Int) (v : Value) (l : List CV) (pre : Nat) (w : World) (hl : RdCs w v l) (hf : bigK (pcs l) ≤ 2305843009213693952) (hpr : pre ≤ 2305843009213693952) (hp : ∀ (i : Nat) (hi : i < (pcs l).length), ¬ (kind = 3 ∧ i = 0) → pre ≤ (pcs l)[i].key.length) :
    Calls Tryz.prog 138 #[.int .i64 kind, v, .int .i64 (pre : Int)] w fun e w' => e = .returned (.int .i64 (takenF kind (pcs l) pre : Nat)) ∧ Below w.heap.size w w' := by
  obtain ⟨A, c, rfl, hm, hc⟩ := hl.slice
  have HP := Lib.hid hp
  have HF := Lib.hid hf
  clear hp
  go_enter Tryz.func138, Tryz.ntmps138
  go_wp2_with fail
  go_loopw [7, 14] (fun n i wr => ∃ k : Nat, k ≤ l.length ∧ i = .int .i64 (k : Int) ∧ n = .int .i64 (takenF kind ((pcs l).take k) pre : Nat) ∧ Below w.heap.size w wr) (fun _ i _ => l.length - (intOf i).toNat)
  case atStart => exact ⟨0, Nat.zero_le _, rfl, by simp [takenF, pbodyF], Below.refl _ _⟩
  case round =>
    obtain ⟨k, hk, rfl, rfl, hB⟩ := hrel
    by_cases hlt : k < l.length
    · have ik : (k : Int) < (l.length : Int) := by omega
      have hS := taken_take kind pre (pcs l) (k := k) (by rw [pcs_length]; exact hlt)
      have hS1 := taken_big kind pre (pcs l) (k + 1) (by have := HF.out; omega)
      rw [pcs_at hlt] at hS
      have hmem : l[k].c ∈ pcs l := by rw [← pcs_at hlt]; exact List.getElem_mem _
      have hkv : l[k].c.key.length + l[k].c.val.length ≤ 4611686018427387904 := by have := bigK_mem hmem; have := HF.out; omega
      have hpk : ¬ (kind = 3 ∧ k = 0) → pre ≤ l[k].c.key.length := fun h => by rw [← pcs_at hlt]; exact HP.out k (by rw [pcs_length]; exact hlt) h
      obtain ⟨ad, rfl, c0, c1, c2, c3, c4⟩ := (hl.below hB).at_ hlt
      have hx := (hl.below hB).ok _ (List.getElem_mem hlt)
      generalize l[k] = x at *
      obtain ⟨A1, a1, B1, b1, key, ck, val, pg, ct, rfl, _, _⟩ := CV.form hx
      have hlo := fun W hW => Klength_any kind k ⟨.slice A1 key.length a1, .slice B1 val.length b1, ⟨key, ck, val, pg, ct⟩⟩ pre W hW hpk hkv
      unfold cellV at hlo
      have hA := hB.trans ((((Below.refl wr.heap.size wr).alloc (Nat.le_refl _) (.cells #[.slice A1 key.length a1, .int .i64 ck, .slice B1 val.length b1, .int .i64 pg, .int .i64 ct] 43))).mono hB.size)
      have hx' : CV.ok (wr.alloc (.cells #[.slice A1 key.length a1, .int .i64 ck, .slice B1 val.length b1, .int .i64 pg, .int .i64 ct] 43)) ⟨.slice A1 key.length a1, .slice B1 val.length b1, ⟨key, ck, val, pg, ct⟩⟩ := hx.below ((Below.refl _ _).alloc (Nat.le_refl _) _)
      have hS' : takenF kind ((pcs l).take (k + 1)) pre = takenF kind ((pcs l).take k) pre + (2 + (pcF kind k ⟨key, ck, val, pg, ct⟩ pre).length) := hS
      have HS := Lib.hid hS'
      have hS2 : takenF kind ((pcs l).take k) pre + (2 + (pcF kind k ⟨key, ck, val, pg, ct⟩ pre).length) ≤ 9223372036854775000 := by have := HF.out; omega
      generalize takenF kind ((pcs l).take k) pre = s at *
      generalize (pcF kind k ⟨key, ck, val, pg, ct⟩ pre).length = lo at *
      clear hS hS' hS1 hmem hx hB hkv hpk
      go_wp2_with fail
      refine (hlo _ hx').mono ?_
      rintro e w2 ⟨rfl, hb2⟩
      have hB2 := hA.trans (hb2.mono hA.size)
      go_wp2_with fail
      go_roundw
      case rel => exact ⟨k + 1, by omega, by go_num, by rw [HS.out]; go_num, hB2⟩
      case measure => simp [intOf]; omega
    · obtain rfl : k = l.length := by omega
      have e : (pcs l).take l.length = pcs l := List.take_of_length_le (by rw [pcs_length]; omega)
      rw [e]
      go_wp2_with fail
      go_ret
      exact ⟨rfl, hB⟩
end Go.Proofs.YtfcnkpofcekmgaaGreat

-- Packed pages while they are written: plain laws.
namespace Go.Proofs.YtfcnkpofcekmgaaGreat
def a0K (kind : Int) (l : List PC) : Nat := 6 + sharedF kind l + 2 * l.length
def bodyK (kind : Int) (l : List PC) (k : Nat) : List UInt8 := pbodyF kind (sharedF kind l) 0 (l.take k)
def slotsK (kind : Int) (l : List PC) (k : Nat) : List UInt8 := pslotsF kind (sharedF kind l) (a0K kind l) 0 (l.take k)
def headK (kind : Int) (l : List PC) : List UInt8 := u8I kind :: 2 :: (fixedF l.length 2 ++ (fixedF (sharedF kind l) 2 ++ prefF kind l))
def contK (kind : Int) (l : List PC) (P k : Nat) : List UInt8 :=
  headK kind l ++ (slotsK kind l k ++ (List.replicate (2 * (l.length - k)) 0 ++ (bodyK kind l k ++ List.replicate (P - a0K kind l - (bodyK kind l k).length) 0)))
def midK (kind : Int) (l : List PC) (P k : Nat) : List UInt8 :=
  headK kind l ++ (slotsK kind l (k + 1) ++ (List.replicate (2 * (l.length - (k + 1))) 0 ++ (bodyK kind l k ++ List.replicate (P - a0K kind l - (bodyK kind l k).length) 0)))
theorem bodyK_succ {kind : Int} {l : List PC} {k : Nat} (hk : k < l.length) : bodyK kind l (k + 1) = bodyK kind l k ++ pcF kind k l[k] (sharedF kind l) := by
  unfold bodyK
  rw [List.take_succ_eq_append_getElem hk, pbodyF_append]
  simp [pbodyF, List.length_take, Nat.min_eq_left (Nat.le_of_lt hk)]
theorem bodyK_zero (kind : Int) (l : List PC) : bodyK kind l 0 = [] := by unfold bodyK; rfl
theorem bodyK_all (kind : Int) (l : List PC) : bodyK kind l l.length = pbodyF kind (sharedF kind l) 0 l := by unfold bodyK; rw [List.take_length]
theorem bodyK_le {kind : Int} {l : List PC} {k : Nat} (_hk : k ≤ l.length) : (bodyK kind l k).length ≤ (pbodyF kind (sharedF kind l) 0 l).length := by
  have e : pbodyF kind (sharedF kind l) 0 l = bodyK kind l k ++ pbodyF kind (sharedF kind l) (0 + (l.take k).length) (l.drop k) := by
    unfold bodyK
    rw [← pbodyF_append, List.take_append_drop]
  rw [e, List.length_append]; omega
theorem fitK {kind : Int} {l : List PC} {P : Nat} (h : psizeF kind l ≤ P) : a0K kind l + (pbodyF kind (sharedF kind l) 0 l).length + 4 ≤ P := by
  have e : psizeF kind l = 10 + sharedF kind l + 2 * l.length + (pbodyF kind (sharedF kind l) 0 l).length := rfl
  unfold a0K; omega
theorem slotsK_length {kind : Int} {l : List PC} {k : Nat} (hk : k ≤ l.length) : (slotsK kind l k).length = 2 * k := by
  unfold slotsK
  rw [pslotsF_length, List.length_take, Nat.min_eq_left hk]
theorem headK_length (kind : Int) (l : List PC) : (headK kind l).length = 6 + sharedF kind l := by
  unfold headK
  simp only [List.length_cons, List.length_append, fixedF_length, prefF_length]; omega
theorem contK_length {kind : Int} {l : List PC} {P k : Nat} (h : psizeF kind l ≤ P) (hk : k ≤ l.length) : (contK kind l P k).length = P := by
  have h1 := fitK h
  have h2 := bodyK_le (kind := kind) hk
  have e : a0K kind l = 6 + sharedF kind l + 2 * l.length := rfl
  unfold contK
  simp only [List.length_append, headK_length, slotsK_length hk, List.length_replicate]
  omega
theorem midK_length {kind : Int} {l : List PC} {P k : Nat} (h : psizeF kind l ≤ P) (hk : k < l.length) : (midK kind l P k).length = P := by
  have h1 := fitK h
  have h2 := bodyK_le (kind := kind) (Nat.le_of_lt hk)
  have e : a0K kind l = 6 + sharedF kind l + 2 * l.length := rfl
  unfold midK
  simp only [List.length_append, headK_length, slotsK_length (show k + 1 ≤ l.length from hk), List.length_replicate]
  omega
theorem slotsK_succ {kind : Int} {l : List PC} {k : Nat} (hk : k < l.length) : slotsK kind l (k + 1) = slotsK kind l k ++ fixedF (a0K kind l + (bodyK kind l k).length) 2 := by
  unfold slotsK bodyK
  rw [List.take_succ_eq_append_getElem hk, pslotsF_append]
  simp [pslotsF]
theorem contK_slot {kind : Int} {l : List PC} {P k : Nat} (hk : k < l.length) :
    splice (contK kind l P k) (6 + sharedF kind l + 2 * k) (fixedF (a0K kind l + (bodyK kind l k).length) 2) = midK kind l P k := by
  have e1 : List.replicate (2 * (l.length - k)) (0 : UInt8) = List.replicate 2 0 ++ List.replicate (2 * (l.length - (k + 1))) 0 := by
    rw [List.replicate_append_replicate]; congr 1; omega
  have e2 : contK kind l P k = (headK kind l ++ slotsK kind l k) ++ (List.replicate 2 0 ++ (List.replicate (2 * (l.length - (k + 1))) 0 ++ (bodyK kind l k ++ List.replicate (P - a0K kind l - (bodyK kind l k).length) 0))) := by
    unfold contK
    rw [e1]
    simp only [List.append_assoc]
  rw [e2, splice_mid _ _ _ _ (6 + sharedF kind l + 2 * k) (by rw [List.length_append, headK_length, slotsK_length (Nat.le_of_lt hk)]) (by rw [fixedF_length]; rfl)]
  unfold midK
  rw [slotsK_succ hk]
  simp only [List.append_assoc]
theorem contK_cell {kind : Int} {l : List PC} {P k : Nat} (h : psizeF kind l ≤ P) (hk : k < l.length) :
    splice (midK kind l P k) (a0K kind l + (bodyK kind l k).length) (pcF kind k l[k] (sharedF kind l)) = contK kind l P (k + 1) := by
  have h1 := fitK h
  have h2 := bodyK_le (kind := kind) (show k + 1 ≤ l.length from hk)
  have h3 := bodyK_succ (kind := kind) hk
  have e0 : a0K kind l = 6 + sharedF kind l + 2 * l.length := rfl
  rw [h3, List.length_append] at h2
  have e1 : List.replicate (P - a0K kind l - (bodyK kind l k).length) (0 : UInt8) = List.replicate (pcF kind k l[k] (sharedF kind l)).length 0 ++ List.replicate (P - a0K kind l - ((bodyK kind l k).length + (pcF kind k l[k] (sharedF kind l)).length)) 0 := by
    rw [List.replicate_append_replicate]; congr 1; omega
  have e2 : midK kind l P k = (headK kind l ++ (slotsK kind l (k + 1) ++ (List.replicate (2 * (l.length - (k + 1))) 0 ++ bodyK kind l k))) ++ (List.replicate (pcF kind k l[k] (sharedF kind l)).length 0 ++ List.replicate (P - a0K kind l - ((bodyK kind l k).length + (pcF kind k l[k] (sharedF kind l)).length)) 0) := by
    unfold midK
    rw [e1]
    simp only [List.append_assoc]
  rw [e2, splice_mid _ _ _ _ _ (by simp only [List.length_append, headK_length, slotsK_length (show k + 1 ≤ l.length from hk), List.length_replicate]; omega) (by rw [List.length_replicate])]
  unfold contK
  rw [h3, List.length_append]
  simp only [List.append_assoc]
theorem contK_end {kind : Int} {l : List PC} {P : Nat} (h : psizeF kind l ≤ P) :
    (contK kind l P l.length).take (P - 4) = preK kind l P ∧ splice (contK kind l P l.length) (P - 4) (fixedF (sumF (preK kind l P)) 4) = laidK kind l P := by
  have h1 := fitK h
  have hz : psizeF kind l = 10 + sharedF kind l + 2 * l.length + (pbodyF kind (sharedF kind l) 0 l).length := rfl
  have e0 : a0K kind l = 6 + sharedF kind l + 2 * l.length := rfl
  have e1 : List.replicate (P - a0K kind l - (pbodyF kind (sharedF kind l) 0 l).length) (0 : UInt8) = List.replicate (P - psizeF kind l) 0 ++ List.replicate 4 0 := by
    rw [List.replicate_append_replicate]; congr 1; omega
  have e : contK kind l P l.length = preK kind l P ++ (List.replicate 4 0 ++ []) := by
    unfold contK preK headK slotsK
    rw [bodyK_all, e1, Nat.sub_self, Nat.mul_zero, List.take_length, e0]
    simp
  constructor
  · rw [e, List.take_left' (preK_length h)]
  · rw [e, splice_mid _ _ _ _ (P - 4) (preK_length h) (by rw [fixedF_length]; rfl)]
    unfold laidK; simp
def st1K (kind : Int) (P : Nat) : List UInt8 := ((List.replicate P (0 : UInt8)).set 0 (u8I kind)).set 1 2
def st2K (kind : Int) (l : List PC) (P : Nat) : List UInt8 := u8I kind :: 2 :: (fixedF l.length 2 ++ List.replicate (P - 4) 0)
def st3K (kind : Int) (l : List PC) (P : Nat) : List UInt8 := u8I kind :: 2 :: (fixedF l.length 2 ++ (fixedF (sharedF kind l) 2 ++ List.replicate (P - 6) 0))
theorem st1K_length (kind : Int) (P : Nat) : (st1K kind P).length = P := by simp [st1K]
theorem st2K_length {kind : Int} {l : List PC} {P : Nat} (h : 512 ≤ P) : (st2K kind l P).length = P := by simp [st2K, fixedF_length]; omega
theorem st3K_length {kind : Int} {l : List PC} {P : Nat} (h : 512 ≤ P) : (st3K kind l P).length = P := by simp [st3K, fixedF_length]; omega
theorem st1K_next {kind : Int} {l : List PC} {P : Nat} (h : 512 ≤ P) : splice (st1K kind P) 2 (fixedF l.length 2) = st2K kind l P := by
  obtain ⟨Q, rfl⟩ : ∃ Q, P = Q + 4 := ⟨P - 4, by omega⟩
  have e : st1K kind (Q + 4) = [u8I kind, 2] ++ (List.replicate 2 0 ++ List.replicate Q 0) := rfl
  rw [e, splice_mid _ _ _ _ 2 rfl (by rw [fixedF_length]; rfl)]
  rfl
theorem st2K_next {kind : Int} {l : List PC} {P : Nat} (h : 512 ≤ P) : splice (st2K kind l P) 4 (fixedF (sharedF kind l) 2) = st3K kind l P := by
  have e1 : List.replicate (P - 4) (0 : UInt8) = List.replicate 2 0 ++ List.replicate (P - 6) 0 := by
    rw [List.replicate_append_replicate]; congr 1; omega
  have e : st2K kind l P = (u8I kind :: 2 :: fixedF l.length 2) ++ (List.replicate 2 0 ++ List.replicate (P - 6) 0) := by
    unfold st2K; rw [e1]; simp
  rw [e, splice_mid _ _ _ _ 4 (by simp [fixedF_length]) (by rw [fixedF_length]; rfl)]
  unfold st3K; simp
theorem st3K_next {kind : Int} {l : List PC} {P : Nat} (h : psizeF kind l ≤ P) : splice (st3K kind l P) 6 (prefF kind l) = contK kind l P 0 := by
  have h1 := fitK h
  have e0 : a0K kind l = 6 + sharedF kind l + 2 * l.length := rfl
  have e1 : List.replicate (P - 6) (0 : UInt8) = List.replicate (sharedF kind l) 0 ++ (List.replicate (2 * l.length) 0 ++ List.replicate (P - a0K kind l) 0) := by
    rw [List.replicate_append_replicate, List.replicate_append_replicate]; congr 1; omega
  have e : st3K kind l P = (u8I kind :: 2 :: (fixedF l.length 2 ++ fixedF (sharedF kind l) 2)) ++ (List.replicate (sharedF kind l) 0 ++ (List.replicate (2 * l.length) 0 ++ List.replicate (P - a0K kind l) 0)) := by
    unfold st3K; rw [e1]; simp
  rw [e, splice_mid _ _ _ _ 6 (by simp [fixedF_length]) (by rw [prefF_length, List.length_replicate])]
  unfold contK headK slotsK
  rw [bodyK_zero]
  simp [pslotsF]
theorem st3K_zero {kind : Int} {l : List PC} {P : Nat} (h : psizeF kind l ≤ P) (h0 : sharedF kind l = 0) : st3K kind l P = contK kind l P 0 := by
  have := st3K_next h
  have e : prefF kind l = [] := List.eq_nil_of_length_eq_zero (by rw [prefF_length, h0])
  rw [e, splice_nil] at this
  exact this
theorem bigK_okc {P : Nat} (hP : P ≤ 65536) : ∀ {l : List PC}, (∀ c ∈ l, OkC P c) → bigK l ≤ 131105 * l.length
  | [], _ => by simp [bigK]
  | c :: r, h => by
    have h1 := okc_fit (h c (by simp)) hP
    have h2 := bigK_okc hP (l := r) (fun x hx => h x (by simp [hx]))
    simp only [bigK, List.length_cons]
    omega
end Go.Proofs.YtfcnkpofcekmgaaGreat

-- packed.shared, Size: walks.
namespace Go.Proofs.YtfcnkpofcekmgaaGreat
open Go.RowKit
theorem RdCs.key_at {w : World} {A : Option Addr} {m c i : Nat} {l : List CV} (h : RdCs w (.slice A m c) l) (hi : i < l.length) :
    ∃ ad B b, A = some ad ∧ w.cell? (ad.add (i * 5)) = some (.slice B l[i].c.key.length b) ∧ RdB w (.slice B l[i].c.key.length b) l[i].c.key := by
  obtain ⟨ad, rfl, c0, -⟩ := h.at_ hi
  have hx := (h.ok _ (List.getElem_mem hi)).k
  obtain ⟨B, b, he, -⟩ := hx.form
  rw [he] at hx c0
  exact ⟨ad, B, b, rfl, c0, hx⟩
theorem RdL.two {w : World} {u v : Value} {a b : List UInt8} (ha : RdB w u a) (hb : RdB w v b) (T : TypeId) : RdL (w.alloc (.cells #[u, v] T)) (.slice (some ⟨w.heap.size, 0, none⟩) 2 2) [a, b] :=
  ⟨[u, v], Rd.lit w [u, v] T (by simp [maxLen]), rfl, fun i hi => by
    rcases (by simp at hi; omega : i = 0 ∨ i = 1) with rfl | rfl
    · exact ⟨u, rfl, ha.alloc _⟩
    · exact ⟨v, rfl, hb.alloc _⟩⟩
theorem comLs_two (a b : List UInt8) : comLs [a, b] = comF a b := by
  show min a.length (comF a b) = _
  have := (comF_le a b).1
  omega
set_option maxRecDepth 100000 in
set_option maxHeartbeats 8000000 in
theorem Kshared_any (kind : Int) (v : Value) (l : List CV) (w : World) (hl : RdCs w v l) :
    Calls Tryz.prog 139 #[.int .i64 kind, v] w fun e w' => e = .returned (.int .i64 (sharedF kind (pcs l) : Nat)) ∧ Below w.heap.size w w' := by
  obtain ⟨A, c, rfl, hm, hc⟩ := hl.slice
  obtain ⟨s, hs⟩ : ∃ s, sharedF kind (pcs l) = s := ⟨_, rfl⟩
  rw [hs]
  by_cases h3 : kind = 3 ∧ 0 < l.length
  · obtain ⟨rfl, h0⟩ := h3
    have i1 : (0 : Int) < (l.length : Int) := by omega
    obtain ⟨A1, c1, s1, hmr⟩ := hl.run_l 1 (by omega)
    have s1 : ∀ w', (Instr.slice 32 (.slice A l.length c) (some (.int .i64 1)) none none).run Tryz.prog w' = .ok (.slice A1 (l.length - 1) c1) w' := fun w' => s1 w'
    have hkeys : Hid (s = comLs ((l.drop 1).map fun x => x.c.key)) := Lib.hid (by
      rw [← hs]
      unfold sharedF keysF
      rw [if_pos rfl]
      simp [pcs, Function.comp_def])
    have hml0 : l.length - 1 = (l.drop 1).length := by simp
    rw [hml0] at s1 hmr
    generalize l.drop 1 = m at *
    clear hml0 hs
    go_enter Tryz.func139, Tryz.ntmps139
    go_upto_region 3 with (fail)
    clear s1
    have HK : Hid (s = comLs (m.map fun x => x.c.key)) := hkeys
    cases m with
    | nil =>
      have e0 : s = 0 := by rw [HK.out]; rfl
      subst e0
      clear HK hkeys
      go_wp2_with fail
      go_ret
      exact ⟨rfl, Below.refl _ _⟩
    | cons x r =>
      obtain ⟨ad, B, b, rfl, q0, hkr⟩ := hmr.key_at (i := 0) (by simp)
      have q0 : w.cell? ad = some (.slice B x.c.key.length b) := by simpa [Addr.add] using q0
      have hkr : RdB w (.slice B x.c.key.length b) x.c.key := hkr
      obtain ⟨A2, c2, s2, hr2⟩ := hmr.run_l 1 (by simp)
      have s2 : ∀ w', (Instr.slice 32 (.slice (some ad) (x :: r).length c1) (some (.int .i64 1)) none none).run Tryz.prog w' = .ok (.slice A2 r.length c2) w' := fun w' => s2 w'
      have hr2 : RdCs w (.slice A2 r.length c2) r := hr2
      have hml : r.length + 1 ≤ 9223372036854775807 := by
        obtain ⟨_, h1, h2⟩ := hmr.len
        simp at h1
        omega
      have hL : (x :: r).length = r.length + 1 := rfl
      rw [hL] at s2 hmr ⊢
      have e0 : (((r.length : Int) + 1) == 0) = false := by simp; omega
      have i0 : (0 : Int) < (r.length : Int) + 1 := by omega
      have hkl : x.c.key.length ≤ 9223372036854775807 := hkr.le
      have HK2 : Hid (s = (r.map fun x => x.c.key).foldl (fun n y => min n (comF x.c.key y)) x.c.key.length) := Lib.hid HK.out
      clear hL hkeys HK
      generalize x.c.key = t at *
      go_wp2_with fail
      clear s2
      go_loopw [5, 28] (fun n i wr => ∃ j N : Nat, i = .int .i64 (j : Int) ∧ n = .int .i64 (N : Int) ∧ j ≤ r.length ∧ Hid (N = ((r.map fun x => x.c.key).take j).foldl (fun n x => min n (comF t x)) t.length ∧ N ≤ t.length) ∧ Below w.heap.size w wr)
        (fun _ i _ => r.length - (intOf i).toNat)
      case atStart => exact ⟨0, t.length, rfl, rfl, Nat.zero_le _, Lib.hid ⟨rfl, Nat.le_refl _⟩, Below.refl _ _⟩
      case round =>
        obtain ⟨j, N, rfl, rfl, hj, HN, hB⟩ := hrel
        have q1 : wr.cell? ad = some (.slice B t.length b) := (hB.cell (World.block_lt_of_cell? w _ q0)).trans q0
        have hkr1 := hkr.below hB (Nat.le_refl _)
        by_cases hlt : j < r.length
        · have ij : (j : Int) < (r.length : Int) := by omega
          have HJ : Hid (((r.map fun x => x.c.key).take (j + 1)).foldl (fun n x => min n (comF t x)) t.length = min N (comF t r[j].c.key)) := Lib.hid (by
            have hj2 : j < (r.map fun x => x.c.key).length := by simpa using hlt
            rw [List.take_succ_eq_append_getElem hj2, List.foldl_append, ← HN.out.1]
            simp)
          obtain ⟨ad2, rfl, c0, c1', c2', c3, c4⟩ := (hr2.below hB).at_ hlt
          have hx := (hr2.below hB).ok _ (List.getElem_mem hlt)
          generalize r[j] = y at *
          obtain ⟨KA, ka, VA, va, key, ck, val, pg, ct, rfl, _, _⟩ := CV.form hx
          have hyk : RdB wr (.slice KA key.length ka) key := hx.k
          simp only at HJ c0 c1' c2' c3 c4
          have hcl := (comF_le t key).1
          have hA : Below wr.heap.size wr (wr.alloc (.cells #[.slice KA key.length ka, .int .i64 ck, .slice VA val.length va, .int .i64 pg, .int .i64 ct] 43)) := (Below.refl _ _).alloc (Nat.le_refl _) _
          have hC := OBlk.new' wr 43 [.slice KA key.length ka, .int .i64 ck, .slice VA val.length va, .int .i64 pg, .int .i64 ct]
          have q2 := (hA.cell (World.block_lt_of_cell? wr _ q1)).trans q1
          have hkr2 := hkr1.below hA (Nat.le_refl _)
          have hyk2 := hyk.below hA (Nat.le_refl _)
          have hBA := hB.trans (hA.mono hB.size)
          clear hx hyk hkr1 q1
          go_upto_region 9 with (fail)
          clear c0 c1' c2' c3 c4
          generalize wr.alloc (.cells #[.slice KA key.length ka, .int .i64 ck, .slice VA val.length va, .int .i64 pg, .int .i64 ct] 43) = w2 at *
          have c0 := hC.cell' (j := 0) rfl
          have hT := Common_any _ _ _ (RdL.two (w := w2.drew) (show RdB w2.drew _ _ from hkr2) (show RdB w2.drew _ _ from hyk2) 41)
          rw [comLs_two] at hT
          have hT := Lib.hid hT
          generalize comF t key = cm at *
          clear hC hA hkr2 hyk2
          have hmin : min (N : Int) (cm : Int) = ((min N cm : Nat) : Int) := by omega
          go_region_law
            (first
              | (go_simp; go_at_call 169; refine hT.out.mono ?_; rintro e w4 ⟨rfl, hw4⟩)
              | fail)
          all_goals
            have hB4 : Below w.heap.size w w4 := hBA.trans ((((Below.refl w2.heap.size w2).drew).alloc (Nat.le_refl _) (.cells #[.slice B t.length b, .slice KA key.length ka] 41)).trans (hw4.mono (by simp)) |>.mono hBA.size)
            go_wp2_with fail
            go_roundw
            case rel =>
              refine ⟨j + 1, min N cm, by go_num, ?_, by omega, Lib.hid ⟨HJ.out.symm, by have := HN.out.2; omega⟩, hB4⟩
              first
                | rfl
                | (rw [← hmin]; rfl)
                | (congr 1; omega)
            case measure => simp [intOf]; omega
        · obtain rfl : j = r.length := by omega
          have ij : ¬ (r.length : Int) < (r.length : Int) := by omega
          have hfin : s = N := by
            rw [HK2.out, HN.out.1, List.take_of_length_le (by simp)]
          subst hfin
          go_wp2_with fail
          go_ret
          exact ⟨rfl, hB⟩
  · by_cases hk : kind = 3
    · subst hk
      have h0 : l = [] := by
        rcases Nat.eq_zero_or_pos l.length with e | e
        · exact List.eq_nil_of_length_eq_zero e
        · exact absurd ⟨rfl, e⟩ h3
      subst h0
      have e0 : s = 0 := by rw [← hs]; rfl
      subst e0
      clear hs h3
      go_enter Tryz.func139, Tryz.ntmps139
      go_wp2_with fail
      go_ret
      exact ⟨rfl, Below.refl _ _⟩
    · have e3 : (kind == 3) = false := beq_eq_false_iff_ne.2 hk
      have hkeys : Hid (s = comLs (l.map fun x => x.c.key)) := Lib.hid (by
        rw [← hs]
        unfold sharedF keysF
        rw [if_neg hk]
        simp [pcs, Function.comp_def])
      have hmr := hl
      clear hs hk h3
      go_enter Tryz.func139, Tryz.ntmps139
      go_upto_region 3 with (fail)
      have HK : Hid (s = comLs (l.map fun x => x.c.key)) := hkeys
      cases l with
      | nil =>
        have e0 : s = 0 := by rw [HK.out]; rfl
        subst e0
        clear HK hkeys
        go_wp2_with fail
        go_ret
        exact ⟨rfl, Below.refl _ _⟩
      | cons x r =>
        obtain ⟨ad, B, b, rfl, q0, hkr⟩ := hmr.key_at (i := 0) (by simp)
        have q0 : w.cell? ad = some (.slice B x.c.key.length b) := by simpa [Addr.add] using q0
        have hkr : RdB w (.slice B x.c.key.length b) x.c.key := hkr
        obtain ⟨A2, c2, s2, hr2⟩ := hmr.run_l 1 (by simp)
        have s2 : ∀ w', (Instr.slice 32 (.slice (some ad) (x :: r).length c) (some (.int .i64 1)) none none).run Tryz.prog w' = .ok (.slice A2 r.length c2) w' := fun w' => s2 w'
        have hr2 : RdCs w (.slice A2 r.length c2) r := hr2
        have hml : r.length + 1 ≤ 9223372036854775807 := by
          obtain ⟨_, h1, h2⟩ := hmr.len
          simp at h1
          omega
        have hL : (x :: r).length = r.length + 1 := rfl
        rw [hL] at s2 hmr ⊢
        have e0 : (((r.length : Int) + 1) == 0) = false := by simp; omega
        have i0 : (0 : Int) < (r.length : Int) + 1 := by omega
        have hkl : x.c.key.length ≤ 9223372036854775807 := hkr.le
        have HK2 : Hid (s = (r.map fun x => x.c.key).foldl (fun n y => min n (comF x.c.key y)) x.c.key.length) := Lib.hid HK.out
        clear hL hkeys HK
        generalize x.c.key = t at *
        go_wp2_with fail
        clear s2
        go_loopw [5, 28] (fun n i wr => ∃ j N : Nat, i = .int .i64 (j : Int) ∧ n = .int .i64 (N : Int) ∧ j ≤ r.length ∧ Hid (N = ((r.map fun x => x.c.key).take j).foldl (fun n x => min n (comF t x)) t.length ∧ N ≤ t.length) ∧ Below w.heap.size w wr)
          (fun _ i _ => r.length - (intOf i).toNat)
        case atStart => exact ⟨0, t.length, rfl, rfl, Nat.zero_le _, Lib.hid ⟨rfl, Nat.le_refl _⟩, Below.refl _ _⟩
        case round =>
          obtain ⟨j, N, rfl, rfl, hj, HN, hB⟩ := hrel
          have q1 : wr.cell? ad = some (.slice B t.length b) := (hB.cell (World.block_lt_of_cell? w _ q0)).trans q0
          have hkr1 := hkr.below hB (Nat.le_refl _)
          by_cases hlt : j < r.length
          · have ij : (j : Int) < (r.length : Int) := by omega
            have HJ : Hid (((r.map fun x => x.c.key).take (j + 1)).foldl (fun n x => min n (comF t x)) t.length = min N (comF t r[j].c.key)) := Lib.hid (by
              have hj2 : j < (r.map fun x => x.c.key).length := by simpa using hlt
              rw [List.take_succ_eq_append_getElem hj2, List.foldl_append, ← HN.out.1]
              simp)
            obtain ⟨ad2, rfl, c0, c', c2', c3, c4⟩ := (hr2.below hB).at_ hlt
            have hx := (hr2.below hB).ok _ (List.getElem_mem hlt)
            generalize r[j] = y at *
            obtain ⟨KA, ka, VA, va, key, ck, val, pg, ct, rfl, _, _⟩ := CV.form hx
            have hyk : RdB wr (.slice KA key.length ka) key := hx.k
            simp only at HJ c0 c' c2' c3 c4
            have hcl := (comF_le t key).1
            have hA : Below wr.heap.size wr (wr.alloc (.cells #[.slice KA key.length ka, .int .i64 ck, .slice VA val.length va, .int .i64 pg, .int .i64 ct] 43)) := (Below.refl _ _).alloc (Nat.le_refl _) _
            have hC := OBlk.new' wr 43 [.slice KA key.length ka, .int .i64 ck, .slice VA val.length va, .int .i64 pg, .int .i64 ct]
            have q2 := (hA.cell (World.block_lt_of_cell? wr _ q1)).trans q1
            have hkr2 := hkr1.below hA (Nat.le_refl _)
            have hyk2 := hyk.below hA (Nat.le_refl _)
            have hBA := hB.trans (hA.mono hB.size)
            clear hx hyk hkr1 q1
            go_upto_region 9 with (fail)
            clear c0 c' c2' c3 c4
            generalize wr.alloc (.cells #[.slice KA key.length ka, .int .i64 ck, .slice VA val.length va, .int .i64 pg, .int .i64 ct] 43) = w2 at *
            have c0 := hC.cell' (j := 0) rfl
            have hT := Common_any _ _ _ (RdL.two (w := w2.drew) (show RdB w2.drew _ _ from hkr2) (show RdB w2.drew _ _ from hyk2) 41)
            rw [comLs_two] at hT
            have hT := Lib.hid hT
            generalize comF t key = cm at *
            clear hC hA hkr2 hyk2
            have hmin : min (N : Int) (cm : Int) = ((min N cm : Nat) : Int) := by omega
            go_region_law
              (first
                | (go_simp; go_at_call 169; refine hT.out.mono ?_; rintro e w4 ⟨rfl, hw4⟩)
                | fail)
            all_goals
              have hB4 : Below w.heap.size w w4 := hBA.trans ((((Below.refl w2.heap.size w2).drew).alloc (Nat.le_refl _) (.cells #[.slice B t.length b, .slice KA key.length ka] 41)).trans (hw4.mono (by simp)) |>.mono hBA.size)
              go_wp2_with fail
              go_roundw
              case rel =>
                refine ⟨j + 1, min N cm, by go_num, ?_, by omega, Lib.hid ⟨HJ.out.symm, by have := HN.out.2; omega⟩, hB4⟩
                first
                  | rfl
                  | (rw [← hmin]; rfl)
                  | (congr 1; omega)
              case measure => simp [intOf]; omega
          · obtain rfl : j = r.length := by omega
            have ij : ¬ (r.length : Int) < (r.length : Int) := by omega
            have hfin : s = N := by
              rw [HK2.out, HN.out.1, List.take_of_length_le (by simp)]
            subst hfin
            go_wp2_with fail
            go_ret
            exact ⟨rfl, hB⟩
set_option maxRecDepth 100000 in
set_option maxHeartbeats 1000000 in
theorem KSize_any (kind : Int) (v : Value) (l : List CV) (w : World) (hl : RdCs w v l) (hf : bigK (pcs l) ≤ 1152921504606846976) :
    Calls Tryz.prog 81 #[.int .i64 kind, v] w fun e w' => e = .returned (.int .i64 (psizeF kind (pcs l) : Nat)) ∧ Below w.heap.size w w' := by
  have h1 := Kshared_any kind v l w hl
  have hpk : ∀ (i : Nat) (hi : i < (pcs l).length), ¬ (kind = 3 ∧ i = 0) → sharedF kind (pcs l) ≤ (pcs l)[i].key.length := fun i hi hn => (key_split (kind := kind) hi hn).1
  have hsb : sharedF kind (pcs l) ≤ 2305843009213693952 := by
    rcases Nat.eq_zero_or_pos (sharedF kind (pcs l)) with e | e
    · omega
    · obtain ⟨i, hi, hn⟩ := sharedF_pos e
      have h2 := hpk i hi hn
      have h3 := bigK_mem (List.getElem_mem hi)
      omega
  have h2 := fun W hW => Ktaken_any kind v l (sharedF kind (pcs l)) W hW (by omega) hsb hpk
  unfold psizeF
  clear hpk hsb
  obtain ⟨A, c, rfl, -, -⟩ := hl.slice
  generalize sharedF kind (pcs l) = s at *
  go_enter Tryz.func81, Tryz.ntmps81
  go_wp2_with (first
    | (go_at_call 139; (with_reducible refine h1.mono ?_); rintro e w1 ⟨rfl, hb1⟩)
    | (go_at_call 138; (with_reducible refine (h2 _ (hl.below hb1)).mono ?_); rintro e w2 ⟨rfl, hb2⟩)
    | fail)
  go_ret
  exact ⟨rfl, hb1.trans (hb2.mono hb1.size)⟩
end Go.Proofs.YtfcnkpofcekmgaaGreat

-- Bytes that grow, as pieces.
namespace Go.Proofs.YtfcnkpofcekmgaaGreat
open Go.RowKit
/-- An append to bytes of the call's own, in the words of pieces. -/
theorem Sep.appended {w0 w w' : World} {v v' : Value} {l m : List UInt8} {L : List Ent} (h : Sep w0 w (bytesE v l :: L)) (ho : OwB w' 0 v' m) (hg : w.grownBy w' v.ownBlock) (hk : v'.ownBlock = v.ownBlock ∨ v'.ownBlock = some w.heap.size) : Sep w0 w' (bytesE v' m :: L) :=
  h.upd (Turn.of_grown hg (fun _ e => e)) ho (fun g hg' => ⟨by
    rcases hk with e | e
    · exact .inl (e.symm.trans hg' : v.ownBlock = some g)
    · right
      have := e.symm.trans hg'
      injection this with this
      omega, (Own.lt ho g hg').2⟩)
theorem Sep.nil {w0 w : World} {L : List Ent} (h : Sep w0 w L) : Sep w0 w (bytesE (.slice none 0 0) [] :: L) :=
  h.cons (OwB.nil w 0) (fun g hg => by cases hg) (fun _ _ g hg => by cases hg)
end Go.Proofs.YtfcnkpofcekmgaaGreat

-- packed.written: the walk.
namespace Go.Proofs.YtfcnkpofcekmgaaGreat
open Go.RowKit
theorem Sep.sub3 {w0 w : World} {a b c : Ent} (h : Sep w0 w [a, b, c]) : Sep w0 w [a, c] := h.sw1.tail
theorem Sep.ownW {w0 w : World} {v : Value} {l : List UInt8} {L : List Ent} (h : Sep w0 w (bytesE v l :: oldE w0 :: L)) : OwB w w0.heap.size v l := OwB.base_le h.head (fun g hg => Nat.le_of_not_lt (h.far (A := oldE w0) (List.mem_cons_self ..) g hg))
theorem OwB.ofBlk {w : World} {g : Nat} {b : UInt8} (h : OBlk w g 5 [.int .u8 (b.toNat : Int)]) : OwB w 0 (.slice (some ⟨g, 0, none⟩) 1 1) [b] := by
  have h2 := OBlk.owB' (m := [b]) (w := w) (g := g) (base := 0) h (Nat.zero_le _) (by simp [maxLen])
  exact h2
theorem Sep.byte {w0 w : World} {L : List Ent} {g : Nat} {b : UInt8} {n : Int} (hn : n = (b.toNat : Int)) (h : Sep w0 w (blkE g 5 [.int .u8 n] :: L)) : Sep w0 w (bytesE (.slice (some ⟨g, 0, none⟩) 1 1) [b] :: L) :=
  h.weak (fun hp => OwB.ofBlk (by rw [← hn]; exact hp)) (fun g' hg => (Option.some.inj hg).symm)
set_option maxRecDepth 100000 in
set_option maxHeartbeats 4000000 in
theorem Kwritten_any (P : Nat) (hP : P ≤ 65536) (kind : Int) (i : Nat) (x : CV) (pre : Nat) (w : World) (hx : x.ok w) (hok : OkC P x.c) (hp : ¬ (kind = 3 ∧ i = 0) → pre ≤ x.c.key.length) :
    Calls Tryz.prog 142 #[.int .i64 kind, .int .i64 (i : Int), cellV x, .int .i64 (pre : Int)] w fun e w' => ∃ v, e = .returned v ∧ OwB w' w.heap.size v (pcF kind i x.c pre) ∧ Below w.heap.size w w' := by
  have hrest := Krest_any kind i x pre _ (hx.below ((Below.refl _ _).alloc (Nat.le_refl _) (.cells [x.kv, .int .i64 x.c.kind, x.vv, .int .i64 x.c.page, .int .i64 x.c.count].toArray 43))) hp
  have hrl : (restF kind i x.c.key pre).length ≤ x.c.key.length := by unfold restF; split <;> simp
  have hC := OBlk.new' w 43 [x.kv, .int .i64 x.c.kind, x.vv, .int .i64 x.c.page, .int .i64 x.c.count]
  have hA : Below w.heap.size w (w.alloc (.cells [x.kv, .int .i64 x.c.kind, x.vv, .int .i64 x.c.page, .int .i64 x.c.count].toArray 43)) := (Below.refl _ _).alloc (Nat.le_refl _) _
  have k0 := hok.k0
  have kd := hok.kd
  have v0 := hok.v0
  have v1 := hok.v1
  obtain ⟨A, ca, B, cb, key, ck, val, pg, ct, rfl, _, _⟩ := CV.form hx
  have hxv : RdB w (.slice B val.length cb) val := hx.v
  simp only at k0 kd v0 v1 hrl hrest hC hA
  unfold cellV at hrest ⊢
  simp only at hrest ⊢
  obtain ⟨kn, rfl⟩ := Int.eq_ofNat_of_zero_le (show 0 ≤ ck by omega)
  have kn4 : kn ≤ 4 := by omega
  have hkw : IntKind.u8.wrap (kn : Int) = (kn : Int) := by rw [IntKind.wrap_u8]; omega
  have hkn : (kn : Int) = ((UInt8.ofNat kn).toNat : Int) := by rw [UInt8.toNat_ofNat']; omega
  have hpc : pcF kind i ⟨key, (kn : Int), val, pg, ct⟩ pre = UInt8.ofNat kn :: (uintF (restF kind i key pre).length ++ (restF kind i key pre ++ kvF ⟨key, (kn : Int), val, pg, ct⟩)) := by
    unfold pcF u8I
    simp only
    congr 2
    omega
  have hkv1 : kn = 1 → kvF ⟨key, (kn : Int), val, pg, ct⟩ = uintF val.length ++ val := fun h => by unfold kvF; rw [if_pos (by simp only; omega)]
  have hkv2 : kn ≠ 1 → kvF ⟨key, (kn : Int), val, pg, ct⟩ = uintF (u64N pg) ++ uintF (u64N ct) := fun h => by unfold kvF; rw [if_neg (by simp only; omega)]
  have hvl : kn = 1 → val.length ≤ 65536 := fun h => by have := (v0 (by omega)).1; omega
  have HPC := Lib.hid hpc
  have HKN := Lib.hid hkn
  have HV := Lib.hid (hxv.below hA (Nat.le_refl _))
  have HK1 := Lib.hid hkv1
  have HK2 := Lib.hid hkv2
  have HVL := Lib.hid hvl
  clear hx hok hpc hkn hxv hp hkv1 hkv2 hvl v0 v1
  generalize restF kind i key pre = rs at *
  go_enter Tryz.func142, Tryz.ntmps142
  go_upto_region 2 with (first
    | (go_at_call 170; (with_reducible refine hrest.mono ?_); rintro e w2 ⟨RA, rc, rfl, hrr, hw2⟩)
    | fail)
  clear hrest
  obtain ⟨bx, hbx⟩ : ∃ b, w.heap.size = b := ⟨_, rfl⟩
  have HBX := Lib.hid hbx
  rw [hbx] at hC ⊢
  generalize hw1 : w.alloc (.cells [Value.slice A key.length ca, .int .i64 (kn : Int), .slice B val.length cb, .int .i64 pg, .int .i64 ct].toArray 43) = w1 at *
  clear hw1
  have hS2 := (Sep.start w1).below hw2
  have HC := Lib.hid (fun (W : World) (hB : Below w1.heap.size w1 W) => cells5 (hC.below hB hC.lt))
  have HRR := Lib.hid hrr
  have hA' := Lib.hid hA
  have k1 := (HC.out _ hw2).2.1
  have hrm := hrr.le
  clear hC hA hrr hw2
  have hlw : IntKind.u64.wrap (rs.length : Int) = (rs.length : Int) := by rw [IntKind.wrap_u64]; omega
  have hU0 := Uint_any rs.length (by omega) w2.drew
  have hU1 := Uint_any rs.length (by omega) (w2.drew.alloc (.cells #[.int .u8 (kn : Int)] 5))
  have hSa := hS2.drew.alloc 5 [.int .u8 (kn : Int)]
  obtain ⟨i0, hi0, hz0, hz1, hz2⟩ := info_parts u8_info
  have HSA := Lib.hid hSa
  have HS2 := Lib.hid hS2
  have hul := uintF_le10 (n := rs.length) (by omega)
  clear hSa hS2 hbx
  generalize hue : uintF rs.length = ul at *
  clear hue
  go_cut [10] (fun b wx => ∃ BA bc, b = .slice BA (1 + ul.length) bc ∧ Sep w1 wx [bytesE (.slice BA (1 + ul.length) bc) (UInt8.ofNat kn :: ul), oldE w1])
  case first =>
    go_region_law
      (first
        | (go_simp; go_at_call 171; (with_reducible refine hU0.mono ?_); rintro e w4 ⟨v4, rfl, ho4, hw4⟩; obtain ⟨V4, c4, rfl⟩ := Own.slice ho4; have hS4 := HS2.out.drew.bytes hw4 ho4 (Nat.le_refl _); have k1' := (HC.out _ (Sep.belowOld (_v := w1) hS4 (by simp))).2.1; have hSb := Sep.byte (b := UInt8.ofNat kn) HKN.out (hS4.alloc 5 [.int .u8 (kn : Int)]); have hown : OwB _ 0 _ [UInt8.ofNat kn] := hSb.head; have hrd : RdB _ (.slice V4 ul.length c4) ul := OwB.rd (show OwB _ 0 (.slice V4 ul.length c4) ul from hSb.tail.head))
        | (go_simp; go_at_call 171; refine hU1.mono ?_; rintro e w4 ⟨v4, rfl, ho4, hw4⟩; obtain ⟨V4, c4, rfl⟩ := Own.slice ho4; have hSb := (Sep.byte (b := UInt8.ofNat kn) HKN.out (HSA.out.bytes hw4 ho4 (Nat.le_refl _)).sw1); have hown : OwB _ 0 _ [UInt8.ofNat kn] := hSb.head; have hrd : RdB _ (.slice V4 ul.length c4) ul := OwB.rd (show OwB _ 0 (.slice V4 ul.length c4) ul from hSb.tail.head))
        | (refine step_append (by rfl) (.tmp 19) (.tmp 23) _ _ (by rfl) 0 5 i0 _ 1 1 Tryz.underlying41 hi0 hz0 hz1 hz2 rfl _ 1 (bvs [UInt8.ofNat kn]) (by simp [Act.eval]) hown (.slice V4 ul.length c4) ul.length (bvs ul) (by simp [Act.eval]) (Rd.src _ Tryz.underlying41 (by omega) hrd.rd (bvs_one _)) (by omega) (by omega) (Nat.zero_le _) ?_; intro v6 w6 ho6 hg6 hk6; obtain ⟨V6, c6, rfl⟩ := Own.slice ho6)
        | fail)
    all_goals
      have ho7 : OwB w6 0 (.slice V6 (1 + ul.length) c6) (UInt8.ofNat kn :: ul) := by
        rw [← bvs_append] at ho6
        unfold OwB
        rw [show (UInt8.ofNat kn :: ul).length = 1 + ul.length by simp; omega]
        exact ho6
      have hS6 := hSb.appended ho7 hg6 hk6
      go_wp2_with fail
      go_meet
      exact ⟨V6, c6, rfl, Sep.sub3 hS6⟩
  case rest =>
    obtain ⟨BA, bc, rfl, hS3⟩ := hcut
    clear hU0 hU1 HSA HS2 k1
    have ho3 : OwB _ 0 (.slice BA (1 + ul.length) bc) (UInt8.ofNat kn :: ul) := hS3.head
    have hr3 := hS3.rd (v := w1) (by simp) HRR.out
    go_upto_region 4 with (first
      | (at_builtin; refine wp_append_B rfl (.tmp 25) (.tmp 26) rfl 0 (.slice BA (1 + ul.length) bc) (UInt8.ofNat kn :: ul) rfl ho3 (.slice RA rs.length rc) rs rfl hr3 (by simp; omega) (Nat.zero_le _) ?_; intro v5 w5 ho5 hg5 hk5)
      | fail)
    have hS5 := hS3.appended ho5 hg5 hk5
    clear ho3 hr3 hS3 hg5 hk5
    obtain ⟨V5, c5, rfl⟩ := Own.slice ho5
    have hB5 := Sep.belowOld (_v := w1) hS5 (by simp)
    obtain ⟨-, k1, k2, k3, k4⟩ := HC.out _ hB5
    have HS5 := Lib.hid hS5
    clear hS5 hB5
    generalize hm5 : UInt8.ofNat kn :: ul ++ rs = m5 at *
    have hl5 : m5.length ≤ 8300 := by rw [← hm5]; simp; omega
    have HPC2 : Hid (pcF kind i ⟨key, (kn : Int), val, pg, ct⟩ pre = m5 ++ kvF ⟨key, (kn : Int), val, pg, ct⟩) := Lib.hid (by rw [HPC.out, ← hm5]; simp)
    clear hm5 HPC
    by_cases h1 : kn = 1
    · subst h1
      have hkv := HK1.out rfl
      have hvl := HVL.out rfl
      have hU := Uint_any val.length (by omega) w5
      have hvw : IntKind.u64.wrap (val.length : Int) = (val.length : Int) := by rw [IntKind.wrap_u64]; omega
      have hu2 := uintF_le10 (n := val.length) (by omega)
      generalize hue : uintF val.length = uv at *
      clear hue
      have HKV := Lib.hid hkv
      clear hkv
      go_upto_region 6 with (first
        | (go_at_call 171; (with_reducible refine hU.mono ?_); rintro e w6 ⟨v6, rfl, ho6, hw6⟩; have hS6 := (HS5.out.bytes hw6 ho6 (Nat.le_refl _)).sw1; obtain ⟨V6, c6, rfl⟩ := Own.slice ho6; have hr6 := OwB.rd ho6; have hh6 : OwB _ 0 (.slice V5 m5.length c5) m5 := hS6.head)
        | (at_builtin; refine wp_append_B rfl (.tmp 31) (.tmp 36) rfl 0 (.slice V5 m5.length c5) m5 rfl hh6 (.slice V6 uv.length c6) uv rfl hr6 (by omega) (Nat.zero_le _) ?_; intro v7 w7 ho7 hg7 hk7)
        | fail)
      have hS7 := (hS6.appended ho7 hg7 hk7).sub3
      clear hS6 hr6 hh6 ho6 hg7 hk7 hw6 hU
      obtain ⟨V7, c7, rfl⟩ := Own.slice ho7
      have hB7 := Sep.belowOld (_v := w1) hS7 (by simp)
      have hv7 := hS7.rd (v := w1) (by simp) HV.out
      clear k1 k2 k3 k4
      obtain ⟨-, -, k2, -, -⟩ := HC.out _ hB7
      have HS7 := Lib.hid hS7
      clear hS7 hB7
      generalize hm7 : m5 ++ uv = m7 at *
      have hl7 : m7.length ≤ 8310 := by rw [← hm7]; simp; omega
      go_wp2_with (first
        | (at_builtin; refine wp_append_B rfl (.tmp 38) (.tmp 40) rfl 0 (.slice V7 m7.length c7) m7 rfl ho7 (.slice B val.length cb) val rfl hv7 (by omega) (Nat.zero_le _) ?_; intro v8 w8 ho8 hg8 hk8)
        | fail)
      go_ret
      have hS8 := HS7.out.appended ho8 hg8 hk8
      have he : pcF kind i ⟨key, ((1 : Nat) : Int), val, pg, ct⟩ pre = m7 ++ val := by rw [HPC2.out, HKV.out, ← hm7, List.append_assoc]
      exact ⟨_, rfl, by rw [he]; exact hS8.ownW.low (by have := hA'.out.size; omega), hA'.out.trans ((Sep.belowOld (_v := w1) hS8 (by simp)).mono hA'.out.size)⟩
    · have e0 : ((kn : Int) == 1) = false := beq_eq_false_iff_ne.2 (by omega)
      have hkv := HK2.out h1
      have hU := Uint_any (u64N pg) (u64N_lt pg) w5
      have q1 := wrap_u64N pg
      have q2 := wrap_u64N ct
      have hu2 := uintF_le10 (u64N_lt pg)
      have hu3 := uintF_le10 (u64N_lt ct)
      have HUC := Lib.hid (fun W => Uint_any (u64N ct) (u64N_lt ct) W)
      generalize uintF (u64N pg) = uv at *
      generalize uintF (u64N ct) = uc at *
      generalize u64N pg = pn at *
      generalize u64N ct = cn at *
      have HKV := Lib.hid hkv
      clear hkv h1
      go_upto_region 8 with (first
        | (go_at_call 171; (with_reducible refine hU.mono ?_); rintro e w6 ⟨v6, rfl, ho6, hw6⟩; have hS6 := (HS5.out.bytes hw6 ho6 (Nat.le_refl _)).sw1; obtain ⟨V6, c6, rfl⟩ := Own.slice ho6; have hr6 := OwB.rd ho6; have hh6 : OwB _ 0 (.slice V5 m5.length c5) m5 := hS6.head)
        | (at_builtin; refine wp_append_B rfl (.tmp 42) (.tmp 46) rfl 0 (.slice V5 m5.length c5) m5 rfl hh6 (.slice V6 uv.length c6) uv rfl hr6 (by omega) (Nat.zero_le _) ?_; intro v7 w7 ho7 hg7 hk7)
        | fail)
      have hS7 := (hS6.appended ho7 hg7 hk7).sub3
      clear hS6 hr6 hh6 ho6 hg7 hk7 hw6 hU
      obtain ⟨V7, c7, rfl⟩ := Own.slice ho7
      have hB7 := Sep.belowOld (_v := w1) hS7 (by simp)
      clear k1 k2 k3 k4
      obtain ⟨-, -, -, -, k4⟩ := HC.out _ hB7
      have HS7 := Lib.hid hS7
      clear hS7 hB7
      have hU := HUC.out w7
      generalize hm7 : m5 ++ uv = m7 at *
      have hl7 : m7.length ≤ 8310 := by rw [← hm7]; simp; omega
      go_wp2_with (first
        | (go_at_call 171; (with_reducible refine hU.mono ?_); rintro e w8 ⟨v8, rfl, ho8, hw8⟩; have hS8 := (HS7.out.bytes hw8 ho8 (Nat.le_refl _)).sw1; obtain ⟨V8, c8, rfl⟩ := Own.slice ho8; have hr8 := OwB.rd ho8; have hh8 : OwB _ 0 (.slice V7 m7.length c7) m7 := hS8.head)
        | (at_builtin; refine wp_append_B rfl (.tmp 48) (.tmp 52) rfl 0 (.slice V7 m7.length c7) m7 rfl hh8 (.slice V8 uc.length c8) uc rfl hr8 (by omega) (Nat.zero_le _) ?_; intro v9 w9 ho9 hg9 hk9)
        | fail)
      go_ret
      have hS9 := (hS8.appended ho9 hg9 hk9).sub3
      have he : pcF kind i ⟨key, (kn : Int), val, pg, ct⟩ pre = m7 ++ uc := by rw [HPC2.out, HKV.out, ← hm7, List.append_assoc]
      exact ⟨_, rfl, by rw [he]; exact hS9.ownW.low (by have := hA'.out.size; omega), hA'.out.trans ((Sep.belowOld (_v := w1) hS9 (by simp)).mono hA'.out.size)⟩
end Go.Proofs.YtfcnkpofcekmgaaGreat
