/- Texts joined: ink.Common; Packed pages; packed.isSize, isKind, may; packed.width, rest, length -/
import Derived.Test.YtfcnkpofcekmgaaGreatNW2
import Derived.Test.YtfcnkpofcekmgaaGreatNW4
import Derived.Test.YtfcnkpofcekmgaaGreatNW6
import Derived.Test.YtfcnkpofcekmgaaGreatNW9
import Derived.Deep.CutRange
import Derived.Deep.DeepCutAuto
import Derived.Deep.QuietTactic
import Derived.BigQuiet
-- ink.Common: the walk.
namespace Go.Proofs.YtfcnkpofcekmgaaGreat
open Go.RowKit
def comLs : List (List UInt8) → Nat
  | [] => 0
  | t :: r => r.foldl (fun n x => min n (comF t x)) t.length
theorem L_elem : Tryz.prog.underlying 35 = some (.slice (Tryz.prog.elem 35)) := by kernel_rfl
theorem L_sizeOf (w : World) : (sizeOf (Tryz.prog.elem 35)).run Tryz.prog w = .ok 1 w := by
  have he : Tryz.prog.elem 35 = 41 := by kernel_rfl
  rw [he]
  obtain ⟨i, hi, hz0, hz1, hz2⟩ := info_parts L_info
  simp [sizeOf, typeInfo, hi, hz1]
/-- x[lo:] of slices that are read. -/
theorem RdL.run_l {w : World} {A : Option Addr} {n c : Nat} {ls : List (List UInt8)} (h : RdL w (.slice A n c) ls) (lo : Nat) (h1 : lo ≤ ls.length) :
    ∃ A' c', (∀ w', (Instr.slice 35 (.slice A n c) (some (.int .i64 (lo : Int))) none none).run Tryz.prog w' = .ok (.slice A' (ls.length - lo) c') w') ∧ RdL w (.slice A' (ls.length - lo) c') (ls.drop lo) := by
  obtain ⟨vs, ⟨h0, A0, c0, hv, h2, h3, h4⟩, h5, h6⟩ := h
  injection hv with hA hn hc
  subst hA; subst hc; subst hn
  have hle : lo ≤ vs.length := by omega
  refine ⟨_, _, fun w' => ?_, vs.drop lo, ⟨by simp, (if c = lo then A else A.map (·.add lo)), c - lo, by rw [List.length_drop, ← h5], by simp; omega, by omega, fun j u hj => ?_⟩, by simp; omega, fun i hi => ?_⟩
  · have := run_slice_l (P := Tryz.prog) w' 35 A vs.length c L_elem .i64 lo (by omega) (by omega)
    rw [this, L_sizeOf, ← h5]
    simp [Result.andThen, sliced]
  · rw [List.getElem?_drop] at hj
    obtain ⟨ad, rfl, hcell⟩ := h4 _ _ hj
    have hlt := (List.getElem?_eq_some_iff.mp hj).1
    rw [if_neg (by omega)]
    exact ⟨ad.add lo, rfl, by rw [add_of_add]; exact hcell⟩
  · have hi' : lo + i < ls.length := by simp at hi; omega
    obtain ⟨u, hu, hr⟩ := h6 (lo + i) hi'
    refine ⟨u, by rw [List.getElem?_drop]; exact hu, ?_⟩
    rw [List.getElem_drop]
    exact hr
set_option maxRecDepth 20000 in
set_option maxHeartbeats 2000000 in
theorem Common_any (v : Value) (ls : List (List UInt8)) (w : World) (hv : RdL w v ls) : Calls Tryz.prog 169 #[v] w fun e w' => e = .returned (.int .i64 (comLs ls : Nat)) ∧ Below w.heap.size w w' := by
  obtain ⟨A, c, rfl, hm⟩ := hv.form
  cases ls with
  | nil =>
    go_enter Tryz.func169, Tryz.ntmps169
    go_wp2_with fail
    go_ret
    exact ⟨rfl, Below.refl _ _⟩
  | cons t r =>
    obtain ⟨ad, A0, c0, rfl, hc0, hr0⟩ := hv.at_ (k := 0) (by simp)
    have htl : t.length ≤ 9223372036854775807 := hr0.le
    have hc0 : w.cell? ad = some (.slice A0 t.length c0) := by simpa [Addr.add] using hc0
    have hr0 : RdB w (.slice A0 t.length c0) t := hr0
    obtain ⟨A1, c1, q1, hr1⟩ := hv.run_l 1 (by simp)
    have q1 : ∀ w', (Instr.slice 35 (.slice (some ad) (t :: r).length c) (some (.int .i64 1)) none none).run Tryz.prog w' = .ok (.slice A1 r.length c1) w' := fun w' => q1 w'
    have hr1 : RdL w (.slice A1 r.length c1) r := hr1
    have hrl : r.length + 1 ≤ 9223372036854775807 := by simpa using hm
    have hL : (t :: r).length = r.length + 1 := rfl
    rw [hL] at q1 hv hm ⊢
    have e0 : (((r.length : Int) + 1) == 0) = false := by simp; omega
    have i0 : (0 : Int) < (r.length : Int) + 1 := by omega
    clear hL
    go_enter Tryz.func169, Tryz.ntmps169
    go_wp2_with fail
    clear q1
    go_loopw [3, 16] (fun n i wr => ∃ j N : Nat, i = .int .i64 (j : Int) ∧ n = .int .i64 (N : Int) ∧ j ≤ r.length ∧ Hid (N = (r.take j).foldl (fun n x => min n (comF t x)) t.length) ∧ Below w.heap.size w wr)
      (fun _ i _ => r.length - (intOf i).toNat)
    case atStart => exact ⟨0, t.length, rfl, rfl, Nat.zero_le _, Lib.hid rfl, Below.refl _ _⟩
    case round =>
      obtain ⟨j, N, rfl, rfl, hj, HN, hb⟩ := hrel
      have hc0' : wr.cell? ad = some (.slice A0 t.length c0) := by
        obtain ⟨ad', A0', c0', e, h, _⟩ := (hv.below hb (Nat.le_refl _)).at_ (k := 0) (by simp)
        have hlt : ad.block < w.heap.size := block_lt_of_cell hc0
        rw [hb.cell hlt]; exact hc0
      by_cases hlt : j < r.length
      · obtain ⟨ad1, A2, c2, rfl, hcx, hrx⟩ := hr1.at_ hlt
        have hcx' : wr.cell? (ad1.add j) = some (.slice A2 r[j].length c2) := by
          have hlt' : (ad1.add j).block < w.heap.size := block_lt_of_cell hcx
          rw [hb.cell hlt']; exact hcx
        have HF : Hid ((r.take (j + 1)).foldl (fun n x => min n (comF t x)) t.length = min N (comF t r[j])) := Lib.hid (by
          rw [← List.take_append_getElem hlt, List.foldl_append, ← HN.out]; rfl)
        have hxl := hrx.le
        clear hcx
        generalize r[j] = x at *
        have i1 : (j : Int) < (r.length : Int) := by omega
        rcases (by omega : (N : Int) ≤ (comF t x : Int) ∨ (comF t x : Int) < (N : Int)) with hle | hle
        · go_wp2_with fail
          refine (common_any _ _ t x _ (hr0.below hb (Nat.le_refl _)) (hrx.below hb (Nat.le_refl _))).mono ?_
          rintro e w2 ⟨rfl, hw2⟩
          have hb2 := hb.trans (hw2.mono hb.size)
          go_wp2_with fail
          go_roundw
          case rel => exact ⟨j + 1, N, by go_num, rfl, by omega, Lib.hid (by rw [HF.out]; omega), hb2⟩
          case measure => simp [intOf]; omega
        · go_wp2_with fail
          refine (common_any _ _ t x _ (hr0.below hb (Nat.le_refl _)) (hrx.below hb (Nat.le_refl _))).mono ?_
          rintro e w2 ⟨rfl, hw2⟩
          have hb2 := hb.trans (hw2.mono hb.size)
          go_wp2_with fail
          go_roundw
          case rel => exact ⟨j + 1, comF t x, by go_num, rfl, by omega, Lib.hid (by rw [HF.out]; omega), hb2⟩
          case measure => simp [intOf]; omega
      · obtain rfl : j = r.length := by omega
        have HC : Hid (comLs (t :: r) = N) := Lib.hid (by rw [HN.out, List.take_length]; rfl)
        go_wp2_with fail
        go_ret
        rw [HC.out]
        exact ⟨rfl, hb⟩
end Go.Proofs.YtfcnkpofcekmgaaGreat

-- Packed pages: what is written, how it is read: plain laws.
namespace Go.Proofs.YtfcnkpofcekmgaaGreat
def u64N (n : Int) : Nat := (n % 18446744073709551616).toNat
theorem u64N_lt (n : Int) : u64N n < 18446744073709551616 := by unfold u64N; omega
theorem u64N_of {n : Int} (h : 0 ≤ n) (h2 : n < 18446744073709551616) : u64N n = n.toNat := by unfold u64N; rw [Int.emod_eq_of_lt h h2]
def u8I (k : Int) : UInt8 := UInt8.ofNat (k % 256).toNat
def restF (kind : Int) (i : Nat) (key : List UInt8) (pre : Nat) : List UInt8 := if kind = 3 ∧ i = 0 then key else key.drop pre
def kvF (c : PC) : List UInt8 := if c.kind = 1 then uintF c.val.length ++ c.val else uintF (u64N c.page) ++ uintF (u64N c.count)
def pcF (kind : Int) (i : Nat) (c : PC) (pre : Nat) : List UInt8 := u8I c.kind :: (uintF (restF kind i c.key pre).length ++ (restF kind i c.key pre ++ kvF c))
def pbodyF (kind : Int) (pre : Nat) : Nat → List PC → List UInt8
  | _, [] => []
  | i, c :: r => pcF kind i c pre ++ pbodyF kind pre (i + 1) r
def pslotsF (kind : Int) (pre : Nat) : Nat → Nat → List PC → List UInt8
  | _, _, [] => []
  | a, i, c :: r => fixedF a 2 ++ pslotsF kind pre (a + (pcF kind i c pre).length) (i + 1) r
def takenF (kind : Int) (l : List PC) (pre : Nat) : Nat := 10 + pre + 2 * l.length + (pbodyF kind pre 0 l).length
def keysF (kind : Int) (l : List PC) : List (List UInt8) := (if kind = 3 then l.drop 1 else l).map PC.key
def sharedF (kind : Int) (l : List PC) : Nat := comLs (keysF kind l)
def psizeF (kind : Int) (l : List PC) : Nat := takenF kind l (sharedF kind l)
def encK (kind : Int) (l : List PC) (P : Nat) : Int := if scanE kind P none l ≠ 0 then scanE kind P none l else if P < psizeF kind l then 61 else 0
def prefF (kind : Int) (l : List PC) : List UInt8 := match l.getLast? with
  | none => []
  | some c => c.key.take (sharedF kind l)
def preK (kind : Int) (l : List PC) (P : Nat) : List UInt8 :=
  u8I kind :: 2 :: (fixedF l.length 2 ++ (fixedF (sharedF kind l) 2 ++ (prefF kind l ++ (pslotsF kind (sharedF kind l) (6 + sharedF kind l + 2 * l.length) 0 l ++ (pbodyF kind (sharedF kind l) 0 l ++ List.replicate (P - psizeF kind l) 0)))))
def laidK (kind : Int) (l : List PC) (P : Nat) : List UInt8 := preK kind l P ++ fixedF (sumF (preK kind l P)) 4
theorem encK_zero {kind : Int} {l : List PC} {P : Nat} : encK kind l P = 0 ↔ scanE kind P none l = 0 ∧ psizeF kind l ≤ P := by
  unfold encK
  split
  · rename_i h; exact ⟨fun e => absurd e h, fun e => absurd e.1 h⟩
  · rename_i h
    split
    · exact ⟨fun e => by omega, fun e => by omega⟩
    · exact ⟨fun _ => ⟨by simpa using h, by omega⟩, fun _ => rfl⟩
theorem pslotsF_length (kind : Int) (pre : Nat) : ∀ (a i : Nat) (l : List PC), (pslotsF kind pre a i l).length = 2 * l.length
  | _, _, [] => rfl
  | a, i, c :: r => by simp only [pslotsF, List.length_append, fixedF_length, pslotsF_length, List.length_cons]; omega
theorem pbodyF_append (kind : Int) (pre : Nat) : ∀ (i : Nat) (a b : List PC), pbodyF kind pre i (a ++ b) = pbodyF kind pre i a ++ pbodyF kind pre (i + a.length) b
  | i, [], b => rfl
  | i, c :: r, b => by
    simp only [List.cons_append, pbodyF, pbodyF_append kind pre (i + 1) r b, List.append_assoc, List.length_cons]
    rw [show i + 1 + r.length = i + (r.length + 1) by omega]
theorem pslotsF_append (kind : Int) (pre : Nat) : ∀ (a i : Nat) (x y : List PC), pslotsF kind pre a i (x ++ y) = pslotsF kind pre a i x ++ pslotsF kind pre (a + (pbodyF kind pre i x).length) (i + x.length) y
  | a, i, [], y => rfl
  | a, i, c :: r, y => by
    simp only [List.cons_append, pslotsF, pslotsF_append kind pre _ (i + 1) r y, List.append_assoc, List.length_cons, pbodyF, List.length_append]
    rw [show i + 1 + r.length = i + (r.length + 1) by omega, show a + (pcF kind i c pre).length + (pbodyF kind pre (i + 1) r).length = a + ((pcF kind i c pre).length + (pbodyF kind pre (i + 1) r).length) by omega]
/-! ### what keys share -/
theorem comLs_cons (t : List UInt8) (r : List (List UInt8)) : comLs (t :: r) ≤ t.length ∧ ∀ x ∈ r, comLs (t :: r) ≤ comF t x := by
  show r.foldl (fun n x => min n (comF t x)) t.length ≤ t.length ∧ _
  have key : ∀ (r : List (List UInt8)) (m : Nat), r.foldl (fun n x => min n (comF t x)) m ≤ m ∧ ∀ x ∈ r, r.foldl (fun n x => min n (comF t x)) m ≤ comF t x := by
    intro r
    induction r with
    | nil => intro m; exact ⟨Nat.le_refl _, by simp⟩
    | cons y s ih =>
      intro m
      have h := ih (min m (comF t y))
      refine ⟨Nat.le_trans h.1 (Nat.min_le_left _ _), fun x hx => ?_⟩
      rcases List.mem_cons.1 hx with rfl | hx
      · exact Nat.le_trans h.1 (Nat.min_le_right _ _)
      · exact h.2 x hx
  exact ⟨(key r t.length).1, fun x hx => (key r t.length).2 x hx⟩
/-- All keys begin alike, and are that long. -/
theorem comLs_take {ks : List (List UInt8)} {x y : List UInt8} (hx : x ∈ ks) (hy : y ∈ ks) : comLs ks ≤ x.length ∧ x.take (comLs ks) = y.take (comLs ks) := by
  cases ks with
  | nil => cases hx
  | cons t r =>
    obtain ⟨h1, h2⟩ := comLs_cons t r
    have key : ∀ z ∈ t :: r, comLs (t :: r) ≤ z.length ∧ z.take (comLs (t :: r)) = t.take (comLs (t :: r)) := fun z hz => by
      rcases List.mem_cons.1 hz with rfl | hz
      · exact ⟨h1, rfl⟩
      · have h3 := h2 z hz
        have h4 := comF_le t z
        refine ⟨by omega, ?_⟩
        have e := comF_take t z
        have e2 := congrArg (List.take (comLs (t :: r))) e
        rw [List.take_take, List.take_take, Nat.min_eq_left h3] at e2
        exact e2.symm
    exact ⟨(key x hx).1, (key x hx).2.trans (key y hy).2.symm⟩
/-- A cell's key is the prefix, and its rest. -/
theorem key_split {kind : Int} {l : List PC} {i : Nat} (hi : i < l.length) (hn : ¬ (kind = 3 ∧ i = 0)) :
    sharedF kind l ≤ l[i].key.length ∧ l[i].key = prefF kind l ++ l[i].key.drop (sharedF kind l) ∧ (prefF kind l).length = sharedF kind l := by
  have hmem : ∀ j (hj : j < l.length), ¬ (kind = 3 ∧ j = 0) → l[j].key ∈ keysF kind l := fun j hj hnj => by
    unfold keysF
    refine List.mem_map_of_mem ?_
    by_cases hk : kind = 3
    · rw [if_pos hk]
      have : l[j] = (l.drop 1)[j - 1]'(by simp; omega) := by simp only [List.getElem_drop]; congr 1; omega
      rw [this]; exact List.getElem_mem _
    · rw [if_neg hk]; exact List.getElem_mem _
  have hlast : l.getLast? = some (l[l.length - 1]'(by omega)) := by rw [List.getLast?_eq_getElem?, List.getElem?_eq_getElem (by omega)]
  have hp : prefF kind l = (l[l.length - 1]'(by omega)).key.take (sharedF kind l) := by unfold prefF; rw [hlast]
  have hm1 := hmem i hi hn
  have hm2 := hmem (l.length - 1) (by omega) (fun h => hn ⟨h.1, by omega⟩)
  have h1 := comLs_take hm1 hm2
  have h2 := comLs_take hm2 hm1
  refine ⟨h1.1, ?_, ?_⟩
  · rw [hp]
    have : (l[l.length - 1]'(by omega)).key.take (sharedF kind l) = l[i].key.take (sharedF kind l) := h2.2
    rw [this, List.take_append_drop]
  · rw [hp, List.length_take]
    exact Nat.min_eq_left h2.1
theorem prefF_length_le (kind : Int) (l : List PC) : (prefF kind l).length ≤ sharedF kind l := by
  unfold prefF
  split
  · simp
  · rw [List.length_take]; omega
theorem sharedF_pos {kind : Int} {l : List PC} (h : 0 < sharedF kind l) : ∃ i, ∃ _hi : i < l.length, ¬ (kind = 3 ∧ i = 0) := by
  unfold sharedF keysF at h
  by_cases hk : kind = 3
  · rw [if_pos hk] at h
    refine ⟨1, ?_, by omega⟩
    rcases Nat.lt_or_ge 1 l.length with h1 | h1
    · exact h1
    · rw [List.drop_of_length_le h1] at h; simp [comLs] at h
  · refine ⟨0, ?_, by omega⟩
    rcases Nat.eq_zero_or_pos l.length with h1 | h1
    · rw [if_neg hk, List.eq_nil_of_length_eq_zero h1] at h; simp [comLs] at h
    · exact h1
theorem prefF_length (kind : Int) (l : List PC) : (prefF kind l).length = sharedF kind l := by
  rcases Nat.eq_zero_or_pos (sharedF kind l) with h | h
  · have := prefF_length_le kind l; omega
  · obtain ⟨i, hi, hn⟩ := sharedF_pos h
    exact (key_split hi hn).2.2
/-! ### lengths -/
theorem preK_length {kind : Int} {l : List PC} {P : Nat} (h : psizeF kind l ≤ P) : (preK kind l P).length = P - 4 := by
  have e : psizeF kind l = 10 + sharedF kind l + 2 * l.length + (pbodyF kind (sharedF kind l) 0 l).length := rfl
  unfold preK
  simp only [List.length_cons, List.length_append, fixedF_length, prefF_length, pslotsF_length, List.length_replicate]
  omega
theorem laidK_length {kind : Int} {l : List PC} {P : Nat} (h : psizeF kind l ≤ P) : (laidK kind l P).length = P := by
  have e : psizeF kind l = 10 + sharedF kind l + 2 * l.length + (pbodyF kind (sharedF kind l) 0 l).length := rfl
  unfold laidK
  rw [List.length_append, preK_length h, fixedF_length]; omega
/-! ### how a page is read -/
/-! ### three cells -/
theorem pcF_le {kind : Int} {i pre P : Nat} {c : PC} (hc : OkC P c) (hP : P ≤ 65536) (hP2 : 512 ≤ P) : (pcF kind i c pre).length + (c.key.length - (restF kind i c.key pre).length) ≤ 5 + P / 8 + P / 16 * 3 := by
  have hrl : (restF kind i c.key pre).length ≤ c.key.length := by unfold restF; split <;> simp
  have hk0 := hc.k0
  have u1 : (uintF (restF kind i c.key pre).length).length ≤ 2 := uintF_len 1 _ (by show _ < 16384; omega)
  unfold pcF
  simp only [List.length_cons, List.length_append]
  unfold kvF
  by_cases h1 : c.kind = 1
  · obtain ⟨hv, _, _⟩ := hc.v0 h1
    have u2 : (uintF c.val.length).length ≤ 2 := uintF_len 1 _ (by show _ < 16384; omega)
    rw [if_pos h1, List.length_append]; omega
  · obtain ⟨hv, hp0, hp1, hc0, hc1⟩ := hc.v1 h1
    have u2 : (uintF (u64N c.page)).length ≤ 3 := uintF_len 2 _ (by rw [u64N_of hp0 (by omega)]; show _ < 2097152; omega)
    have u3 : (uintF (u64N c.count)).length ≤ 5 := uintF_len 4 _ (by rw [u64N_of hc0 (by omega)]; show _ < 34359738368; omega)
    rw [if_neg h1, List.length_append]; omega
theorem may_branch {P : Nat} {c : PC} (h : mayP 3 P c = true) : c.kind = 3 := by
  unfold mayP at h
  split at h
  · cases h
  · rw [if_pos rfl] at h
    exact (of_decide_eq_true h).1
theorem pcF_le3 {i pre P : Nat} {c : PC} (hc : OkC P c) (h3 : c.kind = 3) (hP : P ≤ 65536) (kind : Int) : (pcF kind i c pre).length ≤ 11 + P / 8 := by
  have hrl : (restF kind i c.key pre).length ≤ c.key.length := by unfold restF; split <;> simp
  have hk0 := hc.k0
  have u1 : (uintF (restF kind i c.key pre).length).length ≤ 2 := uintF_len 1 _ (by show _ < 16384; omega)
  have h1 : c.kind ≠ 1 := by omega
  obtain ⟨hv, hp0, hp1, hc0, hc1⟩ := hc.v1 h1
  have u2 : (uintF (u64N c.page)).length ≤ 3 := uintF_len 2 _ (by rw [u64N_of hp0 (by omega)]; show _ < 2097152; omega)
  have u3 : (uintF (u64N c.count)).length ≤ 5 := uintF_len 4 _ (by rw [u64N_of hc0 (by omega)]; show _ < 34359738368; omega)
  unfold pcF
  simp only [List.length_cons, List.length_append]
  unfold kvF
  rw [if_neg h1, List.length_append]; omega
/-- Three cells that may be fit. -/
theorem three_fit {kind : Int} {l : List PC} {P : Nat} (hP : P ≤ 65536) (hP2 : 512 ≤ P) (h16 : P % 16 = 0) (hm : ∀ c ∈ l, mayP kind P c = true) (h3 : l.length ≤ 3) : psizeF kind l ≤ P := by
  have hz : psizeF kind l = 10 + sharedF kind l + 2 * l.length + (pbodyF kind (sharedF kind l) 0 l).length := rfl
  have hok : ∀ c ∈ l, OkC P c := fun c hc => may_ok (hm c hc)
  have hrs : ∀ (j : Nat) (hj : j < l.length), ¬ (kind = 3 ∧ j = 0) → (restF kind j l[j].key (sharedF kind l)).length + sharedF kind l = l[j].key.length := fun j hj hn => by
    have := (key_split hj hn).1
    unfold restF
    rw [if_neg hn, List.length_drop]; omega
  by_cases hk : kind = 3
  · subst hk
    have hb : ∀ (j : Nat) (hj : j < l.length), (pcF 3 j l[j] (sharedF 3 l)).length ≤ 11 + P / 8 := fun j hj => pcF_le3 (hok _ (List.getElem_mem hj)) (may_branch (hm _ (List.getElem_mem hj))) hP 3
    have hs : sharedF 3 l ≤ P / 8 := by
      rcases Nat.eq_zero_or_pos (sharedF 3 l) with h | h
      · omega
      · obtain ⟨i, hi, hn⟩ := sharedF_pos h
        have h1 := (key_split hi hn).1
        have h2 := (hok _ (List.getElem_mem hi)).k0
        omega
    rw [hz]
    generalize sharedF 3 l = s at *
    match l, h3 with
    | [], _ => simp [pbodyF]; omega
    | [a], _ =>
      have h0 := hb 0 (by simp)
      simp only [List.getElem_cons_zero] at h0
      simp only [pbodyF, List.length_append, List.length_nil, List.length_cons, Nat.zero_add]; omega
    | [a, b], _ =>
      have h0 := hb 0 (by simp)
      have h1 := hb 1 (by simp)
      simp only [List.getElem_cons_zero, List.getElem_cons_succ] at h0 h1
      simp only [pbodyF, List.length_append, List.length_nil, List.length_cons, Nat.zero_add, Nat.reduceAdd]; omega
    | [a, b, c], _ =>
      have h0 := hb 0 (by simp)
      have h1 := hb 1 (by simp)
      have h2 := hb 2 (by simp)
      simp only [List.getElem_cons_zero, List.getElem_cons_succ] at h0 h1 h2
      simp only [pbodyF, List.length_append, List.length_nil, List.length_cons, Nat.zero_add, Nat.reduceAdd]; omega
  · have hb : ∀ (j : Nat) (hj : j < l.length), (pcF kind j l[j] (sharedF kind l)).length + sharedF kind l ≤ 5 + P / 8 + P / 16 * 3 := fun j hj => by
      have h1 := pcF_le (kind := kind) (i := j) (pre := sharedF kind l) (hok _ (List.getElem_mem hj)) hP hP2
      have h2 := hrs j hj (fun e => hk e.1)
      omega
    have hs0 : l = [] → sharedF kind l = 0 := fun e => by subst e; unfold sharedF keysF; simp [comLs]
    rw [hz]
    generalize sharedF kind l = s at *
    match l, h3 with
    | [], _ => have := hs0 rfl; simp [pbodyF]; omega
    | [a], _ =>
      have h0 := hb 0 (by simp)
      simp only [List.getElem_cons_zero] at h0
      simp only [pbodyF, List.length_append, List.length_nil, List.length_cons, Nat.zero_add]; omega
    | [a, b], _ =>
      have h0 := hb 0 (by simp)
      have h1 := hb 1 (by simp)
      simp only [List.getElem_cons_zero, List.getElem_cons_succ] at h0 h1
      simp only [pbodyF, List.length_append, List.length_nil, List.length_cons, Nat.zero_add, Nat.reduceAdd]; omega
    | [a, b, c], _ =>
      have h0 := hb 0 (by simp)
      have h1 := hb 1 (by simp)
      have h2 := hb 2 (by simp)
      simp only [List.getElem_cons_zero, List.getElem_cons_succ] at h0 h1 h2
      simp only [pbodyF, List.length_append, List.length_nil, List.length_cons, Nat.zero_add, Nat.reduceAdd]; omega
end Go.Proofs.YtfcnkpofcekmgaaGreat

-- packed.isSize, isKind, may: walks.
namespace Go.Proofs.YtfcnkpofcekmgaaGreat
open Go.RowKit
set_option maxRecDepth 20000 in
set_option maxHeartbeats 1000000 in
theorem KisSize_any (p : Int) (hp : -9223372036854775808 ≤ p ∧ p ≤ 9223372036854775807) (w : World) : Calls Tryz.prog 136 #[.int .i64 p] w fun e w' => e = .returned (.bool (isPowB p)) ∧ w = w' := by
  by_cases h1 : p < 512
  · have HV := Lib.hid (isPowB_out (.inl h1))
    go_enter Tryz.func136, Tryz.ntmps136
    go_wp2_with fail
    go_ret
    rw [HV.out]
    exact ⟨rfl, rfl⟩
  by_cases h2 : 65536 < p
  · have HV := Lib.hid (isPowB_out (.inr h2))
    go_enter Tryz.func136, Tryz.ntmps136
    go_wp2_with fail
    go_ret
    rw [HV.out]
    exact ⟨rfl, rfl⟩
  have hq := pow_eq p (by omega) (by omega)
  go_enter Tryz.func136, Tryz.ntmps136
  go_wp2_with fail
  go_ret
  exact ⟨rfl, rfl⟩
set_option maxRecDepth 20000 in
set_option maxHeartbeats 1000000 in
theorem KisKind_any (k : Int) (w : World) : Calls Tryz.prog 135 #[.int .i64 k] w fun e w' => e = .returned (.bool (isKindB k)) ∧ w = w' := by
  by_cases h1 : k = 2
  · subst h1
    go_enter Tryz.func135, Tryz.ntmps135
    go_wp2_with fail
    go_ret
    exact ⟨rfl, rfl⟩
  · have e1 : (k == 2) = false := beq_eq_false_iff_ne.2 h1
    by_cases h2 : k = 3
    · subst h2
      go_enter Tryz.func135, Tryz.ntmps135
      go_wp2_with fail
      go_ret
      exact ⟨rfl, rfl⟩
    · have e2 : (k == 3) = false := beq_eq_false_iff_ne.2 h2
      have HK : Hid (isKindB k = false) := by show _ = _; unfold isKindB; exact decide_eq_false (by omega)
      clear h1 h2
      go_enter Tryz.func135, Tryz.ntmps135
      go_wp2_with fail
      go_ret
      rw [HK.out]
      exact ⟨rfl, rfl⟩
set_option maxRecDepth 100000 in
set_option maxHeartbeats 4000000 in
theorem Kmay_any (x : CV) (kind : Int) (hkd : kind = 2 ∨ kind = 3) (P : Nat) (hP : P ≤ 65536) (w : World) (hx : x.ok w) : Calls Tryz.prog 140 #[.int .i64 kind, cellV x, .int .i64 (P : Int)] w fun e w' => e = .returned (.bool (mayP kind P x.c)) ∧ Below w.heap.size w w' := by
  obtain ⟨A, ca, B, cb, key, ck, val, pg, ct, rfl, hka, hvb⟩ := CV.form hx
  have hA : Below w.heap.size w (w.alloc (.cells #[.slice A key.length ca, .int .i64 ck, .slice B val.length cb, .int .i64 pg, .int .i64 ct] 43)) := (Below.refl _ _).alloc (Nat.le_refl _) _
  obtain ⟨c0, c1, c2, c3, c4⟩ := cells5 (OBlk.new' w 43 [.slice A key.length ca, .int .i64 ck, .slice B val.length cb, .int .i64 pg, .int .i64 ct])
  unfold cellV
  go_enter Tryz.func140, Tryz.ntmps140
  go_upto_region 2 with (fail)
  go_cut [9] (fun a wx => a = .bool (decide (2 ≤ pg) && decide (pg < 65536)) ∧ wx = (w.alloc (.cells #[.slice A key.length ca, .int .i64 ck, .slice B val.length cb, .int .i64 pg, .int .i64 ct] 43)))
  case first =>
    by_cases a1 : 2 ≤ pg
    · by_cases a2 : pg < 65536
      · go_wp2_with fail
        go_meet
        exact ⟨by simp [a1, a2], rfl⟩
      · go_wp2_with fail
        go_meet
        exact ⟨by simp [a1, a2], rfl⟩
    · by_cases a2 : pg < 65536
      · go_wp2_with fail
        go_meet
        exact ⟨by simp [a1, a2], rfl⟩
      · omega
  case rest =>
   obtain ⟨rfl, rfl⟩ := hcut
   go_upto_region 3 with (fail)
   go_cut [10] (fun b wx => b = .bool (decide (1 ≤ ct) && decide (ct ≤ 1073741824)) ∧ wx = (w.alloc (.cells #[.slice A key.length ca, .int .i64 ck, .slice B val.length cb, .int .i64 pg, .int .i64 ct] 43)))
   case first =>
    by_cases a3 : 1 ≤ ct
    · by_cases a4 : ct ≤ 1073741824
      · go_wp2_with fail
        go_meet
        exact ⟨by simp [a3, a4], rfl⟩
      · go_wp2_with fail
        go_meet
        exact ⟨by simp [a3, a4], rfl⟩
    · by_cases a4 : ct ≤ 1073741824
      · go_wp2_with fail
        go_meet
        exact ⟨by simp [a3, a4], rfl⟩
      · omega
   case rest =>
    obtain ⟨rfl, rfl⟩ := hcut
    have hch : decide (childP ⟨key, ck, val, pg, ct⟩) = (decide (2 ≤ pg) && decide (pg < 65536)) := by
      rw [Bool.eq_iff_iff, Bool.and_eq_true, decide_eq_true_iff, decide_eq_true_iff, decide_eq_true_iff]; exact Iff.rfl
    rcases hkd with rfl | rfl
    · have HM : Hid (mayP 2 P ⟨key, ck, val, pg, ct⟩ = (!decide (P / 8 < key.length) && (!((ck != 1) && decide (0 < val.length)) && (!(key.length == 0) && (bif ck == 1 then decide (val.length ≤ P / 16 * 3) && ((pg == 0) && (ct == 0)) else bif ck == 2 then (decide (2 ≤ pg) && decide (pg < 65536)) && (decide ((P : Int) / 16 * 3 < ct) && decide (ct ≤ 65536)) else bif ck == 4 then ((decide (2 ≤ pg) && decide (pg < 65536)) && (decide (1 ≤ ct) && decide (ct ≤ 1073741824))) || ((pg == 0) && (ct == 0)) else false))))) := by
        show _ = _
        rw [← hch]
        unfold mayP
        simp only
        by_cases h1 : P / 8 < key.length
        · simp [h1]
        by_cases h2 : key.length = 0
        · simp [h2]
        by_cases h3 : ck = 1
        · subst h3
          rw [if_neg (by omega), if_neg (by omega), if_pos rfl, show ((1 : Int) == 1) = true from rfl, cond_true]
          unfold thereP
          rw [Bool.eq_iff_iff]
          simp [h1, h2]
          constructor <;> (intro h; simp_all)
        by_cases h4 : 0 < val.length
        · rw [if_pos (by omega)]; simp [h3, h4]
        · rw [if_neg (by omega), if_neg (by omega), if_neg h3, show (ck == 1) = false from beq_eq_false_iff_ne.2 h3, cond_false]
          have hkk : key ≠ [] := fun e => h2 (by rw [e]; rfl)
          have hvv : val = [] := List.eq_nil_of_length_eq_zero (by omega)
          by_cases h5 : ck = 2
          · rw [if_pos h5, show (ck == 2) = true from beq_iff_eq.2 h5, cond_true, Bool.eq_iff_iff]
            simp [h1, hkk, hvv]
          · rw [if_neg h5, show (ck == 2) = false from beq_eq_false_iff_ne.2 h5, cond_false]
            by_cases h6 : ck = 4
            · rw [if_pos h6, show (ck == 4) = true from beq_iff_eq.2 h6, cond_true]
              unfold thereP
              rw [Bool.eq_iff_iff]
              simp [h1, hkk, hvv]
              constructor <;> (rintro (h | h) <;> simp_all)
            · rw [if_neg h6, show (ck == 4) = false from beq_eq_false_iff_ne.2 h6, cond_false]; simp
      clear hch
      generalize (decide (2 ≤ pg) && decide (pg < 65536)) = ch at *
      generalize (decide (1 ≤ ct) && decide (ct ≤ 1073741824)) = cn at *
      by_cases b1 : P / 8 < key.length
      · have b1i : ((P : Int) / 8 < (key.length : Int)) := by omega
        have b1d := Lib.hid (decide_eq_true b1)
        go_wp2_with fail
        go_ret
        refine ⟨?_, hA⟩
        rw [HM.out]
        first | (simp [b1d.out]; done) | (simp [b1d.out]; rfl)
      · have b1i : ¬ ((P : Int) / 8 < (key.length : Int)) := by omega
        have b1d := Lib.hid (decide_eq_false b1)
        by_cases k1 : ck = 1
        · subst k1
          rcases Bool.eq_false_or_eq_true (((key.length : Nat) : Int) == 0) with z0 | z0
          · have z2 : (key.length == 0) = true := by have := z0; rw [beq_iff_eq] at this ⊢; omega
            have Z2 := Lib.hid z2
            clear z2
            go_wp2_with fail
            go_ret
            refine ⟨?_, hA⟩
            rw [HM.out]
            first | (simp [b1d.out, Z2.out]; done) | (simp [b1d.out, Z2.out]; rfl)
          · have z2 : (key.length == 0) = false := by have := z0; rw [beq_eq_false_iff_ne] at this ⊢; omega
            have Z2 := Lib.hid z2
            clear z2
            by_cases v2 : val.length ≤ P / 16 * 3
            · have v2i : ((val.length : Int) ≤ (P : Int) / 16 * 3) := by omega
              have v2d := Lib.hid (decide_eq_true v2)
              by_cases p0 : pg = 0
              · subst p0
                by_cases c0 : ct = 0
                · subst c0
                  go_wp2_with fail
                  go_ret
                  refine ⟨?_, hA⟩
                  rw [HM.out]
                  first | (simp [b1d.out, Z2.out, v2d.out]; done) | (simp [b1d.out, Z2.out, v2d.out]; rfl)
                · have c0b : (ct == 0) = false := beq_eq_false_iff_ne.2 c0
                  have c0c : (ct != 0) = true := by rw [bne, c0b]; rfl
                  go_wp2_with fail
                  go_ret
                  refine ⟨?_, hA⟩
                  rw [HM.out]
                  first | (simp [b1d.out, Z2.out, v2d.out, c0b]; done) | (simp [b1d.out, Z2.out, v2d.out, c0b, c0c]; rfl)
              · have p0b : (pg == 0) = false := beq_eq_false_iff_ne.2 p0
                have p0c : (pg != 0) = true := by rw [bne, p0b]; rfl
                go_wp2_with fail
                go_ret
                refine ⟨?_, hA⟩
                rw [HM.out]
                first | (simp [b1d.out, Z2.out, v2d.out, p0b]; done) | (simp [b1d.out, Z2.out, v2d.out, p0b, p0c]; rfl)
            · have v2i : ¬ ((val.length : Int) ≤ (P : Int) / 16 * 3) := by omega
              have v2d := Lib.hid (decide_eq_false v2)
              go_wp2_with fail
              go_ret
              refine ⟨?_, hA⟩
              rw [HM.out]
              first | (simp [b1d.out, Z2.out, v2d.out]; done) | (simp [b1d.out, Z2.out, v2d.out]; rfl)
        · have k1b : (ck == 1) = false := beq_eq_false_iff_ne.2 k1
          have k1c : (ck != 1) = true := by rw [bne, k1b]; rfl
          by_cases v0 : 0 < val.length
          · have v0i : ((0 : Int) < (val.length : Int)) := by omega
            have v0d := Lib.hid (decide_eq_true v0)
            go_wp2_with fail
            go_ret
            refine ⟨?_, hA⟩
            rw [HM.out]
            first | (simp [b1d.out, k1c, v0d.out]; done) | (simp [b1d.out, k1b, k1c, v0d.out]; rfl)
          · have v0i : ¬ ((0 : Int) < (val.length : Int)) := by omega
            have v0d := Lib.hid (decide_eq_false v0)
            rcases Bool.eq_false_or_eq_true (((key.length : Nat) : Int) == 0) with z0 | z0
            · have z2 : (key.length == 0) = true := by have := z0; rw [beq_iff_eq] at this ⊢; omega
              have Z2 := Lib.hid z2
              clear z2
              go_wp2_with fail
              go_ret
              refine ⟨?_, hA⟩
              rw [HM.out]
              first | (simp [b1d.out, k1b, k1c, v0d.out, Z2.out]; done) | (simp [b1d.out, k1b, k1c, v0d.out, Z2.out]; rfl)
            · have z2 : (key.length == 0) = false := by have := z0; rw [beq_eq_false_iff_ne] at this ⊢; omega
              have Z2 := Lib.hid z2
              clear z2
              by_cases k2 : ck = 2
              · subst k2
                cases ch with
                | true =>
                  by_cases d3 : (P : Int) / 16 * 3 < ct
                  · have d3d := Lib.hid (decide_eq_true d3)
                    by_cases d4 : ct ≤ 65536
                    · have d4d := Lib.hid (decide_eq_true d4)
                      go_wp2_with fail
                      go_ret
                      refine ⟨?_, hA⟩
                      rw [HM.out]
                      first | (simp [b1d.out, k1b, k1c, v0d.out, Z2.out, d3d.out, d4d.out]; done) | (simp [b1d.out, k1b, k1c, v0d.out, Z2.out, d3d.out, d4d.out]; rfl)
                    · have d4d := Lib.hid (decide_eq_false d4)
                      go_wp2_with fail
                      go_ret
                      refine ⟨?_, hA⟩
                      rw [HM.out]
                      first | (simp [b1d.out, k1b, k1c, v0d.out, Z2.out, d3d.out, d4d.out]; done) | (simp [b1d.out, k1b, k1c, v0d.out, Z2.out, d3d.out, d4d.out]; rfl)
                  · have d3d := Lib.hid (decide_eq_false d3)
                    go_wp2_with fail
                    go_ret
                    refine ⟨?_, hA⟩
                    rw [HM.out]
                    first | (simp [b1d.out, k1b, k1c, v0d.out, Z2.out, d3d.out]; done) | (simp [b1d.out, k1b, k1c, v0d.out, Z2.out, d3d.out]; rfl)
                | false =>
                  go_wp2_with fail
                  go_ret
                  refine ⟨?_, hA⟩
                  rw [HM.out]
                  first | (simp [b1d.out, k1b, k1c, v0d.out, Z2.out]; done) | (simp [b1d.out, k1b, k1c, v0d.out, Z2.out]; rfl)
              · have k2b : (ck == 2) = false := beq_eq_false_iff_ne.2 k2
                have k2c : (ck != 2) = true := by rw [bne, k2b]; rfl
                by_cases k4 : ck = 4
                · subst k4
                  cases ch with
                  | true =>
                    cases cn with
                    | true =>
                      go_wp2_with fail
                      go_ret
                      refine ⟨?_, hA⟩
                      rw [HM.out]
                      first | (simp [b1d.out, k1b, k1c, v0d.out, Z2.out, k2b]; done) | (simp [b1d.out, k1b, k1c, v0d.out, Z2.out, k2b, k2c]; rfl)
                    | false =>
                      by_cases p0 : pg = 0
                      · subst p0
                        by_cases c0 : ct = 0
                        · subst c0
                          go_wp2_with fail
                          go_ret
                          refine ⟨?_, hA⟩
                          rw [HM.out]
                          first | (simp [b1d.out, k1b, k1c, v0d.out, Z2.out, k2b]; done) | (simp [b1d.out, k1b, k1c, v0d.out, Z2.out, k2b, k2c]; rfl)
                        · have c0b : (ct == 0) = false := beq_eq_false_iff_ne.2 c0
                          have c0c : (ct != 0) = true := by rw [bne, c0b]; rfl
                          go_wp2_with fail
                          go_ret
                          refine ⟨?_, hA⟩
                          rw [HM.out]
                          first | (simp [b1d.out, k1b, k1c, v0d.out, Z2.out, k2b, c0b]; done) | (simp [b1d.out, k1b, k1c, v0d.out, Z2.out, k2b, k2c, c0b, c0c]; rfl)
                      · have p0b : (pg == 0) = false := beq_eq_false_iff_ne.2 p0
                        have p0c : (pg != 0) = true := by rw [bne, p0b]; rfl
                        go_wp2_with fail
                        go_ret
                        refine ⟨?_, hA⟩
                        rw [HM.out]
                        first | (simp [b1d.out, k1b, k1c, v0d.out, Z2.out, k2b, p0b]; done) | (simp [b1d.out, k1b, k1c, v0d.out, Z2.out, k2b, k2c, p0b, p0c]; rfl)
                  | false =>
                    by_cases p0 : pg = 0
                    · subst p0
                      by_cases c0 : ct = 0
                      · subst c0
                        go_wp2_with fail
                        go_ret
                        refine ⟨?_, hA⟩
                        rw [HM.out]
                        first | (simp [b1d.out, k1b, k1c, v0d.out, Z2.out, k2b]; done) | (simp [b1d.out, k1b, k1c, v0d.out, Z2.out, k2b, k2c]; rfl)
                      · have c0b : (ct == 0) = false := beq_eq_false_iff_ne.2 c0
                        have c0c : (ct != 0) = true := by rw [bne, c0b]; rfl
                        go_wp2_with fail
                        go_ret
                        refine ⟨?_, hA⟩
                        rw [HM.out]
                        first | (simp [b1d.out, k1b, k1c, v0d.out, Z2.out, k2b, c0b]; done) | (simp [b1d.out, k1b, k1c, v0d.out, Z2.out, k2b, k2c, c0b, c0c]; rfl)
                    · have p0b : (pg == 0) = false := beq_eq_false_iff_ne.2 p0
                      have p0c : (pg != 0) = true := by rw [bne, p0b]; rfl
                      go_wp2_with fail
                      go_ret
                      refine ⟨?_, hA⟩
                      rw [HM.out]
                      first | (simp [b1d.out, k1b, k1c, v0d.out, Z2.out, k2b, p0b]; done) | (simp [b1d.out, k1b, k1c, v0d.out, Z2.out, k2b, k2c, p0b, p0c]; rfl)
                · have k4b : (ck == 4) = false := beq_eq_false_iff_ne.2 k4
                  have k4c : (ck != 4) = true := by rw [bne, k4b]; rfl
                  go_wp2_with fail
                  go_ret
                  refine ⟨?_, hA⟩
                  rw [HM.out]
                  first | (simp [b1d.out, k1b, k1c, v0d.out, Z2.out, k2b, k4b]; done) | (simp [b1d.out, k1b, k1c, v0d.out, Z2.out, k2b, k2c, k4b, k4c]; rfl)
    · have HM : Hid (mayP 3 P ⟨key, ck, val, pg, ct⟩ = (!decide (P / 8 < key.length) && (!((ck != 1) && decide (0 < val.length)) && ((ck == 3) && ((decide (2 ≤ pg) && decide (pg < 65536)) && (decide (1 ≤ ct) && decide (ct ≤ 1073741824))))))) := by
        show _ = _
        rw [← hch]
        unfold mayP
        simp only
        by_cases h1 : P / 8 < key.length
        · simp [h1]
        by_cases h3 : ck = 3
        · subst h3
          by_cases h4 : 0 < val.length
          · rw [if_pos (by omega)]; simp [h4]
          · rw [if_neg (by omega), if_pos trivial, Bool.eq_iff_iff]
            have hvv : val = [] := List.eq_nil_of_length_eq_zero (by omega)
            simp [h1, hvv]
        · by_cases h5 : (ck ≠ 1 ∧ 0 < val.length)
          · rw [if_pos (by omega)]; simp [h3]
          · rw [if_neg (by omega), if_pos trivial]; simp [h3]
      clear hch
      generalize (decide (2 ≤ pg) && decide (pg < 65536)) = ch at *
      generalize (decide (1 ≤ ct) && decide (ct ≤ 1073741824)) = cn at *
      by_cases b1 : P / 8 < key.length
      · have b1i : ((P : Int) / 8 < (key.length : Int)) := by omega
        have b1d := Lib.hid (decide_eq_true b1)
        go_wp2_with fail
        go_ret
        refine ⟨?_, hA⟩
        rw [HM.out]
        first | (simp [b1d.out]; done) | (simp [b1d.out]; rfl)
      · have b1i : ¬ ((P : Int) / 8 < (key.length : Int)) := by omega
        have b1d := Lib.hid (decide_eq_false b1)
        by_cases k1 : ck = 1
        · subst k1
          go_wp2_with fail
          go_ret
          refine ⟨?_, hA⟩
          rw [HM.out]
          first | (simp [b1d.out]; done) | (simp [b1d.out]; rfl)
        · have k1b : (ck == 1) = false := beq_eq_false_iff_ne.2 k1
          have k1c : (ck != 1) = true := by rw [bne, k1b]; rfl
          by_cases v0 : 0 < val.length
          · have v0i : ((0 : Int) < (val.length : Int)) := by omega
            have v0d := Lib.hid (decide_eq_true v0)
            go_wp2_with fail
            go_ret
            refine ⟨?_, hA⟩
            rw [HM.out]
            first | (simp [b1d.out, k1c, v0d.out]; done) | (simp [b1d.out, k1b, k1c, v0d.out]; rfl)
          · have v0i : ¬ ((0 : Int) < (val.length : Int)) := by omega
            have v0d := Lib.hid (decide_eq_false v0)
            by_cases k3 : ck = 3
            · subst k3
              cases ch with
              | true =>
                cases cn with
                | true =>
                  go_wp2_with fail
                  go_ret
                  refine ⟨?_, hA⟩
                  rw [HM.out]
                  first | (simp [b1d.out, k1c, v0d.out]; done) | (simp [b1d.out, k1b, k1c, v0d.out]; rfl)
                | false =>
                  go_wp2_with fail
                  go_ret
                  refine ⟨?_, hA⟩
                  rw [HM.out]
                  first | (simp [b1d.out, k1c, v0d.out]; done) | (simp [b1d.out, k1b, k1c, v0d.out]; rfl)
              | false =>
                go_wp2_with fail
                go_ret
                refine ⟨?_, hA⟩
                rw [HM.out]
                first | (simp [b1d.out, k1c, v0d.out]; done) | (simp [b1d.out, k1b, k1c, v0d.out]; rfl)
            · have k3b : (ck == 3) = false := beq_eq_false_iff_ne.2 k3
              have k3c : (ck != 3) = true := by rw [bne, k3b]; rfl
              go_wp2_with fail
              go_ret
              refine ⟨?_, hA⟩
              rw [HM.out]
              first | (simp [b1d.out, k1c, v0d.out, k3b]; done) | (simp [b1d.out, k1b, k1c, v0d.out, k3b, k3c]; rfl)
end Go.Proofs.YtfcnkpofcekmgaaGreat

-- packed.width, rest, length: walks.
namespace Go.Proofs.YtfcnkpofcekmgaaGreat
open Go.RowKit
set_option maxRecDepth 20000 in
set_option maxHeartbeats 1000000 in
theorem Width_any (n : Nat) (hn : n < 18446744073709551616) (w : World) :
    Calls Tryz.prog 178 #[.int .u64 (n : Int)] w fun e w' => e = .returned (.int .i64 ((uintF n).length : Nat)) ∧ w' = w := by
  have HL := Lib.hid (uintF_le10 hn)
  go_enter Tryz.func178, Tryz.ntmps178
  go_wp2_with fail
  go_loop [0, 3] (fun m v => ∃ (k j : Nat), m = .int .u64 (k : Int) ∧ k < 18446744073709551616 ∧ v = .int .i64 ((j : Int) + 1) ∧ j ≤ 10 ∧ Hid ((uintF n).length = j + (uintF k).length))
    (fun m _ => (intOf m).toNat)
  case atStart => exact ⟨n, 0, rfl, hn, rfl, by omega, Lib.hid (by omega)⟩
  case round =>
    obtain ⟨k, j, rfl, hk, rfl, hj, HE⟩ := hrel
    by_cases h : k < 128
    · have he : (uintF n).length = j + 1 := by rw [HE.out, uintF_lt h]; rfl
      have HE2 := Lib.hid he
      clear he HE
      go_wp2_with fail
      go_ret
      exact ⟨by rw [HE2.out]; go_num, rfl⟩
    · have he : (uintF n).length = (j + 1) + (uintF (k / 128)).length := by rw [HE.out, uintF_ge h, List.length_cons]; omega
      have hp := uintF_pos (k / 128)
      have hj2 : j + 1 ≤ 9 := by have := HL.out; omega
      have HE2 := Lib.hid he
      clear he HE hp
      go_wp2_with fail
      go_round
      case rel => exact ⟨k / 128, j + 1, by go_num, by omega, by go_num, by omega, HE2⟩
      case measure => simp [intOf]; omega
set_option maxRecDepth 20000 in
set_option maxHeartbeats 1000000 in
theorem Krest_any (kind : Int) (i : Nat) (x : CV) (pre : Nat) (w : World) (hx : x.ok w) (hp : ¬ (kind = 3 ∧ i = 0) → pre ≤ x.c.key.length) :
    Calls Tryz.prog 170 #[.int .i64 kind, .int .i64 (i : Int), cellV x, .int .i64 (pre : Int)] w fun e w' => ∃ A c, e = .returned (.slice A (restF kind i x.c.key pre).length c) ∧ RdB w (.slice A (restF kind i x.c.key pre).length c) (restF kind i x.c.key pre) ∧ Below w.heap.size w w' := by
  obtain ⟨A, ca, B, cb, key, ck, val, pg, ct, rfl, hka, hvb⟩ := CV.form hx
  have hA : Below w.heap.size w (w.alloc (.cells #[.slice A key.length ca, .int .i64 ck, .slice B val.length cb, .int .i64 pg, .int .i64 ct] 43)) := (Below.refl _ _).alloc (Nat.le_refl _) _
  obtain ⟨c0, c1, c2, c3, c4⟩ := cells5 (OBlk.new' w 43 [.slice A key.length ca, .int .i64 ck, .slice B val.length cb, .int .i64 pg, .int .i64 ct])
  have hk : RdB w (.slice A key.length ca) key := hx.k
  unfold cellV
  simp only at hp ⊢
  by_cases h : kind = 3 ∧ i = 0
  · obtain ⟨rfl, rfl⟩ := h
    have HR : Hid (restF 3 0 key pre = key) := by show _ = _; unfold restF; rw [if_pos ⟨rfl, rfl⟩]
    clear hp
    go_enter Tryz.func170, Tryz.ntmps170
    go_wp2_with fail
    go_ret
    rw [HR.out]
    exact ⟨_, _, rfl, hk, hA⟩
  · have HR : Hid (restF kind i key pre = key.drop pre) := by show _ = _; unfold restF; rw [if_neg h]
    obtain ⟨A2, c2', hrun, hrd⟩ := hk.run_l pre (hp h)
    have hp' := hp h
    have HRD := Lib.hid hrd
    have hlen : (key.drop pre).length = key.length - pre := by simp
    have HLN := Lib.hid hlen
    clear hrd hp hlen
    by_cases h3 : kind = 3
    · have e1 : (kind == 3) = true := by simp [h3]
      have e2 : ((i : Int) == 0) = false := beq_eq_false_iff_ne.2 (by omega)
      clear h3 h
      go_enter Tryz.func170, Tryz.ntmps170
      go_wp2_with fail
      go_ret
      rw [HR.out, HLN.out]
      exact ⟨_, _, rfl, HRD.out, hA⟩
    · have e1 : (kind == 3) = false := beq_eq_false_iff_ne.2 h3
      clear h3 h
      go_enter Tryz.func170, Tryz.ntmps170
      go_wp2_with fail
      go_ret
      rw [HR.out, HLN.out]
      exact ⟨_, _, rfl, HRD.out, hA⟩
theorem wrap_u64N (n : Int) : IntKind.u64.wrap n = ((u64N n : Nat) : Int) := by
  rw [IntKind.wrap_u64]; unfold u64N; omega
set_option maxRecDepth 20000 in
set_option maxHeartbeats 1000000 in
theorem Klength_any (kind : Int) (i : Nat) (x : CV) (pre : Nat) (w : World) (hx : x.ok w) (hp : ¬ (kind = 3 ∧ i = 0) → pre ≤ x.c.key.length) (hb : x.c.key.length + x.c.val.length ≤ 4611686018427387904) :
    Calls Tryz.prog 168 #[.int .i64 kind, .int .i64 (i : Int), cellV x, .int .i64 (pre : Int)] w fun e w' => e = .returned (.int .i64 ((pcF kind i x.c pre).length : Nat)) ∧ Below w.heap.size w w' := by
  have hrest := fun W hW => Krest_any kind i x pre W hW hp
  have hlr : (restF kind i x.c.key pre).length ≤ x.c.key.length := by unfold restF; split <;> simp
  have hpl : (pcF kind i x.c pre).length = 1 + (uintF (restF kind i x.c.key pre).length).length + (restF kind i x.c.key pre).length + (kvF x.c).length := by
    unfold pcF; simp only [List.length_cons, List.length_append]; omega
  obtain ⟨A, ca, B, cb, key, ck, val, pg, ct, rfl, hka, hvb⟩ := CV.form hx
  have hx' : CV.ok (w.alloc (.cells #[.slice A key.length ca, .int .i64 ck, .slice B val.length cb, .int .i64 pg, .int .i64 ct] 43)) ⟨.slice A key.length ca, .slice B val.length cb, ⟨key, ck, val, pg, ct⟩⟩ := hx.below ((Below.refl _ _).alloc (Nat.le_refl _) _)
  have hrest' := hrest _ hx'
  have hC := OBlk.new' w 43 [.slice A key.length ca, .int .i64 ck, .slice B val.length cb, .int .i64 pg, .int .i64 ct]
  have hA : Below w.heap.size w (w.alloc (.cells #[.slice A key.length ca, .int .i64 ck, .slice B val.length cb, .int .i64 pg, .int .i64 ct] 43)) := (Below.refl _ _).alloc (Nat.le_refl _) _
  unfold cellV at hrest' ⊢
  simp only at hrest' hb hlr hpl ⊢
  have hkv1 : ck = 1 → (kvF ⟨key, ck, val, pg, ct⟩).length = (uintF val.length).length + val.length := fun h => by unfold kvF; rw [if_pos h, List.length_append]
  have hkv2 : ck ≠ 1 → (kvF ⟨key, ck, val, pg, ct⟩).length = (uintF (u64N pg)).length + (uintF (u64N ct)).length := fun h => by unfold kvF; rw [if_neg h, List.length_append]
  obtain ⟨rl, hrl⟩ : ∃ rl, restF kind i key pre = rl := ⟨_, rfl⟩
  rw [hrl] at hrest' hlr hpl
  have hu1 := uintF_le10 (n := rl.length) (by omega)
  have HPL := Lib.hid hpl
  have HK1 := Lib.hid hkv1
  have HK2 := Lib.hid hkv2
  have hw1 := Width_any rl.length (by omega)
  have HW1 := Lib.hid hw1
  clear hrest hrl hpl hx hx' hkv1 hkv2 hw1
  generalize hul : (uintF rl.length).length = ul at *
  have HUL := Lib.hid hul
  clear hul
  go_enter Tryz.func168, Tryz.ntmps168
  go_upto_region 2 with (first
    | (go_at_call 170; refine hrest'.mono ?_; rintro e w1 ⟨A9, c9, rfl, hr9, hb9⟩)
    | fail)
  have hC1 := hC.below hb9 hC.lt
  have hA1 := hA.trans (hb9.mono hA.size)
  clear hC hA hr9 hb9 hrest'
  obtain ⟨c0, c1, c2, c3, c4⟩ := cells5 hC1
  go_upto_region 3 with (first
    | (go_at_call 178; refine (HW1.out _).mono ?_; rintro e w2 ⟨rfl, rfl⟩)
    | fail)
  by_cases h1 : ck = 1
  · subst h1
    have hk1 := HK1.out rfl
    have hu2 := uintF_le10 (n := val.length) (by omega)
    have hw2 := Width_any val.length (by omega)
    generalize hvl : (uintF val.length).length = vl at *
    have e1 : IntKind.i64.wrap (1 + (ul : Int) + (rl.length : Int) + (vl : Int)) = 1 + (ul : Int) + (rl.length : Int) + (vl : Int) := by rw [IntKind.wrap_i64]; omega
    have e2 : IntKind.i64.wrap (1 + (ul : Int) + (rl.length : Int) + (vl : Int) + (val.length : Int)) = 1 + (ul : Int) + (rl.length : Int) + (vl : Int) + (val.length : Int) := by rw [IntKind.wrap_i64]; omega
    have HN : Hid ((pcF kind i ⟨key, 1, val, pg, ct⟩ pre).length = 1 + ul + rl.length + vl + val.length) := Lib.hid (by rw [HPL.out, hk1]; omega)
    clear hk1
    have HW2 := Lib.hid (fun W => Width_any val.length (by omega) W)
    rw [hvl] at HW2
    clear hw2 hvl
    go_upto_region 4 with (fail)
    go_quiet ((go_at_call 178; exact Calls.quiet_of_same (HW2.out _)))
    go_wp2_with fail
    go_ret
    exact ⟨by rw [HN.out]; go_num, below_drewN hA1 _⟩
  · have e0 : (ck == 1) = false := beq_eq_false_iff_ne.2 h1
    have hk2 := HK2.out h1
    have hu2 := uintF_le10 (u64N_lt pg)
    have hu3 := uintF_le10 (u64N_lt ct)
    have HW2 := Lib.hid (fun W => Width_any (u64N pg) (u64N_lt pg) W)
    have HW3 := Lib.hid (fun W => Width_any (u64N ct) (u64N_lt ct) W)
    have q1 := wrap_u64N pg
    have q2 := wrap_u64N ct
    generalize (uintF (u64N pg)).length = vl at *
    generalize (uintF (u64N ct)).length = wl at *
    have e1 : IntKind.i64.wrap (1 + (ul : Int) + (rl.length : Int) + (vl : Int)) = 1 + (ul : Int) + (rl.length : Int) + (vl : Int) := by rw [IntKind.wrap_i64]; omega
    have e2 : IntKind.i64.wrap (1 + (ul : Int) + (rl.length : Int) + (vl : Int) + (wl : Int)) = 1 + (ul : Int) + (rl.length : Int) + (vl : Int) + (wl : Int) := by rw [IntKind.wrap_i64]; omega
    have HN : Hid ((pcF kind i ⟨key, ck, val, pg, ct⟩ pre).length = 1 + ul + rl.length + vl + wl) := Lib.hid (by rw [HPL.out, hk2]; omega)
    clear hk2 h1
    generalize u64N pg = pn at *
    generalize u64N ct = cn at *
    go_upto_region 5 with (fail)
    go_quiet ((first
      | (go_at_call 178; with_reducible exact Calls.quiet_of_same (HW2.out _))
      | (go_at_call 178; with_reducible exact Calls.quiet_of_same (HW3.out _))))
    go_wp2_with fail
    go_ret
    exact ⟨by rw [HN.out]; go_num, below_drewN hA1 _⟩
end Go.Proofs.YtfcnkpofcekmgaaGreat
