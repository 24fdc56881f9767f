/- Texts joined: Keys in order; plain.New, Open, Len, Used, Find; plain.Insert into a page that is empty, or beyond its end; plain.Insert into a page that is empty, or beyond its end; plain.Insert into a page that is empty, or beyond its end; The bulk of cells; espalierref06.SameCell, SameCells of cells that are the same.; Slices of cells; plain.Page's Insert, Set, Remove beside the document's -/
import Derived.Test.YtfcnkpofcekmgaaGreatNR2
import Derived.Test.YtfcnkpofcekmgaaGreatNR5
import Derived.Deep.RegionLaw
-- Keys in order: where one stands; a list with one more, one other, one less: plain laws.
namespace Go.Proofs.YtfcnkpofcekmgaaGreat
open Go.RowKit
/-- Where a key stands, or would stand. -/
def findF (key : List UInt8) : List PC → Nat
  | [] => 0
  | c :: r => if ordC c.key key < 0 then findF key r + 1 else 0
def isF (key : List UInt8) (l : List PC) : Bool := decide (∃ c, l[findF key l]? = some c ∧ c.key = key)
theorem findF_drop {key : List UInt8} : ∀ {l : List PC} {k : Nat}, (∀ j (_hj : j < k) (hl : j < l.length), ordC l[j].key key < 0) → k ≤ l.length → findF key l = k + findF key (l.drop k)
  | l, 0, _, _ => by simp
  | [], k + 1, _, h => by simp at h
  | c :: r, k + 1, h, hk => by
    have h0 : ordC c.key key < 0 := h 0 (by omega) (by simp)
    rw [findF, if_pos h0, List.drop_succ_cons, findF_drop (k := k) (fun j hj hl => h (j + 1) (by omega) (by simpa using hl)) (by simpa using hk)]
    omega
theorem ordC_trans : ∀ (a b c : List UInt8), ordC a b < 0 → ordC b c < 0 → ordC a c < 0
  | [], [], _, h, _ => by simp [ordC] at h
  | _ :: _, [], _, h, _ => by simp [ordC] at h
  | [], _ :: _, [], _, h => by simp [ordC] at h
  | [], _ :: _, _ :: _, _, _ => by simp [ordC]
  | _ :: _, _ :: _, [], _, h => by simp [ordC] at h
  | x :: a, y :: b, z :: c, h1, h2 => by
    unfold ordC at h1 h2 ⊢
    simp only [UInt8.lt_iff_toNat_lt] at h1 h2 ⊢
    split at h1
    · split at h2
      · rw [if_pos (by omega)]; omega
      · split at h2
        · omega
        · rw [if_pos (by omega)]; omega
    · split at h1
      · omega
      · split at h2
        · rw [if_pos (by omega)]; omega
        · split at h2
          · omega
          · rw [if_neg (by omega), if_neg (by omega)]
            exact ordC_trans a b c h1 h2
theorem bytesLess_ord : ∀ (a b : List UInt8), Op.bytesLess a b = decide (ordC a b < 0)
  | [], [] => by simp [Op.bytesLess, ordC]
  | _ :: _, [] => by simp [Op.bytesLess, ordC]
  | [], _ :: _ => by simp [Op.bytesLess, ordC]
  | x :: a, y :: b => by
    rw [Op.bytesLess, bytesLess_ord a b, ordC]
    by_cases h1 : x < y
    · simp [h1]
    · by_cases h2 : y < x
      · have : ¬ x = y := fun e => by subst e; exact h1 h2
        simp [h1, h2, this]
      · have e : x = y := by
          rw [UInt8.lt_iff_toNat_lt] at h1 h2
          exact UInt8.toNat_inj.mp (by omega)
        subst e
        simp [h1]
theorem scan_sorted {kind : Int} {P : Nat} : ∀ {l : List PC} {p : Option (List UInt8)}, scanE kind P p l = 0 → (∀ q, p = some q → ∀ c ∈ l, ordC q c.key < 0) ∧ l.Pairwise (fun a b => ordC a.key b.key < 0)
  | [], _, _ => ⟨fun _ _ c hc => (by cases hc), List.Pairwise.nil⟩
  | c :: r, p, h => by
    rw [scanE] at h
    split at h
    · cases h
    · split at h
      · cases h
      · rename_i ha
        obtain ⟨h1, h2⟩ := scan_sorted (l := r) h
        have hr := h1 c.key rfl
        refine ⟨fun q hq d hd => ?_, List.Pairwise.cons (fun d hd => hr d hd) h2⟩
        subst hq
        have hqc : ordC q c.key < 0 := by simpa [afterP] using ha
        rcases List.mem_cons.1 hd with rfl | hd
        · exact hqc
        · exact ordC_trans _ _ _ hqc (hr d hd)
def Rising (l : List PC) : Prop := l.Pairwise (fun a b => ordC a.key b.key < 0)
theorem scan_rise {kind : Int} {P : Nat} : ∀ {l : List PC} {p : Option (List UInt8)}, (∀ c ∈ l, mayP kind P c = true) → (∀ q, p = some q → ∀ c ∈ l, ordC q c.key < 0) → Rising l → scanE kind P p l = 0
  | [], _, _, _, _ => rfl
  | c :: r, p, hm, hp, hs => by
    have hs' := List.pairwise_cons.1 hs
    rw [scanE, if_neg (by rw [hm c (by simp)]; simp)]
    have ha : afterP p c.key = true := by
      cases p with
      | none => rfl
      | some q => exact decide_eq_true (hp q rfl c (by simp))
    rw [if_neg (by rw [ha]; simp)]
    exact scan_rise (fun d hd => hm d (by simp [hd])) (fun q hq d hd => by injection hq with hq; subst hq; exact hs'.1 d hd) hs'.2
/-- c in the place of so many from i on. -/
def withF (l : List PC) (i gone : Nat) (c : PC) : List PC := l.take i ++ (c :: l.drop (i + gone))
theorem Rising.at_ {l : List PC} (h : Rising l) {i j : Nat} (hij : i < j) (hj : j < l.length) : ordC (l[i]'(by omega)).key l[j].key < 0 := List.pairwise_iff_getElem.1 h i j (by omega) hj hij
theorem with_rises {l : List PC} {i gone : Nat} {c : PC} (hs : Rising l) (hi : i + gone ≤ l.length) :
    Rising (withF l i gone c) ↔ (∀ h : 0 < i, ordC (l[i - 1]'(by omega)).key c.key < 0) ∧ (∀ h : i + gone < l.length, ordC c.key l[i + gone].key < 0) := by
  constructor
  · intro h
    unfold Rising withF at h
    rw [List.pairwise_append, List.pairwise_cons] at h
    obtain ⟨-, ⟨h2, -⟩, h4⟩ := h
    refine ⟨fun h => h4 _ ?_ c (by simp), fun h => h2 _ ?_⟩
    · exact List.mem_take_iff_getElem.2 ⟨i - 1, by omega, rfl⟩
    · rw [List.drop_eq_getElem_cons h]; exact List.mem_cons_self ..
  · rintro ⟨ha, hb⟩
    have hlo : ∀ x ∈ l.take i, ordC x.key c.key < 0 := by
      intro x hx
      obtain ⟨j, hj, rfl⟩ := List.getElem_of_mem hx
      rw [List.length_take] at hj
      rw [List.getElem_take]
      by_cases e : j = i - 1
      · subst e; exact ha (by omega)
      · exact ordC_trans _ _ _ (hs.at_ (i := j) (j := i - 1) (by omega) (by omega)) (ha (by omega))
    have hhi : ∀ x ∈ l.drop (i + gone), ordC c.key x.key < 0 := by
      intro x hx
      obtain ⟨j, hj, rfl⟩ := List.getElem_of_mem hx
      rw [List.length_drop] at hj
      rw [List.getElem_drop]
      by_cases e : j = 0
      · subst e; exact hb (by omega)
      · exact ordC_trans _ _ _ (hb (by omega)) (hs.at_ (i := i + gone) (j := i + gone + j) (by omega) (by omega))
    unfold Rising withF
    rw [List.pairwise_append, List.pairwise_cons]
    refine ⟨hs.sublist (List.take_sublist _ _), ⟨hhi, hs.sublist (List.drop_sublist _ _)⟩, fun x hx y hy => ?_⟩
    rcases List.mem_cons.1 hy with rfl | hy
    · exact hlo x hx
    · exact ordC_trans _ _ _ (hlo x hx) (hhi y hy)
def leftO (l : List PC) (i : Nat) (c : PC) : Int := if h : 0 < i ∧ i - 1 < l.length then ordC (l[i - 1]'h.2).key c.key else -1
def rightO (l : List PC) (j : Nat) (c : PC) : Int := if h : j < l.length then ordC c.key l[j].key else -1
theorem leftO_zero (l : List PC) (c : PC) : leftO l 0 c = -1 := by unfold leftO; rw [dif_neg (by omega)]
theorem leftO_succ {l : List PC} {k : Nat} (c : PC) (h : k < l.length) : leftO l (k + 1) c = ordC l[k].key c.key := by unfold leftO; rw [dif_pos ⟨by omega, by omega⟩]; rfl
theorem rightO_in {l : List PC} {j : Nat} (c : PC) (h : j < l.length) : rightO l j c = ordC c.key l[j].key := by unfold rightO; rw [dif_pos h]
theorem rightO_end {l : List PC} {j : Nat} (c : PC) (h : l.length ≤ j) : rightO l j c = -1 := by unfold rightO; rw [dif_neg (by omega)]
/-- What Cell tells. -/
def cellZ (l : List PC) (i : Int) : Int := if i < 0 ∨ (l.length : Int) ≤ i then 64 else 0
def cellC (l : List PC) (i : Int) : PC := if i < 0 ∨ (l.length : Int) ≤ i then ⟨[], 0, [], 0, 0⟩ else l.getD i.toNat ⟨[], 0, [], 0, 0⟩
end Go.Proofs.YtfcnkpofcekmgaaGreat

-- plain.New, Open, Len, Used, Find: walks.
namespace Go.Proofs.YtfcnkpofcekmgaaGreat
open Go.RowKit
/-- A page that is worked on, at p. -/
structure PgAt (w : World) (p : Nat) (kind : Int) (P : Nat) (used : Int) (v : Value) (l : List CV) : Prop where
  blk : OBlk w p 144 [.int .i64 kind, .int .i64 (P : Int), .int .i64 used, v]
  rd : RdCs w v l
theorem PgAt.below {w w' : World} {p : Nat} {kind : Int} {P : Nat} {used : Int} {v : Value} {l : List CV} (h : PgAt w p kind P used v l) (hb : Below w.heap.size w w') : PgAt w' p kind P used v l :=
  ⟨h.blk.below hb h.blk.lt, h.rd.below hb⟩
theorem cells4 {w : World} {g : Nat} {T : TypeId} {a0 a1 a2 a3 : Value} (h : OBlk w g T [a0, a1, a2, a3]) :
    w.cell? ⟨g, 0, none⟩ = some a0 ∧ w.cell? ⟨g, 1, none⟩ = some a1 ∧ w.cell? ⟨g, 2, none⟩ = some a2 ∧ w.cell? ⟨g, 3, none⟩ = some a3 :=
  ⟨h.cell 0, h.cell 1, h.cell 2, h.cell 3⟩
section
variable {w : World} {p : Nat} {kind : Int} {P : Nat} {used : Int} {v : Value} {l : List CV}
set_option maxRecDepth 20000 in
theorem PLen_any (h : PgAt w p kind P used v l) : Calls Tryz.prog 203 #[.pointer (some ⟨p, 0, none⟩)] w fun e w' => e = .returned (.int .i64 (l.length : Int)) ∧ w = w' := by
  obtain ⟨A, c, rfl, hm, hc⟩ := h.rd.slice
  obtain ⟨c0, c1, c2, c3⟩ := cells4 h.blk
  go_enter Tryz.func203, Tryz.ntmps203
  go_wp2_with fail
  go_ret
  exact ⟨rfl, rfl⟩
set_option maxRecDepth 20000 in
theorem PUsed_any (h : PgAt w p kind P used v l) : Calls Tryz.prog 206 #[.pointer (some ⟨p, 0, none⟩)] w fun e w' => e = .returned (.int .i64 used) ∧ w = w' := by
  obtain ⟨A, c, rfl, hm, hc⟩ := h.rd.slice
  obtain ⟨c0, c1, c2, c3⟩ := cells4 h.blk
  go_enter Tryz.func206, Tryz.ntmps206
  go_wp2_with fail
  go_ret
  exact ⟨rfl, rfl⟩
end
set_option maxRecDepth 20000 in
set_option maxHeartbeats 1000000 in
theorem PNew_ok (kind : Int) (P : Nat) (hk : isKindB kind = true) (hp : isPowB (P : Int) = true) (w : World) : Calls Tryz.prog 70 #[.int .i64 kind, .int .i64 (P : Int)] w fun e w' =>
    ∃ p, e = .returned (.tuple #[.pointer (some ⟨p, 0, none⟩), .int .i64 0]) ∧ w.heap.size ≤ p ∧ PgAt w' p kind P 8 (.slice none 0 0) [] ∧ Below w.heap.size w w' := by
  have hr := isPowB_range hp
  have hKi := fun W => isKind_any kind W
  have hPa := fun W => isPage_any (P : Int) (by omega) W
  rw [hk] at hKi
  rw [hp] at hPa
  clear hk hp
  go_enter Tryz.func70, Tryz.ntmps70
  go_wp2_with (first | (go_at_call 126; refine (hKi _).mono ?_; rintro e w1 ⟨rfl, rfl⟩) | (go_at_call 127; refine (hPa _).mono ?_; rintro e w1 ⟨rfl, rfl⟩) | fail)
  go_ret2
  exact ⟨_, rfl, Nat.le_refl _, ⟨OBlk.new' w 144 [.int .i64 kind, .int .i64 (P : Int), .int .i64 8, .slice none 0 0], (OwCs.nil _ 0).rd⟩, (Below.refl _ _).alloc (Nat.le_refl _) _⟩
set_option maxRecDepth 100000 in
set_option maxHeartbeats 4000000 in
theorem PFind_any {w : World} {p : Nat} {kind : Int} {P : Nat} {used : Int} {v : Value} {l : List CV} (h : PgAt w p kind P used v l) (vk : Value) (key : List UInt8) (hk : RdB w vk key) :
    Calls Tryz.prog 200 #[.pointer (some ⟨p, 0, none⟩), vk] w fun e w' => e = .returned (.tuple #[.int .i64 (findF key (pcs l) : Nat), .bool (isF key (pcs l))]) ∧ Below w.heap.size w w' := by
  obtain ⟨A, c, rfl, hm, hc⟩ := h.rd.slice
  obtain ⟨K, kc, rfl, hkm⟩ := hk.form
  obtain ⟨c0, c1, c2, c3⟩ := cells4 h.blk
  have hl := h.rd
  have hpl := h.blk.lt
  have hblk := h.blk
  go_enter Tryz.func200, Tryz.ntmps200
  go_wp2_with fail
  clear c0 c1 c2 c3
  go_loopw [14] (fun i wr => ∃ k : Nat, k ≤ l.length ∧ i = .int .i64 (k : Int) ∧ Hid (∀ j (hj : j < k) (hjl : j < (pcs l).length), ordC (pcs l)[j].key key < 0) ∧ Below w.heap.size w wr) (fun i _ => l.length - (intOf i).toNat)
  case atStart => exact ⟨0, Nat.zero_le _, rfl, Lib.hid (fun j hj => by omega), Below.refl _ _⟩
  case round =>
    obtain ⟨k, hk', rfl, HJ, hB⟩ := hrel
    have hfd : findF key (pcs l) = k + findF key ((pcs l).drop k) := findF_drop HJ.out (by rw [pcs_length]; exact hk')
    by_cases hlt : k < l.length
    · have ik : (k : Int) < (l.length : Int) := by omega
      have hlp : k < (pcs l).length := by rw [pcs_length]; exact hlt
      have hJ2 : ∀ c, (pcs l)[k] = c → Hid (ordC c.key key < 0 → ∀ j (hj : j < k + 1) (hjl : j < (pcs l).length), ordC (pcs l)[j].key key < 0) := fun c hc => Lib.hid (fun ho j hj hjl => by
        by_cases e : j = k
        · subst e; rw [hc]; exact ho
        · exact HJ.out j (by omega) hjl)
      have hF2 : ∀ c, (pcs l)[k] = c → Hid (¬ ordC c.key key < 0 → findF key (pcs l) = k ∧ isF key (pcs l) = decide (ordC c.key key = 0)) := fun c hc => Lib.hid (fun ho => by
        have e : findF key (pcs l) = k := by
          rw [hfd, List.drop_eq_getElem_cons hlp, findF, hc, if_neg ho]; rfl
        refine ⟨e, ?_⟩
        unfold isF
        rw [e]
        refine decide_eq_decide.2 ⟨fun ⟨d, hd, hdk⟩ => ?_, fun h0 => ⟨c, by rw [List.getElem?_eq_getElem hlp, hc], ordC_eq _ _ h0⟩⟩
        rw [List.getElem?_eq_getElem hlp, hc] at hd
        injection hd with hd
        subst hd
        rw [hdk]; exact ordC_self _)
      have hJ2 := hJ2 _ (pcs_at hlt)
      have hF2 := hF2 _ (pcs_at hlt)
      have hlr := hl.below hB
      obtain ⟨ad, rfl, c0, c1, c2, c3, c4⟩ := hlr.at_ hlt
      have hx := hlr.ok _ (List.getElem_mem hlt)
      generalize l[k] = x at *
      obtain ⟨A1, a1, B1, b1, kk, ck, val, pg, ct, rfl, _, _⟩ := CV.form hx
      have hA0 : Below wr.heap.size wr (wr.alloc (.cells #[.slice A1 kk.length a1, .int .i64 ck, .slice B1 val.length b1, .int .i64 pg, .int .i64 ct] 43)) := (Below.refl wr.heap.size wr).alloc (Nat.le_refl _) _
      have hA := hB.trans (hA0.mono hB.size)
      have hcmp := Compare_any _ _ _ _ _ (hx.k.below hA0 (Nat.le_refl _)) (hk.below hA (Nat.le_refl _))
      have hJ3 : Hid (ordC kk key < 0 → ∀ j (hj : j < k + 1) (hjl : j < (pcs l).length), ordC (pcs l)[j].key key < 0) := hJ2
      have hF3 : Hid (¬ ordC kk key < 0 → findF key (pcs l) = k ∧ isF key (pcs l) = decide (ordC kk key = 0)) := hF2
      clear hJ2 hF2 hlr hx hB hfd HJ
      simp only at hcmp
      generalize ordC kk key = oc at *
      go_wp2_with fail
      refine hcmp.mono ?_
      rintro e w2 ⟨rfl, rfl⟩
      by_cases ho : oc < 0
      · have i1 : ¬ (0 : Int) ≤ oc := by omega
        have HJ4 := Lib.hid (hJ3.out (by omega))
        clear hJ3 hF3 ho
        go_wp2_with fail
        go_roundw
        case rel => exact ⟨k + 1, by omega, by go_num, HJ4, hA⟩
        case measure => simp [intOf]; omega
      · have i1 : (0 : Int) ≤ oc := by omega
        have HF4 := Lib.hid (hF3.out (by omega))
        clear hJ3 hF3 ho
        go_wp2_with fail
        go_ret2
        rw [HF4.out.1, HF4.out.2]
        refine ⟨?_, hA⟩
        congr 1
    · obtain rfl : k = l.length := by omega
      have hf : findF key (pcs l) = l.length ∧ isF key (pcs l) = false := by
        have e : findF key (pcs l) = l.length := by
          rw [hfd, List.drop_of_length_le (by rw [pcs_length]; omega)]; rfl
        refine ⟨e, ?_⟩
        unfold isF
        rw [e]
        refine decide_eq_false fun ⟨d, hd, _⟩ => ?_
        rw [List.getElem?_eq_none (by rw [pcs_length]; omega)] at hd
        cases hd
      have HF := Lib.hid hf
      obtain ⟨c0, c1, c2, c3⟩ := cells4 (hblk.below hB hpl)
      clear hf hfd HJ
      go_wp2_with fail
      go_ret2
      rw [HF.out.1, HF.out.2]
      exact ⟨rfl, hB⟩
end Go.Proofs.YtfcnkpofcekmgaaGreat

-- plain.Insert into a page that is empty, or beyond its end: walks.
namespace Go.Proofs.YtfcnkpofcekmgaaGreat
open Go.RowKit
set_option maxRecDepth 100000 in
set_option maxHeartbeats 4000000 in
theorem own_any (x : CV) (w : World) (hx : x.ok w) (h1 : x.c.key.length ≤ 140737488355328) (h2 : x.c.val.length ≤ 140737488355328) :
    Calls Tryz.prog 207 #[cellV x] w fun e w' => ∃ y : CV, e = .returned (cellV y) ∧ y.c = x.c ∧ OwB w' w.heap.size y.kv x.c.key ∧ OwB w' w.heap.size y.vv x.c.val ∧ (∀ g g', y.kv.ownBlock = some g → y.vv.ownBlock = some g' → g < g') ∧ Below w.heap.size w w' := by
  obtain ⟨A, ca, B, cb, key, ck, val, pg, ct, rfl, hk1, hk2⟩ := CV.form hx
  simp only at h1 h2
  have hkr : RdB w (.slice A key.length ca) key := hx.k
  have hvr : RdB w (.slice B val.length cb) val := hx.v
  have hC0 := OBlk.new' w 43 [.slice A key.length ca, .int .i64 ck, .slice B val.length cb, .int .i64 pg, .int .i64 ct]
  have hC := hC0.alloc (.cells #[.slice none 0 0, .int .i64 0, .slice none 0 0, .int .i64 0, .int .i64 0] 43)
  have hR := OBlk.new' (w.alloc (.cells #[.slice A key.length ca, .int .i64 ck, .slice B val.length cb, .int .i64 pg, .int .i64 ct] 43)) 43 [.slice none 0 0, .int .i64 0, .slice none 0 0, .int .i64 0, .int .i64 0]
  rw [World.size_alloc] at hR
  have hA := (((Below.refl w.heap.size w).alloc (Nat.le_refl _) (.cells #[.slice A key.length ca, .int .i64 ck, .slice B val.length cb, .int .i64 pg, .int .i64 ct] 43))).alloc (by simp) (.cells #[.slice none 0 0, .int .i64 0, .slice none 0 0, .int .i64 0, .int .i64 0] 43)
  unfold cellV
  go_enter Tryz.func207, Tryz.ntmps207
  go_upto_region 1 with (fail)
  have hkr0 := hkr.below hA (Nat.le_refl _)
  have hvr0 := hvr.below hA (Nat.le_refl _)
  generalize (w.alloc (.cells #[.slice A key.length ca, .int .i64 ck, .slice B val.length cb, .int .i64 pg, .int .i64 ct] 43)).alloc (.cells #[.slice none 0 0, .int .i64 0, .slice none 0 0, .int .i64 0, .int .i64 0] 43) = w0 at *
  obtain ⟨c0, c1, c2, c3, c4⟩ := cells5 hC
  have f0 := hC.frozen (j := 0) (by simp)
  have f2 := hC.frozen (j := 2) (by simp)
  have hcl := hC.lt
  have hrl := hR.lt
  go_region_law
    (first
      | (go_simp; go_at_call 211; refine (CloneB_any _ key _ hkr0.drew h1).mono ?_; rintro e w4 ⟨vd, rfl, hod, hw4⟩; obtain ⟨K2, kc2, rfl⟩ := Own.slice hod; have hC4 := hC.drew.below hw4 hcl; have d2 := hC4.cell' (j := 2) (u := .slice B val.length cb) rfl; have d0 := hC4.cell' (j := 0) (u := .slice A key.length ca) rfl; have hvr4 := hvr0.drew.below hw4 (Nat.le_refl _))
      | (go_simp; go_at_call 211; refine (CloneB_any _ val _ hvr4 h2).mono ?_; rintro e w5 ⟨ve, rfl, hoe, hw5⟩; obtain ⟨V2, vc2, rfl⟩ := Own.slice hoe; have hC5 := hC4.below hw5 hC4.lt; have e2 := hC5.cell' (j := 2) (u := .slice B val.length cb) rfl; have e0 := hC5.cell' (j := 0) (u := .slice A key.length ca) rfl; have g2 := hC5.frozen (j := 2) (by simp); have g0 := hC5.frozen (j := 0) (by simp))
      | fail)
  all_goals
    have hz0 : w.heap.size + 1 < w0.heap.size := hrl
    have hz4 : w0.heap.size ≤ w4.heap.size := hw4.size
    have hC6 := (hC5.set 0 (.slice K2 key.length kc2)).set 2 (.slice V2 val.length vc2)
    simp only [List.set_cons_succ, List.set_cons_zero] at hC6
    have hR5 := (hR.drew.below hw4 hrl).below hw5 (by omega)
    have hR6 := (hR5.far (p := ⟨w.heap.size, 0, none⟩) (show w.heap.size + 1 ≠ w.heap.size by omega) (.slice K2 key.length kc2)).far (p := ⟨w.heap.size, 2, none⟩) (show w.heap.size + 1 ≠ w.heap.size by omega) (.slice V2 val.length vc2)
    have hb5 : Below w.heap.size w w5 := (hA.drew.trans (hw4.mono hA.size)).trans (hw5.mono (by have := hA.size; omega))
    have hb6 := (hb5.setCell (p := ⟨w.heap.size, 0, none⟩) (Nat.le_refl _) (.slice K2 key.length kc2)).setCell (p := ⟨w.heap.size, 2, none⟩) (Nat.le_refl _) (.slice V2 val.length vc2)
    have hod5 := Own.below' hod hw5 (Nat.le_refl _)
    have hgk : ∀ k, Value.ownBlock (.slice K2 key.length kc2) = some k → w.heap.size + 1 < k ∧ k < w4.heap.size := fun k hk => ⟨Nat.lt_of_lt_of_le hz0 (Own.lt hod k hk).1, (Own.lt hod k hk).2⟩
    have hgv : ∀ k, Value.ownBlock (.slice V2 val.length vc2) = some k → w4.heap.size ≤ k := fun k hk => (Own.lt hoe k hk).1
    have hod6 : OwB ((w5.setCell ⟨w.heap.size, 0, none⟩ (.slice K2 key.length kc2)).setCell ⟨w.heap.size, 2, none⟩ (.slice V2 val.length vc2)) w.heap.size (.slice K2 key.length kc2) key := Own.heap (OwB.base_le hod5 (b := w.heap.size) fun k hk => by have := (hgk k hk).1; omega) fun k hk => by
      have := (hgk k hk).1
      rw [Below.heap_setCell _ _ _ _ (show k ≠ w.heap.size by omega), Below.heap_setCell _ _ _ _ (show k ≠ w.heap.size by omega)]
    have hoe6 : OwB ((w5.setCell ⟨w.heap.size, 0, none⟩ (.slice K2 key.length kc2)).setCell ⟨w.heap.size, 2, none⟩ (.slice V2 val.length vc2)) w.heap.size (.slice V2 val.length vc2) val := Own.heap (OwB.base_le hoe (b := w.heap.size) fun k hk => by have := hgv k hk; omega) fun k hk => by
      have := hgv k hk
      rw [Below.heap_setCell _ _ _ _ (show k ≠ w.heap.size by omega), Below.heap_setCell _ _ _ _ (show k ≠ w.heap.size by omega)]
    generalize (w5.setCell ⟨w.heap.size, 0, none⟩ (.slice K2 key.length kc2)).setCell ⟨w.heap.size, 2, none⟩ (.slice V2 val.length vc2) = w6 at *
    clear c0 c1 c2 c3 c4 f0 f2 d0 d2 e0 e2 g0 g2 hC hC4 hC5 hR hR5 hb5 hod5
    obtain ⟨y0, y1, y2, y3, y4⟩ := cells5 hC6
    obtain ⟨r0, r1, r2, r3, r4⟩ := cells5 hR6
    have f0 := hR6.frozen (j := 0) (by simp); have f1 := hR6.frozen (j := 1) (by simp); have f2 := hR6.frozen (j := 2) (by simp); have f3 := hR6.frozen (j := 3) (by simp); have f4 := hR6.frozen (j := 4) (by simp)
    have H1 := Lib.hid hgk
    have H2 := Lib.hid hgv
    clear hgk hgv
    go_wp2_with fail
    obtain ⟨e0, e1, e2, e3, e4⟩ := cells5 (set5 hR6 (.slice K2 key.length kc2) (.int .i64 ck) (.slice V2 val.length vc2) (.int .i64 pg) (.int .i64 ct))
    refine bodyPost_ret (v := .agg #[(.slice K2 key.length kc2), .int .i64 ck, (.slice V2 val.length vc2), .int .i64 pg, .int .i64 ct]) ?_ rfl ?_
    · simp [results, Tryz.results207, go_sem, e0, e1, e2, e3, e4]
    · exact ⟨⟨(.slice K2 key.length kc2), (.slice V2 val.length vc2), ⟨key, ck, val, pg, ct⟩⟩, rfl, rfl, ow5 hod6 (fun k hk => by have := (H1.out k hk).1; omega) _ _ _ _ _, ow5 hoe6 (fun k hk => by have := H2.out k hk; omega) _ _ _ _ _, fun g g' e e' => by have := (H1.out g e).2; have := H2.out g' e'; omega, below5 hb6 (by omega) _ _ _ _ _⟩
end Go.Proofs.YtfcnkpofcekmgaaGreat

-- plain.Insert into a page that is empty, or beyond its end: walks.
namespace Go.Proofs.YtfcnkpofcekmgaaGreat
open Go.RowKit
end Go.Proofs.YtfcnkpofcekmgaaGreat

-- plain.Insert into a page that is empty, or beyond its end: the walk.
namespace Go.Proofs.YtfcnkpofcekmgaaGreat
open Go.RowKit
end Go.Proofs.YtfcnkpofcekmgaaGreat

-- The bulk of cells; espalierref06.SameCell, SameCells of cells that are the same.
namespace Go.Proofs.YtfcnkpofcekmgaaGreat
open Go.RowKit
set_option maxRecDepth 100000 in
set_option maxHeartbeats 4000000 in
theorem SameCell_eq (x y : CV) (w : World) (hx : x.ok w) (hy : y.ok w) (h : y.c = x.c) : Calls Tryz.prog 19 #[cellV x, cellV y] w fun e w' => e = .returned (.bool true) ∧ Below w.heap.size w w' := by
  obtain ⟨kv, vv, c⟩ := y
  simp only at h
  subst h
  obtain ⟨A, ca, B, cb, key, ck, val, pg, ct, rfl, _, _⟩ := CV.form hx
  obtain ⟨A', ca', hk', _⟩ := hy.k.form
  obtain ⟨B', cb', hv', _⟩ := hy.v.form
  simp only at hk' hv'
  subst hk' hv'
  have hkx : RdB w (.slice A key.length ca) key := hx.k
  have hvx : RdB w (.slice B val.length cb) val := hx.v
  have hky : RdB w (.slice A' key.length ca') key := hy.k
  have hvy : RdB w (.slice B' val.length cb') val := hy.v
  have hA := (((Below.refl w.heap.size w).alloc (Nat.le_refl _) (.cells #[.slice A key.length ca, .int .i64 ck, .slice B val.length cb, .int .i64 pg, .int .i64 ct] 43))).alloc (by simp) (.cells #[.slice A' key.length ca', .int .i64 ck, .slice B' val.length cb', .int .i64 pg, .int .i64 ct] 43)
  have hX := (OBlk.new' w 43 [.slice A key.length ca, .int .i64 ck, .slice B val.length cb, .int .i64 pg, .int .i64 ct]).alloc (.cells #[.slice A' key.length ca', .int .i64 ck, .slice B' val.length cb', .int .i64 pg, .int .i64 ct] 43)
  have hY := OBlk.new' (w.alloc (.cells #[.slice A key.length ca, .int .i64 ck, .slice B val.length cb, .int .i64 pg, .int .i64 ct] 43)) 43 [.slice A' key.length ca', .int .i64 ck, .slice B' val.length cb', .int .i64 pg, .int .i64 ct]
  rw [World.size_alloc] at hY
  obtain ⟨x0, x1, x2, x3, x4⟩ := cells5 hX
  obtain ⟨y0, y1, y2, y3, y4⟩ := cells5 hY
  have q1 := run_B_string (hkx.below hA (Nat.le_refl _))
  have q2 := run_B_string (hvx.below hA (Nat.le_refl _))
  have q3 := run_B_string (hky.below hA (Nat.le_refl _))
  have q4 := run_B_string (hvy.below hA (Nat.le_refl _))
  unfold cellV
  go_enter Tryz.func19, Tryz.ntmps19
  go_wp2_with fail
  go_ret
  exact ⟨rfl, hA⟩
set_option maxRecDepth 100000 in
set_option maxHeartbeats 4000000 in
theorem SameCells_eq (u v : Value) (a b : List CV) (w : World) (ha : RdCs w u a) (hb : RdCs w v b) (h : pcs a = pcs b) : Calls Tryz.prog 20 #[u, v] w fun e w' => e = .returned (.bool true) ∧ Below w.heap.size w w' := by
  have hlen : a.length = b.length := by rw [← pcs_length a, h, pcs_length]
  have hcc : ∀ i (h1 : i < a.length) (h2 : i < b.length), b[i].c = a[i].c := fun i h1 h2 => by
    rw [← pcs_at h1, ← pcs_at h2]
    simp only [h]
  have HC := Lib.hid hcc
  obtain ⟨A, ca, rfl, hma, hca⟩ := ha.slice
  obtain ⟨B, cb, rfl, hmb, hcb⟩ := hb.slice
  have hne : (((a.length : Nat) : Int) != ((b.length : Nat) : Int)) = false := by rw [hlen]; simp
  have HLN := Lib.hid hlen
  clear hcc hlen h
  go_enter Tryz.func20, Tryz.ntmps20
  go_wp2_with fail
  go_loopw [5] (fun i wr => ∃ k : Nat, k ≤ a.length ∧ i = .int .i64 (k : Int) ∧ Below w.heap.size w wr) (fun i _ => a.length - (intOf i).toNat)
  case atStart => exact ⟨0, Nat.zero_le _, rfl, Below.refl _ _⟩
  case round =>
    obtain ⟨k, hk, rfl, hB⟩ := hrel
    by_cases hlt : k < a.length
    · have ik : (k : Int) < (a.length : Int) := by omega
      have hltb : k < b.length := by rw [← HLN.out]; exact hlt
      have ikb : (k : Int) < (b.length : Int) := by omega
      obtain ⟨ad, rfl, c0, c1, c2, c3, c4⟩ := (ha.below hB).at_ hlt
      obtain ⟨bd, rfl, d0, d1, d2, d3, d4⟩ := (hb.below hB).at_ hltb
      have hx := (ha.below hB).ok _ (List.getElem_mem hlt)
      have hy := (hb.below hB).ok _ (List.getElem_mem hltb)
      have hsc := fun W (hW : Below wr.heap.size wr W) => SameCell_eq a[k] b[k] W (hx.below hW) (hy.below hW) (HC.out k hlt hltb)
      generalize a[k] = x at *
      generalize b[k] = y at *
      obtain ⟨A1, a1, B1, b1, key, ck, val, pg, ct, rfl, _, _⟩ := CV.form hx
      obtain ⟨A2, a2, B2, b2, key2, ck2, val2, pg2, ct2, rfl, _, _⟩ := CV.form hy
      unfold cellV at hsc
      have HS := Lib.hid hsc
      clear hsc hx hy
      go_upto_region 6 with (fail)
      go_region_held3 (fun w' => w'.cell? (ad.add (k * 5)) = some (.slice A1 key.length a1) ∧ w'.cell? ⟨(ad.add (k * 5)).block, (ad.add (k * 5)).off + 1, none⟩ = some (.int .i64 ck) ∧ w'.cell? ⟨(ad.add (k * 5)).block, (ad.add (k * 5)).off + 2, none⟩ = some (.slice B1 val.length b1) ∧ w'.cell? ⟨(ad.add (k * 5)).block, (ad.add (k * 5)).off + 3, none⟩ = some (.int .i64 pg) ∧ w'.cell? ⟨(ad.add (k * 5)).block, (ad.add (k * 5)).off + 4, none⟩ = some (.int .i64 ct) ∧
          w'.cell? (bd.add (k * 5)) = some (.slice A2 key2.length a2) ∧ w'.cell? ⟨(bd.add (k * 5)).block, (bd.add (k * 5)).off + 1, none⟩ = some (.int .i64 ck2) ∧ w'.cell? ⟨(bd.add (k * 5)).block, (bd.add (k * 5)).off + 2, none⟩ = some (.slice B2 val2.length b2) ∧ w'.cell? ⟨(bd.add (k * 5)).block, (bd.add (k * 5)).off + 3, none⟩ = some (.int .i64 pg2) ∧ w'.cell? ⟨(bd.add (k * 5)).block, (bd.add (k * 5)).off + 4, none⟩ = some (.int .i64 ct2))
        (first
          | exact ⟨c0, c1, c2, c3, c4, d0, d1, d2, d3, d4⟩
          | exact ⟨(hw7.cell (World.block_lt_of_cell? wr _ c0)).trans c0, (hw7.cell (World.block_lt_of_cell? wr _ c1)).trans c1, (hw7.cell (World.block_lt_of_cell? wr _ c2)).trans c2, (hw7.cell (World.block_lt_of_cell? wr _ c3)).trans c3, (hw7.cell (World.block_lt_of_cell? wr _ c4)).trans c4, (hw7.cell (World.block_lt_of_cell? wr _ d0)).trans d0, (hw7.cell (World.block_lt_of_cell? wr _ d1)).trans d1, (hw7.cell (World.block_lt_of_cell? wr _ d2)).trans d2, (hw7.cell (World.block_lt_of_cell? wr _ d3)).trans d3, (hw7.cell (World.block_lt_of_cell? wr _ d4)).trans d4⟩)
        (first
          | (go_at_call 19; refine (HS.out _ ((Below.refl _ _).drew)).mono ?_; rintro e w7 ⟨rfl, hw7⟩)
          | fail)
      go_wp2_with fail
      exact ⟨⟨k + 1, by omega, by go_num, hB.trans (((Below.refl wr.heap.size wr).drew.trans hw7).mono hB.size)⟩, by simp [intOf]; omega⟩
    · obtain rfl : k = a.length := by omega
      go_wp2_with fail
      go_ret
      exact ⟨rfl, hB⟩
end Go.Proofs.YtfcnkpofcekmgaaGreat

-- Slices of cells: pieces of them, append of pieces.
namespace Go.Proofs.YtfcnkpofcekmgaaGreat
open Go.RowKit
/-! ### a key's place among rising ones -/
end Go.Proofs.YtfcnkpofcekmgaaGreat

-- plain.Page's Insert, Set, Remove beside the document's: plain laws.
namespace Go.Proofs.YtfcnkpofcekmgaaGreat
theorem with_ins_size (l : List PC) {i : Nat} (c : PC) (hi : i ≤ l.length) : sizeF (withF l i 0 c) = sizeF l + (2 + longF c) := by
  have e : longsF l = longsF (l.take i) + longsF (l.drop i) := by rw [← longsF_append, List.take_append_drop]
  unfold withF
  rw [sizeF_eq, sizeF_eq, longsF_append]
  simp only [longsF, List.length_append, List.length_cons, List.length_take, List.length_drop, Nat.add_zero]
  omega
/-- A page that is worked on. -/
structure Wk (kind : Int) (P : Nat) (l : List PC) : Prop where
  rise : Rising l
  may : ∀ c ∈ l, mayP kind P c = true
  size : sizeF l ≤ P
theorem Wk.enc {kind : Int} {P : Nat} {l : List PC} (h : Wk kind P l) : encE kind l P = 0 := encE_zero.2 ⟨scan_rise h.may (by simp) h.rise, h.size⟩
/-- What Insert (gone 0) and Set (gone 1) tell, at a place that is there. -/
def putE (kind : Int) (P : Nat) (l : List PC) (i gone : Nat) (c : PC) : Int :=
  if mayP kind P c = false then 62
  else if 0 ≤ leftO l i c ∨ 0 ≤ rightO l (i + gone) c then 63
  else if P < sizeF (withF l i gone c) then 61 else 0
theorem Wk.put {kind : Int} {P : Nat} {l : List PC} (h : Wk kind P l) {i gone : Nat} {c : PC} (hi : i + gone ≤ l.length) (h0 : putE kind P l i gone c = 0) : Wk kind P (withF l i gone c) := by
  unfold putE at h0
  split at h0
  · cases h0
  · rename_i hm
    split at h0
    · cases h0
    · rename_i ho
      split at h0
      · cases h0
      · rename_i hz
        refine ⟨(with_rises h.rise hi).2 ⟨fun h1 => ?_, fun h1 => ?_⟩, fun d hd => ?_, by omega⟩
        · have : ¬ _ := fun e => ho (.inl e)
          unfold leftO at this
          rw [dif_pos ⟨h1, by omega⟩] at this
          omega
        · have : ¬ _ := fun e => ho (.inr e)
          unfold rightO at this
          rw [dif_pos h1] at this
          omega
        · unfold withF at hd
          rcases List.mem_append.1 hd with hd | hd
          · exact h.may d (List.mem_of_mem_take hd)
          · rcases List.mem_cons.1 hd with rfl | hd
            · simpa using hm
            · exact h.may d (List.mem_of_mem_drop hd)
/-- What Insert and Set tell and leave, at any place. -/
def insZ (kind : Int) (P : Nat) (l : List PC) (i : Int) (gone : Nat) (c : PC) : Int := if i < 0 ∨ (l.length : Int) - gone < i then 64 else putE kind P l i.toNat gone c
def insL (kind : Int) (P : Nat) (l : List PC) (i : Int) (gone : Nat) (c : PC) : List PC := if insZ kind P l i gone c = 0 then withF l i.toNat gone c else l
theorem insL_ne {kind : Int} {P : Nat} {l : List PC} {i : Int} {gone : Nat} {c : PC} (h : insZ kind P l i gone c ≠ 0) : insL kind P l i gone c = l := if_neg h
theorem insL_eq {kind : Int} {P : Nat} {l : List PC} {i : Int} {gone : Nat} {c : PC} (h : insZ kind P l i gone c = 0) : insL kind P l i gone c = withF l i.toNat gone c := if_pos h
theorem insZ_out {kind : Int} {P : Nat} {l : List PC} {i : Int} {gone : Nat} {c : PC} (h : i < 0 ∨ (l.length : Int) - gone < i) : insZ kind P l i gone c = 64 := if_pos h
theorem insZ_in {kind : Int} {P : Nat} {l : List PC} {i gone : Nat} {c : PC} (h : i + gone ≤ l.length) : insZ kind P l (i : Int) gone c = putE kind P l i gone c := by
  unfold insZ
  rw [if_neg (by omega)]; rfl
theorem putE_zero_may {kind : Int} {P : Nat} {l : List PC} {i gone : Nat} {c : PC} (h : putE kind P l i gone c = 0) : mayP kind P c = true := by
  unfold putE at h
  split at h
  · cases h
  · rename_i hm; simpa using hm
theorem putE_ins {kind : Int} {P : Nat} {l : List PC} {i : Nat} {c : PC} (hi : i ≤ l.length) : putE kind P l i 0 c = if mayP kind P c = false then 62 else if 0 ≤ leftO l i c ∨ 0 ≤ rightO l i c then 63 else if (P : Int) < (sizeF l : Nat) - 0 + 2 + (longF c : Int) then 61 else 0 := by
  unfold putE
  rw [with_ins_size l c hi]
  simp only [Nat.add_zero]
  congr 2
  congr 1
  exact propext ⟨fun h => by omega, fun h => by omega⟩
theorem Wk.ins {kind : Int} {P : Nat} {l : List PC} (h : Wk kind P l) (i : Int) (gone : Nat) (c : PC) : Wk kind P (insL kind P l i gone c) := by
  by_cases hz : insZ kind P l i gone c = 0
  · rw [insL_eq hz]
    have hin : ¬ (i < 0 ∨ (l.length : Int) - gone < i) := fun e => by rw [insZ_out e] at hz; cases hz
    unfold insZ at hz
    rw [if_neg hin] at hz
    exact h.put (by omega) hz
  · rw [insL_ne hz]; exact h
theorem Wk.len {kind : Int} {P : Nat} {l : List PC} (h : Wk kind P l) (hP : P ≤ 65536) : l.length ≤ 32768 := by
  have := h.size
  rw [sizeF_eq] at this
  omega
end Go.Proofs.YtfcnkpofcekmgaaGreat
