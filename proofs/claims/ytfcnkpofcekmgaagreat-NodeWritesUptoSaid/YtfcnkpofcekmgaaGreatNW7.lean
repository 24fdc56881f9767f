/- Texts joined: Keys in order; plain.New, Open, Len, Used, Find; Owned cells, in words of pieces.; A region that draws its order, whose head only reads and calls quietly, and whos; plain.Insert into a page that is empty, or beyond its end; plain.Insert into a page that is empty, or beyond its end -/
import Derived.Test.YtfcnkpofcekmgaaGreatNW2
import Derived.Test.YtfcnkpofcekmgaaGreatNW3
import Derived.Test.YtfcnkpofcekmgaaGreatNW6
import Derived.StillTail
import Derived.Deep.Quiet
import Derived.Deep.RegionLaw
-- Keys in order: where one stands; a list with one more, one other, one less: plain laws.
namespace Go.Proofs.YtfcnkpofcekmgaaGreat
open Go.RowKit
/-- Where a key stands, or would stand. -/
def findF (key : List UInt8) : List PC → Nat
  | [] => 0
  | c :: r => if ordC c.key key < 0 then findF key r + 1 else 0
def isF (key : List UInt8) (l : List PC) : Bool := decide (∃ c, l[findF key l]? = some c ∧ c.key = key)
theorem findF_drop {key : List UInt8} : ∀ {l : List PC} {k : Nat}, (∀ j (_hj : j < k) (hl : j < l.length), ordC l[j].key key < 0) → k ≤ l.length → findF key l = k + findF key (l.drop k)
  | l, 0, _, _ => by simp
  | [], k + 1, _, h => by simp at h
  | c :: r, k + 1, h, hk => by
    have h0 : ordC c.key key < 0 := h 0 (by omega) (by simp)
    rw [findF, if_pos h0, List.drop_succ_cons, findF_drop (k := k) (fun j hj hl => h (j + 1) (by omega) (by simpa using hl)) (by simpa using hk)]
    omega
theorem ordC_trans : ∀ (a b c : List UInt8), ordC a b < 0 → ordC b c < 0 → ordC a c < 0
  | [], [], _, h, _ => by simp [ordC] at h
  | _ :: _, [], _, h, _ => by simp [ordC] at h
  | [], _ :: _, [], _, h => by simp [ordC] at h
  | [], _ :: _, _ :: _, _, _ => by simp [ordC]
  | _ :: _, _ :: _, [], _, h => by simp [ordC] at h
  | x :: a, y :: b, z :: c, h1, h2 => by
    unfold ordC at h1 h2 ⊢
    simp only [UInt8.lt_iff_toNat_lt] at h1 h2 ⊢
    split at h1
    · split at h2
      · rw [if_pos (by omega)]; omega
      · split at h2
        · omega
        · rw [if_pos (by omega)]; omega
    · split at h1
      · omega
      · split at h2
        · rw [if_pos (by omega)]; omega
        · split at h2
          · omega
          · rw [if_neg (by omega), if_neg (by omega)]
            exact ordC_trans a b c h1 h2
theorem bytesLess_ord : ∀ (a b : List UInt8), Op.bytesLess a b = decide (ordC a b < 0)
  | [], [] => by simp [Op.bytesLess, ordC]
  | _ :: _, [] => by simp [Op.bytesLess, ordC]
  | [], _ :: _ => by simp [Op.bytesLess, ordC]
  | x :: a, y :: b => by
    rw [Op.bytesLess, bytesLess_ord a b, ordC]
    by_cases h1 : x < y
    · simp [h1]
    · by_cases h2 : y < x
      · have : ¬ x = y := fun e => by subst e; exact h1 h2
        simp [h1, h2, this]
      · have e : x = y := by
          rw [UInt8.lt_iff_toNat_lt] at h1 h2
          exact UInt8.toNat_inj.mp (by omega)
        subst e
        simp [h1]
def Rising (l : List PC) : Prop := l.Pairwise (fun a b => ordC a.key b.key < 0)
theorem scan_rise {kind : Int} {P : Nat} : ∀ {l : List PC} {p : Option (List UInt8)}, (∀ c ∈ l, mayP kind P c = true) → (∀ q, p = some q → ∀ c ∈ l, ordC q c.key < 0) → Rising l → scanE kind P p l = 0
  | [], _, _, _, _ => rfl
  | c :: r, p, hm, hp, hs => by
    have hs' := List.pairwise_cons.1 hs
    rw [scanE, if_neg (by rw [hm c (by simp)]; simp)]
    have ha : afterP p c.key = true := by
      cases p with
      | none => rfl
      | some q => exact decide_eq_true (hp q rfl c (by simp))
    rw [if_neg (by rw [ha]; simp)]
    exact scan_rise (fun d hd => hm d (by simp [hd])) (fun q hq d hd => by injection hq with hq; subst hq; exact hs'.1 d hd) hs'.2
/-- c in the place of so many from i on. -/
def withF (l : List PC) (i gone : Nat) (c : PC) : List PC := l.take i ++ (c :: l.drop (i + gone))
theorem Rising.at_ {l : List PC} (h : Rising l) {i j : Nat} (hij : i < j) (hj : j < l.length) : ordC (l[i]'(by omega)).key l[j].key < 0 := List.pairwise_iff_getElem.1 h i j (by omega) hj hij
theorem with_rises {l : List PC} {i gone : Nat} {c : PC} (hs : Rising l) (hi : i + gone ≤ l.length) :
    Rising (withF l i gone c) ↔ (∀ h : 0 < i, ordC (l[i - 1]'(by omega)).key c.key < 0) ∧ (∀ h : i + gone < l.length, ordC c.key l[i + gone].key < 0) := by
  constructor
  · intro h
    unfold Rising withF at h
    rw [List.pairwise_append, List.pairwise_cons] at h
    obtain ⟨-, ⟨h2, -⟩, h4⟩ := h
    refine ⟨fun h => h4 _ ?_ c (by simp), fun h => h2 _ ?_⟩
    · exact List.mem_take_iff_getElem.2 ⟨i - 1, by omega, rfl⟩
    · rw [List.drop_eq_getElem_cons h]; exact List.mem_cons_self ..
  · rintro ⟨ha, hb⟩
    have hlo : ∀ x ∈ l.take i, ordC x.key c.key < 0 := by
      intro x hx
      obtain ⟨j, hj, rfl⟩ := List.getElem_of_mem hx
      rw [List.length_take] at hj
      rw [List.getElem_take]
      by_cases e : j = i - 1
      · subst e; exact ha (by omega)
      · exact ordC_trans _ _ _ (hs.at_ (i := j) (j := i - 1) (by omega) (by omega)) (ha (by omega))
    have hhi : ∀ x ∈ l.drop (i + gone), ordC c.key x.key < 0 := by
      intro x hx
      obtain ⟨j, hj, rfl⟩ := List.getElem_of_mem hx
      rw [List.length_drop] at hj
      rw [List.getElem_drop]
      by_cases e : j = 0
      · subst e; exact hb (by omega)
      · exact ordC_trans _ _ _ (hb (by omega)) (hs.at_ (i := i + gone) (j := i + gone + j) (by omega) (by omega))
    unfold Rising withF
    rw [List.pairwise_append, List.pairwise_cons]
    refine ⟨hs.sublist (List.take_sublist _ _), ⟨hhi, hs.sublist (List.drop_sublist _ _)⟩, fun x hx y hy => ?_⟩
    rcases List.mem_cons.1 hy with rfl | hy
    · exact hlo x hx
    · exact ordC_trans _ _ _ (hlo x hx) (hhi y hy)
def leftO (l : List PC) (i : Nat) (c : PC) : Int := if h : 0 < i ∧ i - 1 < l.length then ordC (l[i - 1]'h.2).key c.key else -1
def rightO (l : List PC) (j : Nat) (c : PC) : Int := if h : j < l.length then ordC c.key l[j].key else -1
theorem leftO_zero (l : List PC) (c : PC) : leftO l 0 c = -1 := by unfold leftO; rw [dif_neg (by omega)]
theorem leftO_succ {l : List PC} {k : Nat} (c : PC) (h : k < l.length) : leftO l (k + 1) c = ordC l[k].key c.key := by unfold leftO; rw [dif_pos ⟨by omega, by omega⟩]; rfl
theorem rightO_in {l : List PC} {j : Nat} (c : PC) (h : j < l.length) : rightO l j c = ordC c.key l[j].key := by unfold rightO; rw [dif_pos h]
theorem rightO_end {l : List PC} {j : Nat} (c : PC) (h : l.length ≤ j) : rightO l j c = -1 := by unfold rightO; rw [dif_neg (by omega)]
end Go.Proofs.YtfcnkpofcekmgaaGreat

-- plain.New, Open, Len, Used, Find: walks.
namespace Go.Proofs.YtfcnkpofcekmgaaGreat
open Go.RowKit
/-- A page that is worked on, at p. -/
structure PgAt (w : World) (p : Nat) (kind : Int) (P : Nat) (used : Int) (v : Value) (l : List CV) : Prop where
  blk : OBlk w p 144 [.int .i64 kind, .int .i64 (P : Int), .int .i64 used, v]
  rd : RdCs w v l
theorem PgAt.below {w w' : World} {p : Nat} {kind : Int} {P : Nat} {used : Int} {v : Value} {l : List CV} (h : PgAt w p kind P used v l) (hb : Below w.heap.size w w') : PgAt w' p kind P used v l :=
  ⟨h.blk.below hb h.blk.lt, h.rd.below hb⟩
theorem cells4 {w : World} {g : Nat} {T : TypeId} {a0 a1 a2 a3 : Value} (h : OBlk w g T [a0, a1, a2, a3]) :
    w.cell? ⟨g, 0, none⟩ = some a0 ∧ w.cell? ⟨g, 1, none⟩ = some a1 ∧ w.cell? ⟨g, 2, none⟩ = some a2 ∧ w.cell? ⟨g, 3, none⟩ = some a3 :=
  ⟨h.cell 0, h.cell 1, h.cell 2, h.cell 3⟩
section
variable {w : World} {p : Nat} {kind : Int} {P : Nat} {used : Int} {v : Value} {l : List CV}
set_option maxRecDepth 20000 in
theorem PLen_any (h : PgAt w p kind P used v l) : Calls Tryz.prog 203 #[.pointer (some ⟨p, 0, none⟩)] w fun e w' => e = .returned (.int .i64 (l.length : Int)) ∧ w = w' := by
  obtain ⟨A, c, rfl, hm, hc⟩ := h.rd.slice
  obtain ⟨c0, c1, c2, c3⟩ := cells4 h.blk
  go_enter Tryz.func203, Tryz.ntmps203
  go_wp2_with fail
  go_ret
  exact ⟨rfl, rfl⟩
set_option maxRecDepth 20000 in
theorem PUsed_any (h : PgAt w p kind P used v l) : Calls Tryz.prog 206 #[.pointer (some ⟨p, 0, none⟩)] w fun e w' => e = .returned (.int .i64 used) ∧ w = w' := by
  obtain ⟨A, c, rfl, hm, hc⟩ := h.rd.slice
  obtain ⟨c0, c1, c2, c3⟩ := cells4 h.blk
  go_enter Tryz.func206, Tryz.ntmps206
  go_wp2_with fail
  go_ret
  exact ⟨rfl, rfl⟩
end
set_option maxRecDepth 20000 in
set_option maxHeartbeats 1000000 in
theorem PNew_ok (kind : Int) (P : Nat) (hk : isKindB kind = true) (hp : isPowB (P : Int) = true) (w : World) : Calls Tryz.prog 70 #[.int .i64 kind, .int .i64 (P : Int)] w fun e w' =>
    ∃ p, e = .returned (.tuple #[.pointer (some ⟨p, 0, none⟩), .int .i64 0]) ∧ w.heap.size ≤ p ∧ PgAt w' p kind P 8 (.slice none 0 0) [] ∧ Below w.heap.size w w' := by
  have hr := isPowB_range hp
  have hKi := fun W => isKind_any kind W
  have hPa := fun W => isPage_any (P : Int) (by omega) W
  rw [hk] at hKi
  rw [hp] at hPa
  clear hk hp
  go_enter Tryz.func70, Tryz.ntmps70
  go_wp2_with (first | (go_at_call 126; refine (hKi _).mono ?_; rintro e w1 ⟨rfl, rfl⟩) | (go_at_call 127; refine (hPa _).mono ?_; rintro e w1 ⟨rfl, rfl⟩) | fail)
  go_ret2
  exact ⟨_, rfl, Nat.le_refl _, ⟨OBlk.new' w 144 [.int .i64 kind, .int .i64 (P : Int), .int .i64 8, .slice none 0 0], (OwCs.nil _ 0).rd⟩, (Below.refl _ _).alloc (Nat.le_refl _) _⟩
set_option maxRecDepth 100000 in
set_option maxHeartbeats 4000000 in
theorem PFind_any {w : World} {p : Nat} {kind : Int} {P : Nat} {used : Int} {v : Value} {l : List CV} (h : PgAt w p kind P used v l) (vk : Value) (key : List UInt8) (hk : RdB w vk key) :
    Calls Tryz.prog 200 #[.pointer (some ⟨p, 0, none⟩), vk] w fun e w' => e = .returned (.tuple #[.int .i64 (findF key (pcs l) : Nat), .bool (isF key (pcs l))]) ∧ Below w.heap.size w w' := by
  obtain ⟨A, c, rfl, hm, hc⟩ := h.rd.slice
  obtain ⟨K, kc, rfl, hkm⟩ := hk.form
  obtain ⟨c0, c1, c2, c3⟩ := cells4 h.blk
  have hl := h.rd
  have hpl := h.blk.lt
  have hblk := h.blk
  go_enter Tryz.func200, Tryz.ntmps200
  go_wp2_with fail
  clear c0 c1 c2 c3
  go_loopw [14] (fun i wr => ∃ k : Nat, k ≤ l.length ∧ i = .int .i64 (k : Int) ∧ Hid (∀ j (hj : j < k) (hjl : j < (pcs l).length), ordC (pcs l)[j].key key < 0) ∧ Below w.heap.size w wr) (fun i _ => l.length - (intOf i).toNat)
  case atStart => exact ⟨0, Nat.zero_le _, rfl, Lib.hid (fun j hj => by omega), Below.refl _ _⟩
  case round =>
    obtain ⟨k, hk', rfl, HJ, hB⟩ := hrel
    have hfd : findF key (pcs l) = k + findF key ((pcs l).drop k) := findF_drop HJ.out (by rw [pcs_length]; exact hk')
    by_cases hlt : k < l.length
    · have ik : (k : Int) < (l.length : Int) := by omega
      have hlp : k < (pcs l).length := by rw [pcs_length]; exact hlt
      have hJ2 : ∀ c, (pcs l)[k] = c → Hid (ordC c.key key < 0 → ∀ j (hj : j < k + 1) (hjl : j < (pcs l).length), ordC (pcs l)[j].key key < 0) := fun c hc => Lib.hid (fun ho j hj hjl => by
        by_cases e : j = k
        · subst e; rw [hc]; exact ho
        · exact HJ.out j (by omega) hjl)
      have hF2 : ∀ c, (pcs l)[k] = c → Hid (¬ ordC c.key key < 0 → findF key (pcs l) = k ∧ isF key (pcs l) = decide (ordC c.key key = 0)) := fun c hc => Lib.hid (fun ho => by
        have e : findF key (pcs l) = k := by
          rw [hfd, List.drop_eq_getElem_cons hlp, findF, hc, if_neg ho]; rfl
        refine ⟨e, ?_⟩
        unfold isF
        rw [e]
        refine decide_eq_decide.2 ⟨fun ⟨d, hd, hdk⟩ => ?_, fun h0 => ⟨c, by rw [List.getElem?_eq_getElem hlp, hc], ordC_eq _ _ h0⟩⟩
        rw [List.getElem?_eq_getElem hlp, hc] at hd
        injection hd with hd
        subst hd
        rw [hdk]; exact ordC_self _)
      have hJ2 := hJ2 _ (pcs_at hlt)
      have hF2 := hF2 _ (pcs_at hlt)
      have hlr := hl.below hB
      obtain ⟨ad, rfl, c0, c1, c2, c3, c4⟩ := hlr.at_ hlt
      have hx := hlr.ok _ (List.getElem_mem hlt)
      generalize l[k] = x at *
      obtain ⟨A1, a1, B1, b1, kk, ck, val, pg, ct, rfl, _, _⟩ := CV.form hx
      have hA0 : Below wr.heap.size wr (wr.alloc (.cells #[.slice A1 kk.length a1, .int .i64 ck, .slice B1 val.length b1, .int .i64 pg, .int .i64 ct] 43)) := (Below.refl wr.heap.size wr).alloc (Nat.le_refl _) _
      have hA := hB.trans (hA0.mono hB.size)
      have hcmp := Compare_any _ _ _ _ _ (hx.k.below hA0 (Nat.le_refl _)) (hk.below hA (Nat.le_refl _))
      have hJ3 : Hid (ordC kk key < 0 → ∀ j (hj : j < k + 1) (hjl : j < (pcs l).length), ordC (pcs l)[j].key key < 0) := hJ2
      have hF3 : Hid (¬ ordC kk key < 0 → findF key (pcs l) = k ∧ isF key (pcs l) = decide (ordC kk key = 0)) := hF2
      clear hJ2 hF2 hlr hx hB hfd HJ
      simp only at hcmp
      generalize ordC kk key = oc at *
      go_wp2_with fail
      refine hcmp.mono ?_
      rintro e w2 ⟨rfl, rfl⟩
      by_cases ho : oc < 0
      · have i1 : ¬ (0 : Int) ≤ oc := by omega
        have HJ4 := Lib.hid (hJ3.out (by omega))
        clear hJ3 hF3 ho
        go_wp2_with fail
        go_roundw
        case rel => exact ⟨k + 1, by omega, by go_num, HJ4, hA⟩
        case measure => simp [intOf]; omega
      · have i1 : (0 : Int) ≤ oc := by omega
        have HF4 := Lib.hid (hF3.out (by omega))
        clear hJ3 hF3 ho
        go_wp2_with fail
        go_ret2
        rw [HF4.out.1, HF4.out.2]
        refine ⟨?_, hA⟩
        congr 1
    · obtain rfl : k = l.length := by omega
      have hf : findF key (pcs l) = l.length ∧ isF key (pcs l) = false := by
        have e : findF key (pcs l) = l.length := by
          rw [hfd, List.drop_of_length_le (by rw [pcs_length]; omega)]; rfl
        refine ⟨e, ?_⟩
        unfold isF
        rw [e]
        refine decide_eq_false fun ⟨d, hd, _⟩ => ?_
        rw [List.getElem?_eq_none (by rw [pcs_length]; omega)] at hd
        cases hd
      have HF := Lib.hid hf
      obtain ⟨c0, c1, c2, c3⟩ := cells4 (hblk.below hB hpl)
      clear hf hfd HJ
      go_wp2_with fail
      go_ret2
      rw [HF.out.1, HF.out.2]
      exact ⟨rfl, hB⟩
end Go.Proofs.YtfcnkpofcekmgaaGreat

-- Owned cells, in words of pieces.
namespace Go.Proofs.YtfcnkpofcekmgaaGreat
open Go.RowKit
def cellsE (l : List CV) : List Ent := l.flatMap fun x => [bytesE x.kv x.c.key, bytesE x.vv x.c.val]
/-- Cells that came out, each piece by itself. -/
theorem Sep.cellsAdd {w0 w : World} {L : List Ent} {base : Nat} {v : Value} {l : List CV} (h : Sep w0 w L) (hL : ∀ E ∈ L, ∀ g, E.F g → g < base) (ho : OwCs w base v l) : Sep w0 w (ownE 43 5 v l.length (flatC l) :: (cellsE l ++ L)) := by
  have hall : ∀ E ∈ cellsE l, E.p w ∧ (∀ g, E.F g → base ≤ g ∧ g < w.heap.size ∧ ∃ cs, OBlk w g 5 cs) := fun E hE => by
    obtain ⟨x, hx, hE⟩ := List.mem_flatMap.1 hE
    obtain ⟨hk, hv⟩ := ho.each x hx
    simp only [List.mem_cons, List.not_mem_nil, or_false] at hE
    rcases hE with rfl | rfl
    · exact ⟨OwB.low hk (Nat.zero_le _), fun g hg => ⟨(Own.lt hk g hg).1, (Own.lt hk g hg).2, OwB.blkU hk hg⟩⟩
    · exact ⟨OwB.low hv (Nat.zero_le _), fun g hg => ⟨(Own.lt hv g hg).1, (Own.lt hv g hg).2, OwB.blkU hv hg⟩⟩
  have key : ∀ (l : List CV) (S : List Ent), Sep w0 w S → (∀ E ∈ S, ∀ g, E.F g → g < base) → (∀ E ∈ cellsE l, E.p w ∧ (∀ g, E.F g → base ≤ g ∧ g < w.heap.size)) → ((l.flatMap fun x => [x.kv.ownBlock, x.vv.ownBlock]).filterMap id).Pairwise (· < ·) → Sep w0 w (cellsE l ++ S) := by
    intro l
    induction l with
    | nil => intro S hS _ _ _; exact hS
    | cons x r ih =>
      intro S hS hSb hp hr
      have hr' : ((r.flatMap fun x => [x.kv.ownBlock, x.vv.ownBlock]).filterMap id).Pairwise (· < ·) := by
        rw [List.flatMap_cons, List.filterMap_append, List.pairwise_append] at hr
        exact hr.2.1
      have hS2 := ih S hS hSb (fun E hE => hp E (by simp only [cellsE, List.flatMap_cons] at hE ⊢; exact List.mem_append_right _ hE)) hr'
      have hmem : ∀ (y : CV), y ∈ r → ∀ g, (y.kv.ownBlock = some g ∨ y.vv.ownBlock = some g) → g ∈ ((r.flatMap fun x => [x.kv.ownBlock, x.vv.ownBlock]).filterMap id) := fun y hy g hg => by
        rw [List.mem_filterMap]
        refine ⟨some g, List.mem_flatMap.2 ⟨y, hy, ?_⟩, rfl⟩
        simp only [List.mem_cons, List.not_mem_nil, or_false]
        exact hg.imp Eq.symm Eq.symm
      rw [List.flatMap_cons, List.filterMap_append, List.pairwise_append] at hr
      obtain ⟨hr1, _, hr3⟩ := hr
      have hkp := hp (bytesE x.kv x.c.key) (by simp [cellsE])
      have hvp := hp (bytesE x.vv x.c.val) (by simp [cellsE])
      have far : ∀ (u : Value), (u = x.kv ∨ u = x.vv) → ∀ A ∈ cellsE r ++ S, ∀ g, u.ownBlock = some g → ¬ A.F g := fun u hu A hA g hg hAg => by
        rcases List.mem_append.1 hA with hA | hA
        · obtain ⟨y, hy, hA⟩ := List.mem_flatMap.1 hA
          have hyg : y.kv.ownBlock = some g ∨ y.vv.ownBlock = some g := by
            simp only [List.mem_cons, List.not_mem_nil, or_false] at hA
            rcases hA with rfl | rfl
            · exact .inl hAg
            · exact .inr hAg
          have h1 : g ∈ [x.kv.ownBlock, x.vv.ownBlock].filterMap id := by
            rw [List.mem_filterMap]
            refine ⟨some g, ?_, rfl⟩
            simp only [List.mem_cons, List.not_mem_nil, or_false]
            rcases hu with rfl | rfl
            · exact .inl hg.symm
            · exact .inr hg.symm
          have := hr3 g h1 g (hmem y hy g hyg)
          omega
        · have h1 := hSb A hA g hAg
          have h2 : base ≤ g := by
            rcases hu with rfl | rfl
            · exact (hkp.2 g hg).1
            · exact (hvp.2 g hg).1
          omega
      have hV := hS2.cons (E := bytesE x.vv x.c.val) hvp.1 (fun g hg => (hvp.2 g hg).2) (fun A hA g hg => far x.vv (.inr rfl) A hA g hg)
      refine hV.cons (E := bytesE x.kv x.c.key) hkp.1 (fun g hg => (hkp.2 g hg).2) (fun A hA g hg => ?_)
      rcases List.mem_cons.1 hA with rfl | hA
      · intro hvg
        have hk' : x.kv.ownBlock = some g := hg
        have hv' : x.vv.ownBlock = some g := hvg
        rw [hk', hv'] at hr1
        simp at hr1
      · exact far x.kv (.inl rfl) A hA g hg
  have hC := key l L h hL (fun E hE => ⟨(hall E hE).1, fun g hg => ⟨((hall E hE).2 g hg).1, ((hall E hE).2 g hg).2.1⟩⟩) ho.apart
  refine hC.cons (E := ownE 43 5 v l.length (flatC l)) (Own.low ho.own (Nat.zero_le _)) (fun g hg => (Own.lt ho.own g hg).2) (fun A hA g hg hAg => ?_)
  rcases List.mem_append.1 hA with hA | hA
  · obtain ⟨cs, h1⟩ := ((hall A hA).2 g hAg).2.2
    exact Own.ne_Tg ho.own h1 (by decide) hg.symm
  · have h1 := hL A hA g hAg
    have h2 := (Own.lt ho.own g hg).1
    omega
theorem Sep.cells {w0 w w' : World} {L : List Ent} {v : Value} {l : List CV} (h : Sep w0 w L) (hb : Below w.heap.size w w') (ho : OwCs w' w.heap.size v l) : Sep w0 w' (ownE 43 5 v l.length (flatC l) :: (cellsE l ++ L)) :=
  (h.below hb).cellsAdd (fun E hE g hg => (h.each E hE).2 g hg) ho
def RngC (l : List CV) : Prop := ∀ x ∈ l, i64r x.c.kind ∧ i64r x.c.page ∧ i64r x.c.count
/-- Cells of the call's own, with their bytes. -/
def csE (u : Value) (l : List CV) : Ent := allE (ownE 43 5 u l.length (flatC l) :: cellsE l)
/-- A cell that is read, in whichever pieces. -/
structure XIn (L : List Ent) (x : CV) : Prop where
  k : RdIn L x.kv x.c.key
  v : RdIn L x.vv x.c.val
  r1 : i64r x.c.kind
  r2 : i64r x.c.page
  r3 : i64r x.c.count
  s1 : x.c.key.length ≤ 140737488355328
  s2 : x.c.val.length ≤ 140737488355328
theorem XIn.ok {L M : List Ent} {x : CV} {w0 w : World} (h : XIn L x) (hS : Sep w0 w M) (hs : ∀ E ∈ L, E ∈ M) : x.ok w := by
  obtain ⟨E, hE, hr⟩ := h.k
  obtain ⟨E', hE', hr'⟩ := h.v
  exact ⟨hr w (hS.of_mem (hs E hE)), hr' w (hS.of_mem (hs E' hE')), h.r1, h.r2, h.r3⟩
theorem cellsE_append (a b : List CV) : cellsE (a ++ b) = cellsE a ++ cellsE b := by simp [cellsE]
theorem cellsE_cons (y : CV) (b : List CV) : cellsE (y :: b) = bytesE y.kv y.c.key :: bytesE y.vv y.c.val :: cellsE b := rfl
theorem cellsE_split (l : List CV) (i : Nat) : cellsE l = cellsE (l.take i) ++ cellsE (l.drop i) := by rw [← cellsE_append, List.take_append_drop]
theorem pcs_append (a b : List CV) : pcs (a ++ b) = pcs a ++ pcs b := by simp [pcs]
theorem pcs_take (l : List CV) (i : Nat) : pcs (l.take i) = (pcs l).take i := by simp [pcs, List.map_take]
theorem pcs_drop (l : List CV) (i : Nat) : pcs (l.drop i) = (pcs l).drop i := by simp [pcs, List.map_drop]
theorem RngC.with_ {l : List CV} (h : RngC l) {y : CV} (hy : i64r y.c.kind ∧ i64r y.c.page ∧ i64r y.c.count) (i j : Nat) : RngC (l.take i ++ y :: l.drop j) := by
  intro x hx
  rcases List.mem_append.1 hx with hx | hx
  · exact h x (List.mem_of_mem_take hx)
  · rcases List.mem_cons.1 hx with rfl | hx
    · exact hy
    · exact h x (List.mem_of_mem_drop hx)
section
variable {w0 w w' : World} {L : List Ent} {u v : Value} {l : List CV} {y : CV} {i : Nat}
theorem Sep.sub {L' : List Ent} (h : Sep w0 w L) (hs : L'.Sublist L) : Sep w0 w L' := ⟨h.same, fun E hE => h.each E (hs.subset hE), h.apart.sublist hs⟩
theorem perm_ins {α : Type} (k a O : α) (T X : List α) : (k :: a :: O :: (T ++ X)).Perm (O :: (T ++ (k :: a :: X))) :=
  (List.perm_middle (l₁ := [k, a])).trans (List.Perm.cons _ (List.perm_append_comm_assoc [k, a] T X))
theorem Sep.push3 {a b c d : Ent} {T : List Ent} (h : Sep w0 w (a :: b :: c :: d :: (T ++ L))) : Sep w0 w (a :: b :: c :: (T ++ d :: L)) := h.perm (((List.perm_middle.symm).cons _ |>.cons _ |>.cons _))
/-- A cell more, in its place. -/
theorem Sep.csIns {N : Nat} (hN : (l.take i ++ y :: l.drop i).length = N) (h : Sep w0 w (bytesE y.kv y.c.key :: bytesE y.vv y.c.val :: ownE 43 5 v N (flatC (l.take i ++ y :: l.drop i)) :: (cellsE l ++ L))) : Sep w0 w (csE v (l.take i ++ y :: l.drop i) :: L) := by
  subst hN
  refine Sep.pack (D := ownE 43 5 v _ _ :: cellsE _) (h.perm ?_)
  rw [cellsE_append, cellsE_cons, cellsE_split l i]
  simp only [List.cons_append, List.append_assoc]
  exact perm_ins _ _ _ _ _
end
/-- What is read of the open pieces. -/
theorem Sep.openRd {w0 w : World} {M : List Ent} {u : Value} {l : List CV} (h : Sep w0 w M) (h1 : ownE 43 5 u l.length (flatC l) ∈ M) (h2 : ∀ E ∈ cellsE l, E ∈ M) (hr : RngC l) : RdCs w u l := by
  have ho : Own w 0 43 5 u l.length (flatC l) := h.of_mem h1
  refine ⟨ho.rd, fun x hx => ?_⟩
  have hk : OwB w 0 x.kv x.c.key := h.of_mem (E := bytesE x.kv x.c.key) (h2 _ (List.mem_flatMap.2 ⟨x, hx, by simp⟩))
  have hv : OwB w 0 x.vv x.c.val := h.of_mem (E := bytesE x.vv x.c.val) (h2 _ (List.mem_flatMap.2 ⟨x, hx, by simp⟩))
  exact ⟨hk.rd, hv.rd, (hr x hx).1, (hr x hx).2.1, (hr x hx).2.2⟩
theorem Sep.set5 {w0 w : World} {g : Nat} {T : TypeId} {b0 b1 b2 b3 b4 : Value} {L : List Ent} (h : Sep w0 w (blkE g T [b0, b1, b2, b3, b4] :: L)) (a0 a1 a2 a3 a4 : Value) :
    Sep w0 (((((w.setCell ⟨g, 0, none⟩ a0).setCell ⟨g, 1, none⟩ a1).setCell ⟨g, 2, none⟩ a2).setCell ⟨g, 3, none⟩ a3).setCell ⟨g, 4, none⟩ a4) (blkE g T [a0, a1, a2, a3, a4] :: L) :=
  ((((h.setCell 0 a0).setCell 1 a1).setCell 2 a2).setCell 3 a3).setCell 4 a4
theorem froz5 {w : World} {g : Nat} {T : TypeId} {a0 a1 a2 a3 a4 : Value} (h : OBlk w g T [a0, a1, a2, a3, a4]) :
    w.frozen? ⟨g, 0, none⟩ = false ∧ w.frozen? ⟨g, 1, none⟩ = false ∧ w.frozen? ⟨g, 2, none⟩ = false ∧ w.frozen? ⟨g, 3, none⟩ = false ∧ w.frozen? ⟨g, 4, none⟩ = false :=
  ⟨h.frozen (j := 0) (by simp), h.frozen (j := 1) (by simp), h.frozen (j := 2) (by simp), h.frozen (j := 3) (by simp), h.frozen (j := 4) (by simp)⟩
theorem Sep.appC {w0 w w' : World} {L : List Ent} {v v' : Value} {n m : Nat} {xs ys : List Value} (h : Sep w0 w (ownE 43 5 v n xs :: L)) (ho : Own w' 0 43 5 v' m ys) (hg : w.grownBy w' v.ownBlock) (hk : v'.ownBlock = v.ownBlock ∨ ∃ k, v'.ownBlock = some k ∧ w.heap.size ≤ k) : Sep w0 w' (ownE 43 5 v' m ys :: L) :=
  h.upd (Turn.of_grown hg (fun _ e => e)) ho (fun g hg' => ⟨by
    rcases hk with e | ⟨k, e, hk⟩
    · exact .inl (e.symm.trans hg' : v.ownBlock = some g)
    · right
      have := e.symm.trans hg'
      injection this with this
      omega, (Own.lt ho g hg').2⟩)
theorem Sep.nilC {w0 w : World} {L : List Ent} (h : Sep w0 w L) : Sep w0 w (ownE 43 5 (.slice none 0 0) 0 [] :: L) :=
  h.cons (Own.nil w 0 _ _) (fun g hg => by cases hg) (fun _ _ g hg => by cases hg)
theorem Sep.lift2 {w0 w w' : World} {A B : Ent} {M L : List Ent} (hS : Sep w w' (A :: B :: M)) (hm : oldE w ∈ M) (h : Sep w0 w L) : Sep w0 w' (A :: B :: L) := by
  have hb : Below w.heap.size w w' := hS.belowOld (_v := w) (by simp [hm])
  refine ((h.below hb).cons (E := B) hS.tail.head hS.tail.lt (fun X hX g hg hg2 => ?_)).cons (E := A) hS.head hS.lt (fun X hX g hg hg2 => ?_)
  · exact hS.tail.far hm g hg ((h.each X hX).2 g hg2)
  · rcases List.mem_cons.1 hX with rfl | hX
    · exact hS.far (List.mem_cons_self ..) g hg hg2
    · exact hS.far (List.mem_cons_of_mem _ hm) g hg ((h.each X hX).2 g hg2)
end Go.Proofs.YtfcnkpofcekmgaaGreat

-- A region that draws its order, whose head only reads and calls quietly, and whose tail stands in one forced order: the head is walked once in the order of the text, then the tail.
namespace Go.Proofs.YtfcnkpofcekmgaaGreat
section
variable {P : Program} {ops : Array Oper} {md : Region.Mode} {C : World → Prop}
/-- Whatever order is picked for the head (places below n); then L. -/
def headAny (P : Program) (md : Region.Mode) (ops : Array Oper) (C : World → Prop) (n : Nat) (L : Array Bool → Act → Prop) : Nat → Array Bool → Act → Prop
  | 0, listed, a => L listed a
  | f + 1, listed, a => Region.ready md ops listed ≠ [] ∧ ∀ i ∈ Region.ready md ops listed, i < n ∧ qOp P ops C i (headAny P md ops C n L f (listed.setIfInBounds i true)) a
theorem any_of_headAny {n g : Nat} {L : Array Bool → Act → Prop} {Q' : Exit → Act → World → Prop} (hL : ∀ listed a w, C w → L listed a → wpAny P md ops Q' g listed a w) :
    ∀ (f : Nat) (listed : Array Bool) (a : Act) (w : World), C w → headAny P md ops C n L f listed a → wpAny P md ops Q' (f + g) listed a w
  | 0, listed, a, w, hw, h => by rw [Nat.zero_add]; exact hL _ _ _ hw h
  | f + 1, listed, a, w, hw, h => by
    rw [show f + 1 + g = (f + g) + 1 by omega]
    exact ⟨fun e => absurd e h.1, fun i hi => wpOp_of_qOp hw (fun a' w' hw' k => any_of_headAny hL f _ a' w' hw' k) (h.2 i hi).2⟩
theorem headAny_first {n i : Nat} {oi : Oper} {v : Value} {L : Array Bool → Act → Prop} (hi : ops[i]? = some oi) (hsel : ∀ (j : Nat) (o : Oper) cs b, ops[j]? = some o → o.op ≠ .select cs b)
    (hs : Region.sinkB md ops n = true) (hc : Region.chainB md ops n = true) (hn : n < ops.size) (hin : i < n)
    (hdone : ∀ listed a, L listed a → ∀ j ∈ Region.ready md ops listed, n ≤ j) :
    ∀ (f : Nat) (listed : Array Bool) (a : Act), HeadInv md ops n listed →
      (∀ j oj, ops[j]? = some oj → j ≠ i → listed.getD j true = false → (∀ e ∈ oj.after, Region.binds md e = true → e.on ≠ i) → oi.apart ops oj = true) →
      i ∈ Region.ready md ops listed → YieldsIn P ops C oi v a →
      headAny P md ops C n L f (listed.setIfInBounds i true) (a.put oi.dst v) → headAny P md ops C n L (f + 1) listed a
  | 0, listed, a, inv, _, hr, hy, H => by
    have hun := (mem_ready.1 hr).1
    refine ⟨fun e => (by rw [e] at hr; cases hr), fun j hj => ?_⟩
    have hjn : j < n := (Nat.lt_or_ge j n).elim id fun h => absurd hj (tail_waits hs hc hn inv _ i rfl hin hun j h)
    refine ⟨hjn, ?_⟩
    by_cases e : j = i
    · subst e; exact hy.qOp hi H
    · have := hdone _ _ H j (ready_mono hj e); omega
  | f + 1, listed, a, inv, hfree, hr, hy, H => by
    have hun := (mem_ready.1 hr).1
    refine ⟨fun e => (by rw [e] at hr; cases hr), fun j hj => ?_⟩
    have hjn : j < n := (Nat.lt_or_ge j n).elim id fun h => absurd hj (tail_waits hs hc hn inv _ i rfl hin hun j h)
    refine ⟨hjn, ?_⟩
    by_cases e : j = i
    · subst e; exact hy.qOp hi H
    obtain ⟨hjun, oj, hoj, hall⟩ := mem_ready.1 hj
    have hnot : ∀ e ∈ oj.after, Region.binds md e = true → e.on ≠ i := fun e he hb heq => by
      have := hall e he hb
      rw [heq, getD_both hun] at this
      cases this
    have h2 := qOp_put hoj (hfree j oj hoj e hjun hnot) (fun cs b => hsel i oi cs b hi) (fun cs b => hsel j oj cs b hoj) hy (H.2 j (ready_mono hj e)).2
    refine qOp_mono (fun a' h3 => ?_) h2
    refine headAny_first hi hsel hs hc hn hin hdone f _ a' (inv.set hj hjn) ?_ (ready_mono hr (Ne.symm e)) h3.1 ?_
    · intro k ok hk hki hku hno
      refine hfree k ok hk hki ?_ hno
      by_cases hjk : j = k
      · subst hjk; exact hjun
      · rwa [getD_set_ne true hjk] at hku
    · rw [Array.setIfInBounds_comm _ _ e]
      exact h3.2
theorem headAny_lex {n g : Nat} {Lq : Act → Prop} (hsel : Region.noSelect ops = true) (hs : Region.sinkB md ops n = true) (hc : Region.chainB md ops n = true) (hn : n < ops.size) :
    ∀ (l : List Oper) (k : Nat) (listed : Array Bool) (a : Act), (∀ j, j < l.length → l[j]? = ops[k + j]?) → k + l.length = n → HeadInv md ops n listed →
    Region.lexHead md ops g l.length k listed = true → wpQuiet P ops C Lq l a →
    headAny P md ops C n (fun listed' a' => Region.seqB md ops g n listed' = true ∧ Lq a') l.length listed a
  | [], k, listed, a, _, hk, _, hB, h => by
    obtain rfl : k = n := by simpa using hk
    exact ⟨by simpa [Region.lexHead] using hB, h⟩
  | o :: l, k, listed, a, hl, hk, inv, hB, h => by
    have h0 : ops[k]? = some o := by simpa using (hl 0 (by simp)).symm
    simp only [List.length_cons, Region.lexHead, Bool.and_eq_true] at hB
    obtain ⟨⟨hr, hf⟩, hB'⟩ := hB
    have hkn : k < n := by simp only [List.length_cons] at hk; omega
    have hr' : k ∈ Region.ready md ops listed := by simpa using hr
    have hst : qOp P ops C k (wpQuiet P ops C Lq l) a := by unfold qOp; simp only [h0]; exact h
    obtain ⟨v, hy, hK⟩ := yieldsIn_of_qOp h0 hst
    exact headAny_first h0 (Region.noSelect_spec hsel) hs hc hn hkn (fun listed' a' hL => seqB_ready hL.1) l.length listed a inv (Region.free_spec h0 hf) hr' hy
      (headAny_lex hsel hs hc hn l (k + 1) _ _ (fun j hj => by have := hl (j + 1) (by simp; omega); simpa [Nat.add_assoc, Nat.add_comm 1 j] using this) (by simp only [List.length_cons] at hk; omega) (inv.set hr' hkn) hB' hK)
/-- The head is walked once, from any world of the class; the tail in its order. -/
theorem wp_region_qtail {id : Nat} {Q : Exit → Act → World → Prop} {a : Act} {w : World} {l : List Oper} (n : Nat) (C : World → Prop) (hC : C w.drew) (hm : P.follows .mixedOrders = true) (hB : Region.lexTailB .any l.toArray n = true)
    (h : wpQuiet P l.toArray C (fun a' => ∀ w', C w' → wpList P l.toArray Q (l.drop n) a' w') (l.take n) a) : (Code.region id l.toArray true).wp P Q a w := by
  simp only [Region.lexTailB, Bool.and_eq_true, decide_eq_true_eq] at hB
  obtain ⟨⟨⟨⟨hsel, hn⟩, hs⟩, hc⟩, hlex⟩ := hB
  have hn' : n < l.length := by simpa using hn
  have htl : (l.take n).length = n := by simp; omega
  have hdl : (l.drop n).length = l.toArray.size - n := by simp
  have inv0 : HeadInv .any l.toArray n (Array.replicate l.toArray.size false) :=
    ⟨by simp, fun j oj _ hl => (by rw [getD_replicate_false] at hl; cases hl), fun t _ ht => getD_in (by simpa using ht) (getD_replicate_false _ _)⟩
  have H := headAny_lex (md := .any) (g := l.toArray.size - n) hsel hs hc hn (l.take n) 0 _ a (fun j hj => by
    have hj' : j < n := by rw [htl] at hj; exact hj
    simp [hj']) (by simpa using htl) inv0 (by rw [htl]; exact hlex) h
  refine wp_region_any hm ?_
  have := any_of_headAny (Q' := Q) (g := l.toArray.size - n) (fun listed a' w' hw' hL => by
    have := wpAny_of_seq (md := .any) (Q' := Q) (l.drop n) n listed a' w' (fun j => by simp [List.getElem?_drop]) (by rw [hdl]; exact hL.1) (hL.2 w' hw')
    rwa [hdl] at this) _ _ _ _ hC H
  rw [htl, show n + (l.toArray.size - n) = l.toArray.size by omega] at this
  exact this
/-- .. at the class of worlds after some draws. -/
theorem wp_region_dtail {id : Nat} {Q : Exit → Act → World → Prop} {a : Act} {w : World} {l : List Oper} (n : Nat) (hm : P.follows .mixedOrders = true) (hB : Region.lexTailB .any l.toArray n = true)
    (h : wpQuiet P l.toArray (fun w' => ∃ k, w' = w.drewN k) (fun a' => ∀ w', (∃ k, w' = w.drewN k) → wpList P l.toArray Q (l.drop n) a' w') (l.take n) a) : (Code.region id l.toArray true).wp P Q a w :=
  wp_region_qtail n _ ⟨1, rfl⟩ hm hB h
end
end Go.Proofs.YtfcnkpofcekmgaaGreat

-- plain.Insert into a page that is empty, or beyond its end: walks.
namespace Go.Proofs.YtfcnkpofcekmgaaGreat
open Go.RowKit
set_option maxRecDepth 100000 in
set_option maxHeartbeats 4000000 in
theorem own_any (x : CV) (w : World) (hx : x.ok w) (h1 : x.c.key.length ≤ 140737488355328) (h2 : x.c.val.length ≤ 140737488355328) :
    Calls Tryz.prog 207 #[cellV x] w fun e w' => ∃ y : CV, e = .returned (cellV y) ∧ y.c = x.c ∧ OwB w' w.heap.size y.kv x.c.key ∧ OwB w' w.heap.size y.vv x.c.val ∧ (∀ g g', y.kv.ownBlock = some g → y.vv.ownBlock = some g' → g < g') ∧ Below w.heap.size w w' := by
  obtain ⟨A, ca, B, cb, key, ck, val, pg, ct, rfl, hk1, hk2⟩ := CV.form hx
  simp only at h1 h2
  have hkr : RdB w (.slice A key.length ca) key := hx.k
  have hvr : RdB w (.slice B val.length cb) val := hx.v
  have hC0 := OBlk.new' w 43 [.slice A key.length ca, .int .i64 ck, .slice B val.length cb, .int .i64 pg, .int .i64 ct]
  have hC := hC0.alloc (.cells #[.slice none 0 0, .int .i64 0, .slice none 0 0, .int .i64 0, .int .i64 0] 43)
  have hR := OBlk.new' (w.alloc (.cells #[.slice A key.length ca, .int .i64 ck, .slice B val.length cb, .int .i64 pg, .int .i64 ct] 43)) 43 [.slice none 0 0, .int .i64 0, .slice none 0 0, .int .i64 0, .int .i64 0]
  rw [World.size_alloc] at hR
  have hA := (((Below.refl w.heap.size w).alloc (Nat.le_refl _) (.cells #[.slice A key.length ca, .int .i64 ck, .slice B val.length cb, .int .i64 pg, .int .i64 ct] 43))).alloc (by simp) (.cells #[.slice none 0 0, .int .i64 0, .slice none 0 0, .int .i64 0, .int .i64 0] 43)
  unfold cellV
  go_enter Tryz.func207, Tryz.ntmps207
  go_upto_region 1 with (fail)
  have hkr0 := hkr.below hA (Nat.le_refl _)
  have hvr0 := hvr.below hA (Nat.le_refl _)
  generalize (w.alloc (.cells #[.slice A key.length ca, .int .i64 ck, .slice B val.length cb, .int .i64 pg, .int .i64 ct] 43)).alloc (.cells #[.slice none 0 0, .int .i64 0, .slice none 0 0, .int .i64 0, .int .i64 0] 43) = w0 at *
  obtain ⟨c0, c1, c2, c3, c4⟩ := cells5 hC
  have f0 := hC.frozen (j := 0) (by simp)
  have f2 := hC.frozen (j := 2) (by simp)
  have hcl := hC.lt
  have hrl := hR.lt
  go_region_law
    (first
      | (go_simp; go_at_call 211; refine (CloneB_any _ key _ hkr0.drew h1).mono ?_; rintro e w4 ⟨vd, rfl, hod, hw4⟩; obtain ⟨K2, kc2, rfl⟩ := Own.slice hod; have hC4 := hC.drew.below hw4 hcl; have d2 := hC4.cell' (j := 2) (u := .slice B val.length cb) rfl; have d0 := hC4.cell' (j := 0) (u := .slice A key.length ca) rfl; have hvr4 := hvr0.drew.below hw4 (Nat.le_refl _))
      | (go_simp; go_at_call 211; refine (CloneB_any _ val _ hvr4 h2).mono ?_; rintro e w5 ⟨ve, rfl, hoe, hw5⟩; obtain ⟨V2, vc2, rfl⟩ := Own.slice hoe; have hC5 := hC4.below hw5 hC4.lt; have e2 := hC5.cell' (j := 2) (u := .slice B val.length cb) rfl; have e0 := hC5.cell' (j := 0) (u := .slice A key.length ca) rfl; have g2 := hC5.frozen (j := 2) (by simp); have g0 := hC5.frozen (j := 0) (by simp))
      | fail)
  all_goals
    have hz0 : w.heap.size + 1 < w0.heap.size := hrl
    have hz4 : w0.heap.size ≤ w4.heap.size := hw4.size
    have hC6 := (hC5.set 0 (.slice K2 key.length kc2)).set 2 (.slice V2 val.length vc2)
    simp only [List.set_cons_succ, List.set_cons_zero] at hC6
    have hR5 := (hR.drew.below hw4 hrl).below hw5 (by omega)
    have hR6 := (hR5.far (p := ⟨w.heap.size, 0, none⟩) (show w.heap.size + 1 ≠ w.heap.size by omega) (.slice K2 key.length kc2)).far (p := ⟨w.heap.size, 2, none⟩) (show w.heap.size + 1 ≠ w.heap.size by omega) (.slice V2 val.length vc2)
    have hb5 : Below w.heap.size w w5 := (hA.drew.trans (hw4.mono hA.size)).trans (hw5.mono (by have := hA.size; omega))
    have hb6 := (hb5.setCell (p := ⟨w.heap.size, 0, none⟩) (Nat.le_refl _) (.slice K2 key.length kc2)).setCell (p := ⟨w.heap.size, 2, none⟩) (Nat.le_refl _) (.slice V2 val.length vc2)
    have hod5 := Own.below' hod hw5 (Nat.le_refl _)
    have hgk : ∀ k, Value.ownBlock (.slice K2 key.length kc2) = some k → w.heap.size + 1 < k ∧ k < w4.heap.size := fun k hk => ⟨Nat.lt_of_lt_of_le hz0 (Own.lt hod k hk).1, (Own.lt hod k hk).2⟩
    have hgv : ∀ k, Value.ownBlock (.slice V2 val.length vc2) = some k → w4.heap.size ≤ k := fun k hk => (Own.lt hoe k hk).1
    have hod6 : OwB ((w5.setCell ⟨w.heap.size, 0, none⟩ (.slice K2 key.length kc2)).setCell ⟨w.heap.size, 2, none⟩ (.slice V2 val.length vc2)) w.heap.size (.slice K2 key.length kc2) key := Own.heap (OwB.base_le hod5 (b := w.heap.size) fun k hk => by have := (hgk k hk).1; omega) fun k hk => by
      have := (hgk k hk).1
      rw [Below.heap_setCell _ _ _ _ (show k ≠ w.heap.size by omega), Below.heap_setCell _ _ _ _ (show k ≠ w.heap.size by omega)]
    have hoe6 : OwB ((w5.setCell ⟨w.heap.size, 0, none⟩ (.slice K2 key.length kc2)).setCell ⟨w.heap.size, 2, none⟩ (.slice V2 val.length vc2)) w.heap.size (.slice V2 val.length vc2) val := Own.heap (OwB.base_le hoe (b := w.heap.size) fun k hk => by have := hgv k hk; omega) fun k hk => by
      have := hgv k hk
      rw [Below.heap_setCell _ _ _ _ (show k ≠ w.heap.size by omega), Below.heap_setCell _ _ _ _ (show k ≠ w.heap.size by omega)]
    generalize (w5.setCell ⟨w.heap.size, 0, none⟩ (.slice K2 key.length kc2)).setCell ⟨w.heap.size, 2, none⟩ (.slice V2 val.length vc2) = w6 at *
    clear c0 c1 c2 c3 c4 f0 f2 d0 d2 e0 e2 g0 g2 hC hC4 hC5 hR hR5 hb5 hod5
    obtain ⟨y0, y1, y2, y3, y4⟩ := cells5 hC6
    obtain ⟨r0, r1, r2, r3, r4⟩ := cells5 hR6
    have f0 := hR6.frozen (j := 0) (by simp); have f1 := hR6.frozen (j := 1) (by simp); have f2 := hR6.frozen (j := 2) (by simp); have f3 := hR6.frozen (j := 3) (by simp); have f4 := hR6.frozen (j := 4) (by simp)
    have H1 := Lib.hid hgk
    have H2 := Lib.hid hgv
    clear hgk hgv
    go_wp2_with fail
    obtain ⟨e0, e1, e2, e3, e4⟩ := cells5 (set5 hR6 (.slice K2 key.length kc2) (.int .i64 ck) (.slice V2 val.length vc2) (.int .i64 pg) (.int .i64 ct))
    refine bodyPost_ret (v := .agg #[(.slice K2 key.length kc2), .int .i64 ck, (.slice V2 val.length vc2), .int .i64 pg, .int .i64 ct]) ?_ rfl ?_
    · simp [results, Tryz.results207, go_sem, e0, e1, e2, e3, e4]
    · exact ⟨⟨(.slice K2 key.length kc2), (.slice V2 val.length vc2), ⟨key, ck, val, pg, ct⟩⟩, rfl, rfl, ow5 hod6 (fun k hk => by have := (H1.out k hk).1; omega) _ _ _ _ _, ow5 hoe6 (fun k hk => by have := H2.out k hk; omega) _ _ _ _ _, fun g g' e e' => by have := (H1.out g e).2; have := H2.out g' e'; omega, below5 hb6 (by omega) _ _ _ _ _⟩
end Go.Proofs.YtfcnkpofcekmgaaGreat

-- plain.Insert into a page that is empty, or beyond its end: walks.
namespace Go.Proofs.YtfcnkpofcekmgaaGreat
open Go.RowKit
end Go.Proofs.YtfcnkpofcekmgaaGreat
