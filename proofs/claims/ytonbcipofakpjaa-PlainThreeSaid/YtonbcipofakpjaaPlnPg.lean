/- plain.New, Open, Len, Used, Find: walks. -/
import Derived.Test.YtonbcipofakpjaaPlnDec
import Derived.Test.YtonbcipofakpjaaClo
namespace Go.Proofs.Ytonbcipofakpjaa
open Go.RowKit
/-- A page that is worked on, at p. -/
structure PgAt (w : World) (p : Nat) (kind : Int) (P : Nat) (used : Int) (v : Value) (l : List CV) : Prop where
  blk : OBlk w p 89 [.int .i64 kind, .int .i64 (P : Int), .int .i64 used, v]
  rd : RdCs w v l
theorem PgAt.below {w w' : World} {p : Nat} {kind : Int} {P : Nat} {used : Int} {v : Value} {l : List CV} (h : PgAt w p kind P used v l) (hb : Below w.heap.size w w') : PgAt w' p kind P used v l :=
  ⟨h.blk.below hb h.blk.lt, h.rd.below hb⟩
theorem cells4 {w : World} {g : Nat} {T : TypeId} {a0 a1 a2 a3 : Value} (h : OBlk w g T [a0, a1, a2, a3]) :
    w.cell? ⟨g, 0, none⟩ = some a0 ∧ w.cell? ⟨g, 1, none⟩ = some a1 ∧ w.cell? ⟨g, 2, none⟩ = some a2 ∧ w.cell? ⟨g, 3, none⟩ = some a3 :=
  ⟨h.cell 0, h.cell 1, h.cell 2, h.cell 3⟩
section
variable {w : World} {p : Nat} {kind : Int} {P : Nat} {used : Int} {v : Value} {l : List CV}
set_option maxRecDepth 20000 in
theorem PLen_any (h : PgAt w p kind P used v l) : Calls Try.prog 23 #[.pointer (some ⟨p, 0, none⟩)] w fun e w' => e = .returned (.int .i64 (l.length : Int)) ∧ w = w' := by
  obtain ⟨A, c, rfl, hm, hc⟩ := h.rd.slice
  obtain ⟨c0, c1, c2, c3⟩ := cells4 h.blk
  go_enter Try.func23, Try.ntmps23
  go_wp2_with fail
  go_ret
  exact ⟨rfl, rfl⟩
set_option maxRecDepth 20000 in
theorem PUsed_any (h : PgAt w p kind P used v l) : Calls Try.prog 24 #[.pointer (some ⟨p, 0, none⟩)] w fun e w' => e = .returned (.int .i64 used) ∧ w = w' := by
  obtain ⟨A, c, rfl, hm, hc⟩ := h.rd.slice
  obtain ⟨c0, c1, c2, c3⟩ := cells4 h.blk
  go_enter Try.func24, Try.ntmps24
  go_wp2_with fail
  go_ret
  exact ⟨rfl, rfl⟩
end
set_option maxRecDepth 20000 in
set_option maxHeartbeats 1000000 in
theorem PNew_ok (kind : Int) (P : Nat) (hk : isKindB kind = true) (hp : isPowB (P : Int) = true) (w : World) : Calls Try.prog 32 #[.int .i64 kind, .int .i64 (P : Int)] w fun e w' =>
    ∃ p, e = .returned (.tuple #[.pointer (some ⟨p, 0, none⟩), .int .i64 0]) ∧ w.heap.size ≤ p ∧ PgAt w' p kind P 8 (.slice none 0 0) [] ∧ Below w.heap.size w w' := by
  have hr := isPowB_range hp
  have hKi := fun W => isKind_any kind W
  have hPa := fun W => isPage_any (P : Int) (by omega) W
  rw [hk] at hKi
  rw [hp] at hPa
  clear hk hp
  go_enter Try.func32, Try.ntmps32
  go_wp2_with (first | (go_at_call 48; refine (hKi _).mono ?_; rintro e w1 ⟨rfl, rfl⟩) | (go_at_call 49; refine (hPa _).mono ?_; rintro e w1 ⟨rfl, rfl⟩) | fail)
  go_ret2
  exact ⟨_, rfl, Nat.le_refl _, ⟨OBlk.new' w 89 [.int .i64 kind, .int .i64 (P : Int), .int .i64 8, .slice none 0 0], (OwCs.nil _ 0).rd⟩, (Below.refl _ _).alloc (Nat.le_refl _) _⟩
set_option maxRecDepth 20000 in
set_option maxHeartbeats 1000000 in
theorem PNew_bad (kind P : Int) (hk : isKindB kind = false) (w : World) : Calls Try.prog 32 #[.int .i64 kind, .int .i64 P] w fun e w' =>
    e = .returned (.tuple #[.pointer none, .int .i64 1]) ∧ w = w' := by
  have hKi := fun W => isKind_any kind W
  rw [hk] at hKi
  clear hk
  go_enter Try.func32, Try.ntmps32
  go_wp2_with (first | (go_at_call 48; refine (hKi _).mono ?_; rintro e w1 ⟨rfl, rfl⟩) | fail)
  go_ret2
  exact ⟨rfl, rfl⟩
/-- Where a key stands, or would stand. -/
def findF (key : List UInt8) : List PC → Nat
  | [] => 0
  | c :: r => if ordC c.key key < 0 then findF key r + 1 else 0
def isF (key : List UInt8) (l : List PC) : Bool := decide (∃ c, l[findF key l]? = some c ∧ c.key = key)
theorem findF_le (key : List UInt8) (l : List PC) : findF key l ≤ l.length := by
  induction l with
  | nil => simp [findF]
  | cons c r ih => rw [findF]; split <;> simp <;> omega
theorem findF_drop {key : List UInt8} : ∀ {l : List PC} {k : Nat}, (∀ j (hj : j < k) (hl : j < l.length), ordC l[j].key key < 0) → k ≤ l.length → findF key l = k + findF key (l.drop k)
  | l, 0, _, _ => by simp
  | [], k + 1, _, h => by simp at h
  | c :: r, k + 1, h, hk => by
    have h0 : ordC c.key key < 0 := h 0 (by omega) (by simp)
    rw [findF, if_pos h0, List.drop_succ_cons, findF_drop (k := k) (fun j hj hl => h (j + 1) (by omega) (by simpa using hl)) (by simpa using hk)]
    omega
set_option maxRecDepth 100000 in
set_option maxHeartbeats 4000000 in
theorem PFind_any {w : World} {p : Nat} {kind : Int} {P : Nat} {used : Int} {v : Value} {l : List CV} (h : PgAt w p kind P used v l) (vk : Value) (key : List UInt8) (hk : RdB w vk key) :
    Calls Try.prog 25 #[.pointer (some ⟨p, 0, none⟩), vk] w fun e w' => e = .returned (.tuple #[.int .i64 (findF key (pcs l) : Nat), .bool (isF key (pcs l))]) ∧ Below w.heap.size w w' := by
  obtain ⟨A, c, rfl, hm, hc⟩ := h.rd.slice
  obtain ⟨K, kc, rfl, hkm⟩ := hk.form
  obtain ⟨c0, c1, c2, c3⟩ := cells4 h.blk
  have hl := h.rd
  have hpl := h.blk.lt
  have hblk := h.blk
  go_enter Try.func25, Try.ntmps25
  go_wp2_with fail
  clear c0 c1 c2 c3
  go_loopw [14] (fun i wr => ∃ k : Nat, k ≤ l.length ∧ i = .int .i64 (k : Int) ∧ Hid (∀ j (hj : j < k) (hjl : j < (pcs l).length), ordC (pcs l)[j].key key < 0) ∧ Below w.heap.size w wr) (fun i _ => l.length - (intOf i).toNat)
  case atStart => exact ⟨0, Nat.zero_le _, rfl, Lib.hid (fun j hj => by omega), Below.refl _ _⟩
  case round =>
    obtain ⟨k, hk', rfl, HJ, hB⟩ := hrel
    have hfd : findF key (pcs l) = k + findF key ((pcs l).drop k) := findF_drop HJ.out (by rw [pcs_length]; exact hk')
    by_cases hlt : k < l.length
    · have ik : (k : Int) < (l.length : Int) := by omega
      have hlp : k < (pcs l).length := by rw [pcs_length]; exact hlt
      have hJ2 : ∀ c, (pcs l)[k] = c → Hid (ordC c.key key < 0 → ∀ j (hj : j < k + 1) (hjl : j < (pcs l).length), ordC (pcs l)[j].key key < 0) := fun c hc => Lib.hid (fun ho j hj hjl => by
        by_cases e : j = k
        · subst e; rw [hc]; exact ho
        · exact HJ.out j (by omega) hjl)
      have hF2 : ∀ c, (pcs l)[k] = c → Hid (¬ ordC c.key key < 0 → findF key (pcs l) = k ∧ isF key (pcs l) = decide (ordC c.key key = 0)) := fun c hc => Lib.hid (fun ho => by
        have e : findF key (pcs l) = k := by
          rw [hfd, List.drop_eq_getElem_cons hlp, findF, hc, if_neg ho]; rfl
        refine ⟨e, ?_⟩
        unfold isF
        rw [e]
        refine decide_eq_decide.2 ⟨fun ⟨d, hd, hdk⟩ => ?_, fun h0 => ⟨c, by rw [List.getElem?_eq_getElem hlp, hc], ordC_eq _ _ h0⟩⟩
        rw [List.getElem?_eq_getElem hlp, hc] at hd
        injection hd with hd
        subst hd
        rw [hdk]; exact ordC_self _)
      have hJ2 := hJ2 _ (pcs_at hlt)
      have hF2 := hF2 _ (pcs_at hlt)
      have hlr := hl.below hB
      obtain ⟨ad, rfl, c0, c1, c2, c3, c4⟩ := hlr.at_ hlt
      have hx := hlr.ok _ (List.getElem_mem hlt)
      generalize l[k] = x at *
      obtain ⟨A1, a1, B1, b1, kk, ck, val, pg, ct, rfl, _, _⟩ := CV.form hx
      have hA0 : Below wr.heap.size wr (wr.alloc (.cells #[.slice A1 kk.length a1, .int .i64 ck, .slice B1 val.length b1, .int .i64 pg, .int .i64 ct] 32)) := (Below.refl wr.heap.size wr).alloc (Nat.le_refl _) _
      have hA := hB.trans (hA0.mono hB.size)
      have hcmp := Compare_any _ _ _ _ _ (hx.k.below hA0 (Nat.le_refl _)) (hk.below hA (Nat.le_refl _))
      have hJ3 : Hid (ordC kk key < 0 → ∀ j (hj : j < k + 1) (hjl : j < (pcs l).length), ordC (pcs l)[j].key key < 0) := hJ2
      have hF3 : Hid (¬ ordC kk key < 0 → findF key (pcs l) = k ∧ isF key (pcs l) = decide (ordC kk key = 0)) := hF2
      clear hJ2 hF2 hlr hx hB hfd HJ
      simp only at hcmp
      generalize ordC kk key = oc at *
      go_wp2_with fail
      refine hcmp.mono ?_
      rintro e w2 ⟨rfl, rfl⟩
      by_cases ho : oc < 0
      · have i1 : ¬ (0 : Int) ≤ oc := by omega
        have HJ4 := Lib.hid (hJ3.out (by omega))
        clear hJ3 hF3 ho
        go_wp2_with fail
        go_roundw
        case rel => exact ⟨k + 1, by omega, by go_num, HJ4, hA⟩
        case measure => simp [intOf]; omega
      · have i1 : (0 : Int) ≤ oc := by omega
        have HF4 := Lib.hid (hF3.out (by omega))
        clear hJ3 hF3 ho
        go_wp2_with fail
        go_ret2
        rw [HF4.out.1, HF4.out.2]
        refine ⟨?_, hA⟩
        congr 1
    · obtain rfl : k = l.length := by omega
      have hf : findF key (pcs l) = l.length ∧ isF key (pcs l) = false := by
        have e : findF key (pcs l) = l.length := by
          rw [hfd, List.drop_of_length_le (by rw [pcs_length]; omega)]; rfl
        refine ⟨e, ?_⟩
        unfold isF
        rw [e]
        refine decide_eq_false fun ⟨d, hd, _⟩ => ?_
        rw [List.getElem?_eq_none (by rw [pcs_length]; omega)] at hd
        cases hd
      have HF := Lib.hid hf
      obtain ⟨c0, c1, c2, c3⟩ := cells4 (hblk.below hB hpl)
      clear hf hfd HJ
      go_wp2_with fail
      go_ret2
      rw [HF.out.1, HF.out.2]
      exact ⟨rfl, hB⟩
set_option maxRecDepth 20000 in
set_option maxHeartbeats 1000000 in
theorem POpen_any (v : Value) (b : List UInt8) (w : World) (hv : RdB w v b) : Calls Try.prog 21 #[v] w fun e w' => Below w.heap.size w w' ∧
    ((∃ (kind : Int) (l : List CV) (p : Nat) (u : Value), isPln b kind (pcs l) ∧ e = .returned (.tuple #[.pointer (some ⟨p, 0, none⟩), .int .i64 0]) ∧ w.heap.size ≤ p ∧ PgAt w' p kind b.length (sizeF (pcs l) : Nat) u l) ∨
      ((∀ kind l, ¬ isPln b kind l) ∧ e = .returned (.tuple #[.pointer none, .int .i64 60]))) := by
  have hd := PDecode_any v b w hv
  obtain ⟨A, c, rfl, hm⟩ := hv.form
  go_enter Try.func21, Try.ntmps21
  go_wp2_with fail
  refine hd.mono ?_
  rintro e w1 ⟨hw1, ⟨kind, l, u, hy, rfl, hO⟩ | ⟨hn, rfl⟩⟩
  · obtain ⟨B, cc, rfl⟩ := Own.slice hO.own
    have hsz : sizeF (pcs l) ≤ b.length := (encE_zero.1 hy.2.2.1).2
    have hP := (isPowB_range hy.1).2
    have hokc : ∀ c ∈ pcs l, OkC b.length c := fun c hc => may_ok (scan_may (encE_zero.1 hy.2.2.1).1 c hc)
    have hn : (pcs l).length ≤ 2000000000000 := by have := sizeF_eq (pcs l); omega
    have hS := Size_any kind _ l w1 hO.rd (fit_of hokc (by omega) hn)
    have HY := Lib.hid hy
    have hrd := hO.rd
    clear hsz hokc hn hd hy
    go_wp2_with fail
    refine hS.mono ?_
    rintro e w2 ⟨rfl, hw2⟩
    have hb2 := hw1.trans (hw2.mono hw1.size)
    go_wp2_with fail
    go_ret2
    exact ⟨hb2.alloc hb2.size _, .inl ⟨kind, l, _, _, HY.out, rfl, hb2.size, ⟨OBlk.new' w2 89 [.int .i64 kind, .int .i64 (b.length : Int), .int .i64 (sizeF (pcs l) : Nat), .slice B l.length cc], (hrd.below hw2).below ((Below.refl _ _).alloc (Nat.le_refl _) _)⟩⟩⟩
  · have HN := Lib.hid hn
    clear hn hd
    go_wp2_with fail
    go_ret2
    exact ⟨hw1, .inr ⟨HN.out, rfl⟩⟩
end Go.Proofs.Ytonbcipofakpjaa
