/- plain.isKind, isPage, Size, number, part: walks. -/
import Derived.Test.YtonbcipofakpjaaPlnMay
import Derived.Test.YtonbcipofakpjaaPow
import Derived.Test.YtonbcipofakpjaaCut
import Derived.Deep.QuietTactic
import Derived.BigQuiet
namespace Go.Proofs.Ytonbcipofakpjaa
open Go.RowKit
set_option maxRecDepth 20000 in
set_option maxHeartbeats 1000000 in
theorem isPage_any (p : Int) (hp : -9223372036854775808 ≤ p ∧ p ≤ 9223372036854775807) (w : World) : Calls Try.prog 49 #[.int .i64 p] w fun e w' => e = .returned (.bool (isPowB p)) ∧ w = w' := by
  by_cases h1 : p < 512
  · have HV := Lib.hid (isPowB_out (.inl h1))
    go_enter Try.func49, Try.ntmps49
    go_wp2_with fail
    go_ret
    rw [HV.out]
    exact ⟨rfl, rfl⟩
  by_cases h2 : 65536 < p
  · have HV := Lib.hid (isPowB_out (.inr h2))
    go_enter Try.func49, Try.ntmps49
    go_wp2_with fail
    go_ret
    rw [HV.out]
    exact ⟨rfl, rfl⟩
  have hq := pow_eq p (by omega) (by omega)
  go_enter Try.func49, Try.ntmps49
  go_wp2_with fail
  go_ret
  exact ⟨rfl, rfl⟩
set_option maxRecDepth 20000 in
set_option maxHeartbeats 1000000 in
theorem isKind_any (k : Int) (w : World) : Calls Try.prog 48 #[.int .i64 k] w fun e w' => e = .returned (.bool (isKindB k)) ∧ w = w' := by
  by_cases h1 : k = 2
  · subst h1
    go_enter Try.func48, Try.ntmps48
    go_wp2_with fail
    go_ret
    exact ⟨rfl, rfl⟩
  · have e1 : (k == 2) = false := beq_eq_false_iff_ne.2 h1
    by_cases h2 : k = 3
    · subst h2
      go_enter Try.func48, Try.ntmps48
      go_wp2_with fail
      go_ret
      exact ⟨rfl, rfl⟩
    · have e2 : (k == 3) = false := beq_eq_false_iff_ne.2 h2
      have HK : Hid (isKindB k = false) := by show _ = _; unfold isKindB; exact decide_eq_false (by omega)
      clear h1 h2
      go_enter Try.func48, Try.ntmps48
      go_wp2_with fail
      go_ret
      rw [HK.out]
      exact ⟨rfl, rfl⟩
theorem CV.form {x : CV} {w : World} (h : x.ok w) : ∃ A a B b key ck val pg ct, x = ⟨.slice A key.length a, .slice B val.length b, ⟨key, ck, val, pg, ct⟩⟩ ∧ key.length ≤ 9223372036854775807 ∧ val.length ≤ 9223372036854775807 := by
  obtain ⟨kv, vv, key, ck, val, pg, ct⟩ := x
  obtain ⟨A, ca, hkv, hka⟩ := h.k.form
  obtain ⟨B, cb, hvv, hvb⟩ := h.v.form
  simp only at hkv hvv hka hvb
  subst hkv hvv
  exact ⟨A, ca, B, cb, key, ck, val, pg, ct, rfl, hka, hvb⟩
theorem longs_mem {l : List PC} {c : PC} (h : c ∈ l) : 2 + longF c ≤ sizeF l := by
  induction l with
  | nil => cases h
  | cons x r ih =>
    simp only [sizeF]
    rcases List.mem_cons.1 h with rfl | h
    · omega
    · have := ih h; omega
theorem key_long (c : PC) : c.key.length + c.val.length ≤ longF c + c.val.length := by unfold longF; split <;> omega
theorem sizeF_take (l : List PC) {i : Nat} (hi : i < l.length) : sizeF (l.take (i + 1)) = sizeF (l.take i) + (2 + longF l[i]) := by
  rw [List.take_succ_eq_append_getElem hi, sizeF_append]
  simp only [sizeF]; omega
theorem sizeF_take_le (l : List PC) (i : Nat) : sizeF (l.take i) ≤ sizeF l := by
  have : sizeF l = sizeF (l.take i) + (sizeF (l.drop i) - 8) := by rw [← sizeF_append, List.take_append_drop]
  omega
theorem pcs_at {l : List CV} {i : Nat} (hi : i < l.length) : (pcs l)[i]'(by rw [pcs_length]; exact hi) = l[i].c := by simp [pcs]
/-- Lengths that a machine has. -/
def Fit (l : List PC) : Prop := sizeF l ≤ 4611686018427387904 ∧ ∀ c ∈ l, c.key.length + c.val.length ≤ 4611686018427387904
set_option maxRecDepth 100000 in
set_option maxHeartbeats 4000000 in
theorem Size_any (kind : Int) (v : Value) (l : List CV) (w : World) (hl : RdCs w v l) (hf : Fit (pcs l)) :
    Calls Try.prog 16 #[.int .i64 kind, v] w fun e w' => e = .returned (.int .i64 (sizeF (pcs l) : Nat)) ∧ Below w.heap.size w w' := by
  obtain ⟨A, c, rfl, hm, hc⟩ := hl.slice
  obtain ⟨hf1, hf2⟩ := hf
  have HF2 := Lib.hid hf2
  clear hf2
  go_enter Try.func16, Try.ntmps16
  go_wp2_with fail
  go_loopw [5, 10] (fun n i wr => ∃ k : Nat, k ≤ l.length ∧ i = .int .i64 (k : Int) ∧ n = .int .i64 (sizeF ((pcs l).take k) : Nat) ∧ Below w.heap.size w wr) (fun _ i _ => l.length - (intOf i).toNat)
  case atStart => exact ⟨0, Nat.zero_le _, rfl, rfl, Below.refl _ _⟩
  case round =>
    obtain ⟨k, hk, rfl, rfl, hB⟩ := hrel
    by_cases hlt : k < l.length
    · have ik : (k : Int) < (l.length : Int) := by omega
      have hS := sizeF_take (pcs l) (i := k) (by rw [pcs_length]; exact hlt)
      have hS1 := sizeF_take_le (pcs l) (k + 1)
      rw [pcs_at hlt] at hS
      have hmem : l[k].c ∈ pcs l := by rw [← pcs_at hlt]; exact List.getElem_mem _
      have hkv := HF2.out _ hmem
      obtain ⟨ad, rfl, c0, c1, c2, c3, c4⟩ := (hl.below hB).at_ hlt
      have hx := (hl.below hB).ok _ (List.getElem_mem hlt)
      generalize l[k] = x at *
      obtain ⟨A1, a1, B1, b1, key, ck, val, pg, ct, rfl, _, _⟩ := CV.form hx
      have hlo := fun W => long_any ⟨.slice A1 key.length a1, .slice B1 val.length b1, ⟨key, ck, val, pg, ct⟩⟩ W
      unfold cellV at hlo
      have hA := hB.trans ((((Below.refl wr.heap.size wr).alloc (Nat.le_refl _) (.cells #[.slice A1 key.length a1, .int .i64 ck, .slice B1 val.length b1, .int .i64 pg, .int .i64 ct] 32))).mono hB.size)
      have hx' : CV.ok (wr.alloc (.cells #[.slice A1 key.length a1, .int .i64 ck, .slice B1 val.length b1, .int .i64 pg, .int .i64 ct] 32)) ⟨.slice A1 key.length a1, .slice B1 val.length b1, ⟨key, ck, val, pg, ct⟩⟩ := hx.below ((Below.refl _ _).alloc (Nat.le_refl _) _)
      have hS' : sizeF ((pcs l).take (k + 1)) = sizeF ((pcs l).take k) + (2 + longF ⟨key, ck, val, pg, ct⟩) := hS
      have HS := Lib.hid hS'
      have hkv' : key.length + val.length ≤ 4611686018427387904 := hkv
      have hS2 : sizeF ((pcs l).take k) + (2 + longF ⟨key, ck, val, pg, ct⟩) ≤ 4611686018427387904 := by omega
      generalize sizeF ((pcs l).take k) = s at *
      generalize longF ⟨key, ck, val, pg, ct⟩ = lo at *
      clear hS hS' hS1 hmem hx hB hkv
      go_wp2_with fail
      refine (hlo _ hx' (show key.length + val.length ≤ 9223372036854775000 by omega)).mono ?_
      rintro e w2 ⟨rfl, hb2⟩
      have hB2 := hA.trans (hb2.mono hA.size)
      go_wp2_with fail
      go_roundw
      case rel => exact ⟨k + 1, by omega, by go_num, by rw [HS.out]; go_num, hB2⟩
      case measure => simp [intOf]; omega
    · obtain rfl : k = l.length := by omega
      have e : (pcs l).take l.length = pcs l := List.take_of_length_le (by rw [pcs_length]; omega)
      rw [e]
      go_wp2_with fail
      go_ret
      exact ⟨rfl, hB⟩
set_option maxRecDepth 20000 in
set_option maxHeartbeats 1000000 in
theorem number_any (v : Value) (b : List UInt8) (at_ wd : Nat) (h1 : 1 ≤ wd) (h4 : wd ≤ 4) (ha : at_ + wd ≤ b.length) (w : World) (hv : RdB w v b) :
    Calls Try.prog 56 #[v, .int .i64 (at_ : Int), .int .i64 (wd : Int)] w fun e w' => e = .returned (.int .i64 (numAt b at_ wd : Nat)) ∧ w = w' := by
  have hn : numF ((b.drop at_).take wd) < 4294967296 := by
    refine Nat.lt_of_lt_of_le (numF_lt _) ?_
    calc 256 ^ ((b.drop at_).take wd).length ≤ 256 ^ 4 := Nat.pow_le_pow_right (by omega) (by simp; omega)
      _ = 4294967296 := by decide
  have hr := ReadFixed_any v b at_ wd h1 (by omega) ha w hv
  unfold numAt
  obtain ⟨A, c, rfl, hm⟩ := hv.form
  generalize numF ((b.drop at_).take wd) = q at *
  go_enter Try.func56, Try.ntmps56
  go_wp2_with fail
  refine hr.mono ?_
  rintro e w1 ⟨rfl, rfl⟩
  go_wp2_with fail
  go_ret
  exact ⟨by go_num, rfl⟩
theorem RdB.recap {w : World} {A : Option Addr} {n c c' : Nat} {l : List UInt8} (h : RdB w (.slice A n c) l) (h1 : n ≤ c') (h2 : c' ≤ maxLen) : RdB w (.slice A n c') l := by
  obtain ⟨A', c'', hv, k1, k2, k3⟩ := h
  injection hv with hA hn hc
  subst hA hn hc
  exact ⟨A, c', rfl, h1, h2, k3⟩
/-- x[lo:lo+n:lo+n] -/
theorem RdB.run_lhm {w : World} {A : Option Addr} {m c : Nat} {l : List UInt8} (h : RdB w (.slice A m c) l) (lo n : Nat) (h1 : lo + n ≤ l.length) :
    ∃ A', (∀ w', (Instr.slice 27 (.slice A m c) (some (.int .i64 (lo : Int))) (some (.int .i64 ((lo : Int) + (n : Int)))) (some (.int .i64 ((lo : Int) + (n : Int))))).run Try.prog w' = .ok (.slice A' n n) w') ∧ RdB w (.slice A' n n) ((l.drop lo).take n) := by
  obtain ⟨_, hc, hm⟩ := h.cap
  have e : ((lo : Int) + (n : Int)).toNat = lo + n := by omega
  refine ⟨if n = 0 then A else A.map (·.add lo), fun w' => ?_, ?_⟩
  · have := run_slice_lhm (P := Try.prog) w' 27 A m c u8_elem .i64 .i64 .i64 lo ((lo : Int) + n) ((lo : Int) + n) (by omega) (by omega) (by omega) (by omega)
    rw [this, u8_sizeOf]
    simp [Result.andThen, sliced, e]
  · by_cases h0 : n = 0
    · subst h0
      exact ⟨A, 0, by simp, by simp, by simp [maxLen], fun j hj => by simp at hj⟩
    · have hr := h.cut (lo := lo) (hi := lo + n) (by omega) h1
      rw [show lo + n - lo = n by omega, ← List.take_drop, if_neg (show ¬ c = lo by omega)] at hr
      rw [if_neg h0]
      exact hr.recap (Nat.le_refl _) (by simp only [maxLen]; omega)
set_option maxRecDepth 20000 in
set_option maxHeartbeats 1000000 in
theorem part_any (v : Value) (b : List UInt8) (at_ n : Nat) (ha : at_ + n ≤ b.length) (hb : b.length ≤ 140737488355328) (w : World) (hv : RdB w v b) :
    Calls Try.prog 81 #[v, .int .i64 (at_ : Int), .int .i64 (n : Int)] w fun e w' => ∃ g, e = .returned (.slice (some ⟨g, 0, none⟩) n n) ∧ g = w.heap.size ∧ OwB w' w.heap.size (.slice (some ⟨g, 0, none⟩) n n) ((b.drop at_).take n) ∧ Below w.heap.size w w' := by
  obtain ⟨A, c, rfl, hm⟩ := hv.form
  obtain ⟨A', hq, hr⟩ := hv.run_lhm at_ n ha
  have hl : ((b.drop at_).take n).length = n := by simp; omega
  have hw : IntKind.i64.wrap ((at_ : Int) + (n : Int)) = (at_ : Int) + (n : Int) := by rw [IntKind.wrap_i64]; omega
  go_enter Try.func81, Try.ntmps81
  go_wp2_with (first | (at_make; refine wp_make_B rfl (.tmp 19) (.tmp 19) rfl _ n rfl rfl rfl (by omega) ?_; intro w1 hb1 hw1 hs1) | ((with_reducible refine at_copy ?_); refine wp_copy_B rfl (.tmp 21) (.tmp 22) rfl _ n n w.heap.size 0 rfl _ hb1 (fun _ => rfl) (by simp) _ _ rfl (hr.below hw1 (Nat.le_refl _)) ?_; intro w2 hb2 hg2) | fail)
  go_ret
  have e : splice (List.replicate n (0 : UInt8)) 0 (((b.drop at_).take n).take (min ((b.drop at_).take n).length n)) = (b.drop at_).take n := by
    rw [hl, Nat.min_self, List.take_of_length_le (by omega)]
    unfold splice
    rw [hl]
    simp
  rw [e] at hb2
  have := hb2.owB' (base := w.heap.size) (Nat.le_refl _) (by rw [hl]; simp only [maxLen]; omega)
  rw [hl] at this
  exact ⟨_, rfl, rfl, this, hw1.grown hg2 hw1.size (fun k hk => Nat.le_of_eq (Option.some.inj hk))⟩
end Go.Proofs.Ytonbcipofakpjaa
