/- meta.Check: when the numbers may be a meta page's. -/
import Derived.Test.YtdnfbjmapdgnnaaMem
import Derived.Test.YtdnfbjmapdgnnaaProg
import Derived.Outline
import Derived.Deep.DeepCutAuto
import Derived.KernelRfl
namespace Go.Proofs.Ytdnfbjmapdgnnaa
open Go.RowKit

/-- A meta, as its eight numbers. -/
structure MetaN where
  engine : Int
  page : Int
  txn : Int
  root : Int
  count : Int
  free : Int
  listed : Int
  high : Int
def MetaN.cells (m : MetaN) : Array Value := #[.int .i64 m.engine, .int .i64 m.page, .int .i64 m.txn, .int .i64 m.root, .int .i64 m.count, .int .i64 m.free, .int .i64 m.listed, .int .i64 m.high]

def insideB (n h : Int) : Bool := decide (n = 0 ∨ 2 ≤ n ∧ n < h)
set_option maxHeartbeats 400000 in
theorem inside_any (n h : Int) (b o : Nat) (w : World) (hc : w.cell? ⟨b, 7, none⟩ = some (.int .i64 h)) :
    Calls Try.prog 25 #[.int .i64 n, .pointer (some ⟨b, 0, none⟩)] w fun e w' => e = .returned (.bool (insideB n h)) ∧ w = w' := by
  by_cases h0 : n = 0
  · have e1 : insideB n h = true := by unfold insideB; simp [h0]
    have e2 : (n == 0) = true := by simp [h0]
    clear h0
    rw [e1]
    clear e1
    go_enter Try.func25, Try.ntmps25
    go_wp2
    go_ret
    exact ⟨rfl, rfl⟩
  · have e2 : (n == 0) = false := by simp [h0]
    by_cases h2 : 2 ≤ n
    · by_cases h3 : n < h
      · have e1 : insideB n h = true := by unfold insideB; simp [h2, h3]
        rw [e1]
        clear e1 h0
        go_enter Try.func25, Try.ntmps25
        go_wp2
        go_ret
        exact ⟨by simp [*], rfl⟩
      · have e1 : insideB n h = false := by unfold insideB; simp [h0, h2, h3]
        rw [e1]
        clear e1 h0
        go_enter Try.func25, Try.ntmps25
        go_wp2
        go_ret
        exact ⟨by simp [*], rfl⟩
    · have e1 : insideB n h = false := by unfold insideB; simp [h0, h2]
      rw [e1]
      clear e1 h0
      go_enter Try.func25, Try.ntmps25
      go_wp2
      go_ret
      exact ⟨by simp [*], rfl⟩

/-! ### Check -/
def isPow (p : Int) : Prop := p = 512 ∨ p = 1024 ∨ p = 2048 ∨ p = 4096 ∨ p = 8192 ∨ p = 16384 ∨ p = 32768 ∨ p = 65536
instance (p : Int) : Decidable (isPow p) := by unfold isPow; infer_instance
def isPowB (p : Int) : Bool := decide (isPow p)
theorem and_pred (k p : Nat) (h1 : 2 ^ k ≤ p) (h2 : p < 2 ^ (k + 1)) : p &&& (p - 1) = 0 ↔ p = 2 ^ k := by
  constructor
  · intro h
    rcases Nat.lt_or_ge (2 ^ k) p with hlt | hge
    · have h3 : p.testBit k = true := by
        have := Nat.testBit_two_pow_add_eq (p - 2 ^ k) k
        rw [show 2 ^ k + (p - 2 ^ k) = p by omega] at this
        rw [this, Nat.testBit_lt_two_pow (by rw [Nat.pow_succ] at h2; omega)]; rfl
      have h4 : (p - 1).testBit k = true := by
        have := Nat.testBit_two_pow_add_eq (p - 1 - 2 ^ k) k
        rw [show 2 ^ k + (p - 1 - 2 ^ k) = p - 1 by omega] at this
        rw [this, Nat.testBit_lt_two_pow (by rw [Nat.pow_succ] at h2; omega)]; rfl
      have h5 := congrArg (fun x => Nat.testBit x k) h
      simp [Nat.testBit_and, h3, h4] at h5
    · omega
  · rintro rfl
    apply Nat.eq_of_testBit_eq
    intro i
    rw [Nat.testBit_and, Nat.testBit_two_pow, Nat.testBit_two_pow_sub_one]
    by_cases h : k = i
    · subst h; simp
    · simp [h]
theorem i64_and_nat (a b : Nat) (ha : a < 9223372036854775808) (hb : b < 9223372036854775808) : bits .and .i64 (a : Int) (b : Int) = ((a &&& b : Nat) : Int) := by
  have oi : ∀ a : Nat, a < 9223372036854775808 → (BitVec.ofInt 64 (a : Int)).toNat = a := fun a ha => by
    rw [BitVec.ofInt_natCast, BitVec.toNat_ofNat]; exact Nat.mod_eq_of_lt (by omega)
  have hx : a &&& b < 2 ^ 63 := Nat.and_lt_two_pow _ (by omega)
  show IntKind.i64.wrap ((BitVec.ofInt 64 (a : Int) &&& BitVec.ofInt 64 (b : Int)).toNat : Int) = _
  rw [BitVec.toNat_and, oi a ha, oi b hb, IntKind.wrap_i64]
  omega
theorem pow_test (p : Int) (h1 : 512 ≤ p) (h2 : p ≤ 65536) : (bits .and .i64 p (p - 1) != 0) = !isPowB p := by
  obtain ⟨n, rfl⟩ := Int.eq_ofNat_of_zero_le (show 0 ≤ p by omega)
  have e : ((n : Int) - 1) = ((n - 1 : Nat) : Int) := by omega
  rw [e, i64_and_nat n (n - 1) (by omega) (by omega)]
  have key : n &&& (n - 1) = 0 ↔ isPow n := by
    unfold isPow
    rcases Nat.lt_or_ge n 1024 with h | h
    · rw [and_pred 9 n (by omega) (by omega)]; omega
    rcases Nat.lt_or_ge n 2048 with h | h
    · rw [and_pred 10 n (by omega) (by omega)]; omega
    rcases Nat.lt_or_ge n 4096 with h | h
    · rw [and_pred 11 n (by omega) (by omega)]; omega
    rcases Nat.lt_or_ge n 8192 with h | h
    · rw [and_pred 12 n (by omega) (by omega)]; omega
    rcases Nat.lt_or_ge n 16384 with h | h
    · rw [and_pred 13 n (by omega) (by omega)]; omega
    rcases Nat.lt_or_ge n 32768 with h | h
    · rw [and_pred 14 n (by omega) (by omega)]; omega
    rcases Nat.lt_or_ge n 65536 with h | h
    · rw [and_pred 15 n (by omega) (by omega)]; omega
    · rw [and_pred 16 n (by omega) (by omega)]; omega
  unfold isPowB
  by_cases h : isPow n
  · rw [key.2 h]; simp [h]
  · have : n &&& (n - 1) ≠ 0 := fun h' => h (key.1 h')
    simp only [h, decide_false, Bool.not_false, bne_iff_ne]; omega
theorem mfun : ∀ (fn : Fn) (first cap : Array Value) (w : World), (Instr.makeFunc fn first cap).run Try.prog w = .ok (.func fn first cap) w := fun _ _ _ _ => rfl
def engB (eg : Int) : Bool := decide (eg = 1 ∨ eg = 2)
def txnB (tx : Int) : Bool := decide (0 ≤ tx ∧ tx ≤ 1099511627776)
def highB (hi : Int) : Bool := decide (2 ≤ hi ∧ hi ≤ 65536)
def linkB (rt fr hi : Int) : Bool := insideB rt hi && insideB fr hi && !decide (rt = fr ∧ rt ≠ 0)
def countB (ct rt : Int) : Bool := decide ((0 ≤ ct ∧ ct ≤ 256) ∧ (ct = 0 ↔ rt = 0))
def listB (ls hi fr : Int) : Bool := decide ((0 ≤ ls ∧ ls ≤ hi - 2) ∧ (ls = 0 ∨ fr ≠ 0))
/-- May the eight numbers be a meta page's? -/
def okB (eg pg tx rt ct fr ls hi : Int) : Bool := engB eg && isPowB pg && txnB tx && highB hi && linkB rt fr hi && countB ct rt && listB ls hi fr
theorem bool_v {a b : Bool} (h : a = b) : Value.bool a = .bool b := by rw [h]
theorem tf (b : Bool) : b = true ∨ b = false := by cases b <;> simp
abbrev metaCells (eg pg tx rt ct fr ls hi : Int) : Array Value := #[.int .i64 eg, .int .i64 pg, .int .i64 tx, .int .i64 rt, .int .i64 ct, .int .i64 fr, .int .i64 ls, .int .i64 hi]
theorem eng_2' (eg : Int) (h : ¬ eg = 1) : (eg != 2) = !engB eg := by unfold engB; by_cases h2 : eg = 2 <;> simp [h, h2]
theorem pow_1 (p : Int) (h1 : 512 ≤ p) (h2 : p ≤ 65536) : (decide (p < 512) || decide (65536 < p) || bits .and .i64 p (p - 1) != 0) = !isPowB p := by
  rw [pow_test p h1 h2]
  simp only [show ¬ p < 512 by omega, show ¬ 65536 < p by omega, decide_false, Bool.false_or]
theorem pow_2 (p : Int) (h : 65536 < p) : true = !isPowB p := by
  have : ¬ isPow p := by unfold isPow; omega
  simp [isPowB, this]
theorem pow_3 (p : Int) (h : p < 512) : true = !isPowB p := by
  have : ¬ isPow p := by unfold isPow; omega
  simp [isPowB, this]
theorem t_1 (tx : Int) : (decide (tx < 0) || decide (1099511627776 < tx)) = !txnB tx := by
  unfold txnB
  by_cases h1 : tx < 0 <;> by_cases h2 : 1099511627776 < tx <;> simp [h1, h2] <;> omega
theorem t_2 (tx : Int) (h : tx < 0) : true = !txnB tx := by
  have : ¬ (0 ≤ tx ∧ tx ≤ 1099511627776) := by omega
  unfold txnB; rw [decide_eq_false this]; rfl
theorem h_1 (hi : Int) : (decide (hi < 2) || decide (65536 < hi)) = !highB hi := by
  unfold highB
  by_cases h1 : hi < 2 <;> by_cases h2 : 65536 < hi <;> simp [h1, h2] <;> omega
theorem h_2 (hi : Int) (h : hi < 2) : true = !highB hi := by
  have : ¬ (2 ≤ hi ∧ hi ≤ 65536) := by omega
  unfold highB; rw [decide_eq_false this]; rfl
theorem l_1 (rt fr hi : Int) (h : insideB rt hi = false) : true = !linkB rt fr hi := by simp [linkB, h]
theorem l_2 (rt fr hi : Int) (h : insideB fr hi = false) : true = !linkB rt fr hi := by simp [linkB, h]
theorem l_3 (rt fr hi : Int) (h : insideB rt hi = true) (h' : insideB fr hi = true) (hq : (rt == fr) = true) : (rt != 0) = !linkB rt fr hi := by
  have hq : rt = fr := by simpa using hq
  subst hq
  by_cases h0 : rt = 0 <;> simp [linkB, h, h0]
  subst h0; exact h
theorem l_4 (rt fr hi : Int) (h : insideB rt hi = true) (h' : insideB fr hi = true) (hq : (rt == fr) = false) : false = !linkB rt fr hi := by
  have hq : ¬ rt = fr := by simpa using hq
  simp [linkB, h, h', hq]
theorem c_1 (ct rt : Int) : (decide (ct < 0) || decide (256 < ct) || !((ct == 0) == (rt == 0))) = !countB ct rt := by
  unfold countB
  by_cases h : ct = 0
  · subst h
    by_cases h' : rt = 0 <;> simp [h']
  · by_cases h' : rt = 0
    · have : ¬ ((0 ≤ ct ∧ ct ≤ 256) ∧ (ct = 0 ↔ rt = 0)) := by rintro ⟨_, h2⟩; exact h (h2.2 h')
      rw [decide_eq_false this]; simp [h, h']
    · have e1 : (ct == 0) = false := by simp [h]
      have e2 : (rt == 0) = false := by simp [h']
      rw [e1, e2]
      by_cases h1 : ct < 0
      · have : ¬ ((0 ≤ ct ∧ ct ≤ 256) ∧ (ct = 0 ↔ rt = 0)) := by omega
        rw [decide_eq_false this]; simp [h1]
      · by_cases h2 : 256 < ct
        · have : ¬ ((0 ≤ ct ∧ ct ≤ 256) ∧ (ct = 0 ↔ rt = 0)) := by omega
          rw [decide_eq_false this]; simp [h2]
        · have : (0 ≤ ct ∧ ct ≤ 256) ∧ (ct = 0 ↔ rt = 0) := ⟨by omega, by omega⟩
          rw [decide_eq_true this]; simp [h1, h2]
theorem c_2 (ct rt : Int) (h : 256 < ct) : true = !countB ct rt := by
  rw [Bool.eq_iff_iff]; simp [countB]; omega
theorem c_3 (ct rt : Int) (h : ct < 0) : true = !countB ct rt := by
  rw [Bool.eq_iff_iff]; simp [countB]; omega
theorem i_1 (ls hi fr : Int) (h : 0 < ls) : (decide (ls < 0) || decide (hi - 2 < ls) || fr == 0) = !listB ls hi fr := by
  rw [Bool.eq_iff_iff]
  by_cases h' : fr = 0 <;> simp [listB, h'] <;> omega
theorem i_2 (ls hi fr : Int) (h : ls ≤ 0) : (decide (ls < 0) || decide (hi - 2 < ls)) = !listB ls hi fr := by
  rw [Bool.eq_iff_iff]
  by_cases h' : fr = 0 <;> simp [listB, h'] <;> omega
theorem i_3 (ls hi fr : Int) (h : ls < 0) : true = !listB ls hi fr := by
  rw [Bool.eq_iff_iff]; simp [listB]; omega
theorem i_4 (ls hi fr : Int) (h : hi - 2 < ls) : true = !listB ls hi fr := by
  rw [Bool.eq_iff_iff]; simp [listB]; omega
end Go.Proofs.Ytdnfbjmapdgnnaa
