/- ink.ReadFixed: the walk. -/
import Derived.Test.YtgnhakgfgdelpaaBytes
namespace Go.Proofs.Ytgnhakgfgdelpaa
open Go.RowKit

/-- What bytes say as a number, the highest first. -/
def numF (l : List UInt8) : Nat := l.foldl (fun n x => n * 256 + x.toNat) 0
theorem numF_snoc (l : List UInt8) (x : UInt8) : numF (l ++ [x]) = numF l * 256 + x.toNat := by simp [numF]
theorem numF_lt_aux (l : List UInt8) (n : Nat) : l.foldl (fun n x => n * 256 + x.toNat) n < (n + 1) * 256 ^ l.length := by
  induction l generalizing n with
  | nil => simp
  | cons x l ih =>
    have hx := x.toNat_lt
    have := ih (n * 256 + x.toNat)
    simp only [List.foldl_cons, List.length_cons]
    refine Nat.lt_of_lt_of_le this ?_
    rw [Nat.pow_succ, Nat.mul_comm (256 ^ l.length), ← Nat.mul_assoc]
    exact Nat.mul_le_mul_right _ (by omega)
theorem numF_lt (l : List UInt8) : numF l < 256 ^ l.length := by
  have := numF_lt_aux l 0
  simpa [numF] using this
theorem or_byte (n x : Nat) (hn : n < 72057594037927936) (hx : x < 256) : bits .or .u64 ((n : Int) * 256) (x : Int) = ((n * 256 + x : Nat) : Int) := by
  have := u64_or_nat (n * 256) x (by omega) (by omega)
  rw [nat_join 8 (n * 256) x (by omega) (by omega)] at this
  exact this
theorem numF_lt7 (l : List UInt8) (h : l.length ≤ 7) : numF l < 72057594037927936 := by
  have := numF_lt l
  have h2 : 256 ^ l.length ≤ 256 ^ 7 := Nat.pow_le_pow_right (by omega) h
  have h3 : 256 ^ 7 = 72057594037927936 := by decide
  omega
set_option maxHeartbeats 400000 in
theorem ReadFixed_any (v : Value) (l : List UInt8) (at_ wd : Nat) (h1 : 1 ≤ wd) (h8 : wd ≤ 8) (ha : at_ + wd ≤ l.length) (w : World) (hv : RdB w v l) :
    Calls Try.prog 41 #[v, .int .i64 at_, .int .i64 wd] w fun e w' => e = .returned (.tuple #[.int .u64 (numF ((l.drop at_).take wd) : Nat), .int .i64 0]) ∧ w = w' := by
  obtain ⟨A, c, rfl, hm⟩ := hv.form
  have hc : l.length ≤ c := by
    obtain ⟨_, _, hv', h, _⟩ := hv
    injection hv' with _ _ hc
    subst hc; exact h
  have hcut := hv.cut (lo := at_) (hi := at_ + wd) (by omega) ha
  rw [show at_ + wd - at_ = wd by omega] at hcut
  have hlen : ((l.take (at_ + wd)).drop at_).length = wd := by simp; omega
  have heq : (l.take (at_ + wd)).drop at_ = (l.drop at_).take wd := by rw [List.drop_take]; congr 1; omega
  rw [heq] at hcut hlen
  obtain ⟨ad, rfl, hx⟩ := hv.at_ (j := at_) (by omega)
  clear hx heq hv
  rw [if_neg (by omega)] at hcut
  generalize (l.drop at_).take wd = m at *
  have g1 : (1 : Int) ≤ (wd : Int) := by omega
  have g2 : (wd : Int) ≤ 8 := by omega
  have g3 : (0 : Int) ≤ (at_ : Int) := by omega
  have g4 : (at_ : Int) + (wd : Int) ≤ (l.length : Int) := by omega
  have g5 : (l.length : Int) ≤ (c : Int) := by omega
  have g6 : (l.length : Int) ≤ 9223372036854775807 := by omega
  have HL := Lib.hid hlen
  clear hlen
  go_enter Try.func41, Try.ntmps41
  go_wp2
  go_loop [8, 42] (fun n i => ∃ j : Nat, i = .int .i64 (j : Int) ∧ j ≤ wd ∧ n = .int .u64 (numF (m.take j) : Nat)) (fun _ i => wd - (intOf i).toNat)
  case atStart => exact ⟨0, rfl, Nat.zero_le _, rfl⟩
  case round =>
    obtain ⟨j, rfl, hj, rfl⟩ := hrel
    by_cases hlt : j < wd
    · have hjm : j < m.length := by rw [HL.out]; exact hlt
      obtain ⟨ad', hA, hcell⟩ := hcut.at_ hjm
      simp only [Option.map_some, Option.some.injEq] at hA
      subst hA
      have hb := numF_lt7 (m.take j) (by simp; omega)
      have hs : numF (m.take (j + 1)) = numF (m.take j) * 256 + m[j].toNat := by
        rw [List.take_succ_eq_append_getElem hjm, numF_snoc]
      have HS := Lib.hid hs
      clear hs
      have hxb : m[j].toNat < 256 := m[j].toNat_lt
      generalize m[j].toNat = x at *
      generalize numF (m.take j) = n at *
      have hor := or_byte n x hb hxb
      rw [← HS.out] at hor
      generalize hn' : numF (m.take (j + 1)) = n' at *
      have HN := Lib.hid hn'
      clear hn'
      go_wp2
      go_round
      case rel => exact ⟨j + 1, by go_num, by omega, by rw [HN.out]⟩
      case measure => simp [intOf]; omega
    · obtain rfl : j = wd := by omega
      rw [List.take_of_length_le (by rw [HL.out]; exact Nat.le_refl _)]
      go_wp2
      go_ret2
      exact ⟨rfl, rfl⟩
end Go.Proofs.Ytgnhakgfgdelpaa
