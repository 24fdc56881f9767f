/- espalierref05.number, Decode: walks. -/
import Derived.Test.YtdnfbjmapdgnnaaMetaDecA
import Derived.Test.YtdnfbjmapdgnnaaRefMetaEnc
import Derived.Deep.RegionHeld3
namespace Go.Proofs.Ytdnfbjmapdgnnaa
open Go.RowKit

theorem numF_take_le (m : List UInt8) (j : Nat) : numF (m.take j) ≤ numF m := by
  have aux : ∀ (r : List UInt8) (n : Nat), n ≤ r.foldl (fun n x => n * 256 + x.toNat) n := by
    intro r
    induction r with
    | nil => intro n; exact Nat.le_refl _
    | cons x r ih => intro n; exact Nat.le_trans (show n ≤ n * 256 + x.toNat by omega) (ih _)
  have e : numF m = (m.drop j).foldl (fun n x => n * 256 + x.toNat) (numF (m.take j)) := by
    conv => lhs; rw [← List.take_append_drop j m]
    unfold numF
    rw [List.foldl_append]
  rw [e]; exact aux _ _
theorem numF_lt4 (l : List UInt8) (at_ : Nat) : numF ((l.drop at_).take 4) ≤ 4294967295 := by
  have := numF_lt ((l.drop at_).take 4)
  have h2 : ((l.drop at_).take 4).length ≤ 4 := by simp; omega
  have h3 : 256 ^ ((l.drop at_).take 4).length ≤ 256 ^ 4 := Nat.pow_le_pow_right (by omega) h2
  omega
theorem numF_cons (x : UInt8) (r : List UInt8) : numF (x :: r) = x.toNat * 256 ^ r.length + numF r := by
  have aux : ∀ (r : List UInt8) (n : Nat), r.foldl (fun n x => n * 256 + x.toNat) n = n * 256 ^ r.length + r.foldl (fun n x => n * 256 + x.toNat) 0 := by
    intro r
    induction r with
    | nil => intro n; simp
    | cons y r ih =>
      intro n
      simp only [List.foldl_cons, List.length_cons]
      rw [ih, ih (0 * 256 + y.toNat), Nat.pow_succ]
      simp only [Nat.zero_mul, Nat.zero_add, Nat.add_mul, Nat.add_assoc, Nat.mul_assoc]
      rw [Nat.mul_comm 256]
  unfold numF
  rw [List.foldl_cons, aux]; simp
theorem drop12 (l : List UInt8) (h : 512 ≤ l.length) : ∃ r, (l.drop 12).take 8 = l[12] :: r ∧ r.length = 7 := by
  refine ⟨(l.drop 13).take 7, ?_, by simp; omega⟩
  rw [List.drop_eq_getElem_cons (by omega)]; rfl
theorem txn_small (l : List UInt8) (h : 512 ≤ l.length) (hb : l[12].toNat ≤ 127) : numF ((l.drop 12).take 8) ≤ 9223372036854775807 := by
  obtain ⟨r, e, hr⟩ := drop12 l h
  have := numF_lt r
  rw [e, numF_cons, hr]
  rw [hr] at this
  omega
theorem txn_big (l : List UInt8) (h : 512 ≤ l.length) (hb : 127 < l[12].toNat) : fldI l 1 < 0 := by
  obtain ⟨r, e, hr⟩ := drop12 l h
  have := numF_lt r
  have hx := l[12].toNat_lt
  unfold fldI
  rw [show placeAt 1 = 12 from rfl, show placeW 1 = 8 from rfl, e, numF_cons, hr, IntKind.wrap_i64]
  rw [hr] at this
  omega
theorem okL_txn {l : List UInt8} (h : fldI l 1 < 0) : okL l = false := by
  have : txnB (fldI l 1) = false := decide_eq_false (by omega)
  simp [okL, okB, this]
theorem fldI_small (l : List UInt8) (j : Nat) (h : numF ((l.drop (placeAt j)).take (placeW j)) ≤ 9223372036854775807) : fldI l j = (numF ((l.drop (placeAt j)).take (placeW j)) : Nat) := by
  unfold fldI; rw [IntKind.wrap_i64]; omega

set_option maxHeartbeats 400000 in
theorem number_any (v : Value) (l : List UInt8) (at_ wd : Nat) (h1 : 1 ≤ wd) (h8 : wd ≤ 8) (ha : at_ + wd ≤ l.length) (hn : numF ((l.drop at_).take wd) ≤ 9223372036854775807) (w : World) (hv : RdB w v l) :
    Calls Try.prog 34 #[v, .int .i64 at_, .int .i64 wd] w fun e w' => e = .returned (.int .i64 (numF ((l.drop at_).take wd) : Nat)) ∧ w = w' := by
  obtain ⟨A, c, rfl, hm⟩ := hv.form
  have g4 : (at_ : Int) + (wd : Int) ≤ (l.length : Int) := by omega
  have hlen : ((l.drop at_).take wd).length = wd := by simp; omega
  have HG := Lib.hid (fun (j : Nat) (hj : j < wd) => show ((l.drop at_).take wd)[j]? = l[at_ + j]? by rw [List.getElem?_take_of_lt hj, List.getElem?_drop])
  generalize hmm : (l.drop at_).take wd = m at *
  have HL := Lib.hid hlen
  clear hlen hmm
  go_enter Try.func34, Try.ntmps34
  go_wp2
  go_loop [7, 8] (fun n i => ∃ j : Nat, i = .int .i64 (j : Int) ∧ j ≤ wd ∧ n = .int .i64 (numF (m.take j) : Nat)) (fun _ i => wd - (intOf i).toNat)
  case atStart => exact ⟨0, rfl, Nat.zero_le _, rfl⟩
  case round =>
    obtain ⟨j, rfl, hj, rfl⟩ := hrel
    by_cases hlt : j < wd
    · obtain ⟨ad, rfl, hcell⟩ := hv.at_ (j := at_ + j) (by omega)
      have hjm : j < m.length := by rw [HL.out]; exact hlt
      have hs : numF (m.take (j + 1)) = numF (m.take j) * 256 + l[at_ + j].toNat := by
        have hg := HG.out j hlt
        rw [List.getElem?_eq_getElem hjm, List.getElem?_eq_getElem (by omega)] at hg
        injection hg with hg
        rw [List.take_succ_eq_append_getElem hjm, numF_snoc, hg]
      have hle := numF_take_le m (j + 1)
      rw [hs] at hle
      have hb1 : 256 * (numF (m.take j) : Int) ≤ 9223372036854775807 := by omega
      have hb2 : 256 * (numF (m.take j) : Int) + (l[at_ + j].toNat : Int) ≤ 9223372036854775807 := by omega
      have HS := Lib.hid hs
      have a1 : (0 : Int) ≤ (at_ : Int) + (j : Int) := by omega
      have a2 : (at_ : Int) + (j : Int) < (l.length : Int) := by omega
      clear hs hle
      have hxb : l[at_ + j].toNat < 256 := l[at_ + j].toNat_lt
      generalize l[at_ + j].toNat = x at *
      generalize numF (m.take j) = n at *
      go_wp2
      go_round
      case rel => exact ⟨j + 1, by go_num, by omega, by rw [HS.out, Nat.mul_comm]; go_num⟩
      case measure => simp [intOf]; omega
    · obtain rfl : j = wd := by omega
      rw [List.take_of_length_le (by rw [HL.out]; exact Nat.le_refl _)]
      go_wp2
      go_ret
      exact ⟨rfl, rfl⟩
end Go.Proofs.Ytdnfbjmapdgnnaa
