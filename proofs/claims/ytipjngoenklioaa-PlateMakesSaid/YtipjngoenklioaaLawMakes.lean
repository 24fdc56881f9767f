/- espalierlaw03.PlateMakes: the walk. -/
import Derived.Test.YtipjngoenklioaaPlaAwake
import Derived.Test.YtipjngoenklioaaRfLoad
import Derived.Test.YtipjngoenklioaaAsLent9
namespace Go.Proofs.Ytipjngoenklioaa
open Go.RowKit
def LoadOk (size : Int) (l : List UInt8) : Prop := isPowB size = true ∧ (l.length : Int) % size = 0 ∧ devB size ((l.length : Int) / size) = true
theorem LoadOk.nat {size : Int} {l : List UInt8} (h : LoadOk size l) : ∃ s n : Nat, size = (s : Int) ∧ l.length = n * s ∧ devB (s : Int) (n : Int) = true := by
  obtain ⟨h1, h2, h3⟩ := h
  have h5 := isPowB_range h1
  obtain ⟨s, rfl⟩ := Int.eq_ofNat_of_zero_le (show 0 ≤ size by omega)
  have h6 : 0 ≤ (l.length : Int) / (s : Int) := Int.ediv_nonneg (by omega) (by omega)
  obtain ⟨n, hn⟩ := Int.eq_ofNat_of_zero_le h6
  refine ⟨s, n, rfl, ?_, by rw [← hn]; exact h3⟩
  have h7 := Int.mul_ediv_add_emod (l.length : Int) (s : Int)
  rw [hn, h2, Int.add_zero] at h7
  have h8 : ((n * s : Nat) : Int) = (l.length : Int) := by rw [Int.natCast_mul, Int.mul_comm]; exact h7
  omega
theorem LoadOk.not {size : Int} {l : List UInt8} (h : ¬ LoadOk size l) : isPowB size = false ∨ (l.length : Int) % size ≠ 0 ∨ devB size ((l.length : Int) / size) = false := by
  cases h1 : isPowB size
  · exact .inl rfl
  · by_cases h2 : (l.length : Int) % size = 0
    · cases h3 : devB size ((l.length : Int) / size)
      · exact .inr (.inr rfl)
      · exact absurd ⟨h1, h2, h3⟩ h
    · exact .inr (.inl h2)
theorem dev_nat {size pages : Int} (h : devB size pages = true) : ∃ s n : Nat, size = (s : Int) ∧ pages = (n : Int) := by
  obtain ⟨h1, h2, _, _⟩ := devB_spec h
  have h5 := isPowB_range h1
  obtain ⟨s, hs⟩ := Int.eq_ofNat_of_zero_le (show 0 ≤ size by omega)
  obtain ⟨n, hn⟩ := Int.eq_ofNat_of_zero_le (show 0 ≤ pages by omega)
  exact ⟨s, n, hs, hn⟩
set_option maxRecDepth 100000 in
set_option maxHeartbeats 4000000 in
theorem makes_11 (v : Value) (l : List UInt8) (hl : l.length ≤ 140737488351232) (w : World) (hv : RdB w v l) (s n : Nat) (hd : devB (s : Int) (n : Int) = true) (m : Nat) (hld : devB (s : Int) (m : Int) = true) (hll : l.length = m * s) :
    Calls Try.prog 5 #[.int .i64 (s : Int), .int .i64 (n : Int), v] w fun e w' => e = .returned (.bool true) ∧ Below w.heap.size w w' := by
  obtain ⟨A, c, rfl, hm⟩ := hv.form
  have h5 : 512 ≤ (s : Int) ∧ (s : Int) ≤ 65536 := isPowB_range (devB_spec hd).1
  have hn5 : (n : Int) ≤ 65536 := (devB_spec hd).2.2.1
  have HD := Lib.hid hd
  clear hd
  have HLD := Lib.hid hld
  have HLL := Lib.hid hll
  clear hld hll
  go_enter Try.func5, Try.ntmps5
  go_wp2_with fail
  refine (awake_any _).mono ?_
  rintro e w1 ⟨rfl, hb1⟩
  go_wp2_with fail
  refine (New_ok s n HD.out _).mono ?_
  rintro e w2 ⟨r2, F2, rfl, hP2, hF2, hb2⟩
  unfold plPtr
  go_wp2_with fail
  refine (RNew_ok s n HD.out _).mono ?_
  rintro e w3 ⟨r3, F3, rfl, hP3, hF3, hb3⟩
  unfold rfPtr
  have hQ := hP2.below hb3
  have hB3 : Below w.heap.size w w3 := (hb1.trans (hb2.mono hb1.size)).trans (hb3.mono (Nat.le_trans hb1.size hb2.size))
  have k1 := Page_any w3 F2 r2 _ hQ
  have k2 := Pages_any w3 F2 r2 _ hQ
  have k3 := fun w' (hb : Below w3.heap.size w3 w') => Up_any w' F2 r2 _ (hQ.below hb)
  have k4 := fun w' (hb : Below w3.heap.size w3 w') => Loose_any w' F2 r2 _ (hQ.below hb)
  unfold plPtr at k1 k2 k3 k4
  rw [show (S0 s n).page = s from rfl] at k1
  rw [show (S0 s n).np = n from rfl] at k2
  have K3 := Lib.hid k3
  have K4 := Lib.hid k4
  clear hQ hP2 hP3 hb1 hb2 hb3 hF2 hF3 k3 k4
  go_wp2_with (first
    | (go_at_call 19; refine k1.mono ?_; rintro e w4 ⟨rfl, rfl⟩)
    | (go_at_call 20; refine k2.mono ?_; rintro e w4 ⟨rfl, hb4⟩)
    | (go_at_call 14; refine (K3.out _ hb4).mono ?_; rintro e w5 ⟨rfl, rfl⟩; rw [show (S0 s n).down = false from rfl])
    | (go_at_call 17; refine (K4.out _ hb4).mono ?_; rintro e w5 ⟨rfl, rfl⟩; rw [show (S0 s n).wild.length = 0 from rfl])
    | fail)
  have hB : Below w.heap.size w w4 := hB3.trans (hb4.mono hB3.size)
  clear hB3 hb4 k1 k2 K3 K4
  have hv1 := hv.below hB (Nat.le_refl _)
  refine (Lent_any _ l _ hv1 (by omega)).mono ?_
  rintro e w6 ⟨g6, rfl, ho6, hb6⟩
  have hv6 := hv1.below hb6 (Nat.le_refl _)
  have hB6 := hB.trans (hb6.mono hB.size)
  have hr6 : RdB w6 (.slice (some ⟨g6, 0, none⟩) l.length (l.length + 9)) l := ho6.part' rfl
  have hg6 := ho6.lt g6 rfl
  clear hv1 hb6
  go_wp2_with fail
  refine (Load_ok s m HLD.out _ l HLL.out _ hr6).mono ?_
  rintro e w7 ⟨r7, F7, rfl, hP7, hF7, hb7⟩
  unfold plPtr
  have ho7 := ho6.below2 hb7
  have hv7 := hv6.below hb7 (Nat.le_refl _)
  have hB7 := hB6.trans (hb7.mono hB6.size)
  go_wp2_with fail
  refine (AsLent_any g6 l.length _ l w4.heap.size _ rfl ho7 hv7 (by omega)).mono ?_
  rintro e w8 ⟨rfl, hg8⟩
  have hB8 := hB7.grown hg8 hB7.size (fun k e => by cases e; have := hB.size; omega)
  have hv8 : RdB w8 (.slice A l.length c) l := hv.below hB8 (Nat.le_refl _)
  have hP8 : PlRaw w8 F7 r7 (SL s m l) := hP7.turn (Turn.of_grown (F := fun k => k = g6) hg8 (fun k e => (Option.some.inj e).symm)) (fun k hf e => by have := hF7 k hf; omega)
  clear hr6 hv6 ho6 hv7 ho7 hg8 hP7
  go_wp2_with fail
  refine (RLoad_ok s m HLD.out _ l HLL.out _ hv8).mono ?_
  rintro e w9 ⟨r9, F9, rfl, hP9, hF9, hb9⟩
  unfold rfPtr
  have hQ9 := hP8.below hb9
  have hB9 := hB8.trans (hb9.mono hB8.size)
  have j1 := Image_any w9 F7 r7 _ hQ9
  unfold plPtr at j1
  have efl : (SL s m l).pg.flatten = l := by
    show (chunk s l m).flatten = l
    rw [chunk_flat s l m (Nat.le_of_eq HLL.out.symm), ← HLL.out, List.take_length]
  rw [show syncPg (SL s m l).wild (SL s m l).pg = (SL s m l).pg from rfl, efl] at j1
  clear hv8 hP8 hb9 hB8 hF9 hB7 hb7
  go_wp2_with fail
  refine j1.mono ?_
  rintro e w10 ⟨v10, rfl, ho10, hb10⟩
  have hQ10 := hQ9.below hb10
  have j2 := Safe_any w10 F7 r7 _ hQ10
  unfold plPtr at j2
  rw [efl] at j2
  clear j1
  go_wp2_with fail
  refine j2.mono ?_
  rintro e w11 ⟨v11, rfl, ho11, hb11⟩
  have hB10 := hB9.trans (hb10.mono hB9.size)
  have hB11 := hB10.trans (hb11.mono hB10.size)
  have hQ11 := hQ10.below hb11
  have hR11 := (hP9.below hb10).below hb11
  have q1 := run_B_string (ho10.below2 hb11).rd
  have q2 := run_B_string ho11.rd
  have q3 := run_B_string (hv.below hB11 (Nat.le_refl _))
  have k1 := Up_any w11 F7 r7 _ hQ11
  have k2 := Pages_any w11 F7 r7 _ hQ11
  have k3 := fun w' (hb : Below w11.heap.size w11 w') => RPages_any w' F9 r9 _ (hR11.below hb)
  unfold plPtr at k1 k2
  unfold rfPtr at k3
  rw [show (SL s m l).down = false from rfl] at k1
  rw [show (SL s m l).np = m from rfl] at k2 k3
  have K3 := Lib.hid k3
  clear ho10 ho11 hb10 hb11 hQ9 hQ10 hQ11 hR11 hP9 hB9 hB10 k3 j2 hv
  go_wp2_with (first
    | (go_at_call 14; refine k1.mono ?_; rintro e w12 ⟨rfl, rfl⟩)
    | (go_at_call 20; refine k2.mono ?_; rintro e w12 ⟨rfl, hb12⟩)
    | (go_at_call 25; refine (K3.out _ hb12).mono ?_; rintro e w13 ⟨rfl, rfl⟩)
    | fail)
  go_ret
  exact ⟨rfl, hB11.trans (hb12.mono hB11.size)⟩
set_option maxRecDepth 100000 in
set_option maxHeartbeats 4000000 in
theorem makes_10 (v : Value) (l : List UInt8) (hl : l.length ≤ 140737488351232) (w : World) (hv : RdB w v l) (s n : Nat) (hd : devB (s : Int) (n : Int) = true) (hlo : isPowB (s : Int) = false ∨ (l.length : Int) % (s : Int) ≠ 0 ∨ devB (s : Int) ((l.length : Int) / (s : Int)) = false) :
    Calls Try.prog 5 #[.int .i64 (s : Int), .int .i64 (n : Int), v] w fun e w' => e = .returned (.bool true) ∧ Below w.heap.size w w' := by
  obtain ⟨A, c, rfl, hm⟩ := hv.form
  have h5 : 512 ≤ (s : Int) ∧ (s : Int) ≤ 65536 := isPowB_range (devB_spec hd).1
  have hn5 : (n : Int) ≤ 65536 := (devB_spec hd).2.2.1
  have HD := Lib.hid hd
  clear hd
  have HLO := Lib.hid hlo
  clear hlo
  go_enter Try.func5, Try.ntmps5
  go_wp2_with fail
  refine (awake_any _).mono ?_
  rintro e w1 ⟨rfl, hb1⟩
  go_wp2_with fail
  refine (New_ok s n HD.out _).mono ?_
  rintro e w2 ⟨r2, F2, rfl, hP2, hF2, hb2⟩
  unfold plPtr
  go_wp2_with fail
  refine (RNew_ok s n HD.out _).mono ?_
  rintro e w3 ⟨r3, F3, rfl, hP3, hF3, hb3⟩
  unfold rfPtr
  have hQ := hP2.below hb3
  have hB3 : Below w.heap.size w w3 := (hb1.trans (hb2.mono hb1.size)).trans (hb3.mono (Nat.le_trans hb1.size hb2.size))
  have k1 := Page_any w3 F2 r2 _ hQ
  have k2 := Pages_any w3 F2 r2 _ hQ
  have k3 := fun w' (hb : Below w3.heap.size w3 w') => Up_any w' F2 r2 _ (hQ.below hb)
  have k4 := fun w' (hb : Below w3.heap.size w3 w') => Loose_any w' F2 r2 _ (hQ.below hb)
  unfold plPtr at k1 k2 k3 k4
  rw [show (S0 s n).page = s from rfl] at k1
  rw [show (S0 s n).np = n from rfl] at k2
  have K3 := Lib.hid k3
  have K4 := Lib.hid k4
  clear hQ hP2 hP3 hb1 hb2 hb3 hF2 hF3 k3 k4
  go_wp2_with (first
    | (go_at_call 19; refine k1.mono ?_; rintro e w4 ⟨rfl, rfl⟩)
    | (go_at_call 20; refine k2.mono ?_; rintro e w4 ⟨rfl, hb4⟩)
    | (go_at_call 14; refine (K3.out _ hb4).mono ?_; rintro e w5 ⟨rfl, rfl⟩; rw [show (S0 s n).down = false from rfl])
    | (go_at_call 17; refine (K4.out _ hb4).mono ?_; rintro e w5 ⟨rfl, rfl⟩; rw [show (S0 s n).wild.length = 0 from rfl])
    | fail)
  have hB : Below w.heap.size w w4 := hB3.trans (hb4.mono hB3.size)
  clear hB3 hb4 k1 k2 K3 K4
  have hv1 := hv.below hB (Nat.le_refl _)
  refine (Lent_any _ l _ hv1 (by omega)).mono ?_
  rintro e w6 ⟨g6, rfl, ho6, hb6⟩
  have hv6 := hv1.below hb6 (Nat.le_refl _)
  have hB6 := hB.trans (hb6.mono hB.size)
  have hr6 : RdB w6 (.slice (some ⟨g6, 0, none⟩) l.length (l.length + 9)) l := ho6.part' rfl
  have hg6 := ho6.lt g6 rfl
  clear hv1 hb6
  go_wp2_with (first
    | (go_at_call 22; refine (Load_bad (s : Int) (by omega) _ l HLO.out _ hr6).mono ?_; rintro e w7 ⟨rfl, rfl⟩)
    | fail)
  refine (AsLent_any g6 l.length _ l w4.heap.size _ rfl ho6 hv6 (by omega)).mono ?_
  rintro e w8 ⟨rfl, hg8⟩
  have hv8 : RdB w8 (.slice A l.length c) l := hv.below (hB6.grown hg8 hB6.size (fun k e => by cases e; have := hB.size; omega)) (Nat.le_refl _)
  have hB8 := hB6.grown hg8 hB6.size (fun k e => by cases e; have := hB.size; omega)
  clear hr6 hv6 ho6 hg8
  go_wp2_with (first
    | (go_at_call 24; refine (RLoad_bad (s : Int) (by omega) _ l HLO.out _ hv8).mono ?_; rintro e w9 ⟨rfl, rfl⟩)
    | fail)
  go_ret
  exact ⟨rfl, hB8⟩
set_option maxRecDepth 100000 in
set_option maxHeartbeats 4000000 in
theorem makes_01 (v : Value) (l : List UInt8) (hl : l.length ≤ 140737488351232) (w : World) (hv : RdB w v l) (s : Nat) (pages : Int) (hd : devB (s : Int) pages = false) (m : Nat) (hld : devB (s : Int) (m : Int) = true) (hll : l.length = m * s) :
    Calls Try.prog 5 #[.int .i64 (s : Int), .int .i64 pages, v] w fun e w' => e = .returned (.bool true) ∧ Below w.heap.size w w' := by
  obtain ⟨A, c, rfl, hm⟩ := hv.form
  have h5 : 512 ≤ (s : Int) ∧ (s : Int) ≤ 65536 := isPowB_range (devB_spec hld).1
  have HD := Lib.hid hd
  clear hd
  have HLD := Lib.hid hld
  have HLL := Lib.hid hll
  clear hld hll
  go_enter Try.func5, Try.ntmps5
  go_wp2_with fail
  refine (awake_any _).mono ?_
  rintro e w1 ⟨rfl, hb1⟩
  go_wp2_with (first
    | (go_at_call 8; refine (New_bad (s : Int) pages (by omega) HD.out _).mono ?_; rintro e w2 ⟨rfl, rfl⟩)
    | (go_at_call 18; refine (RNew_bad (s : Int) pages (by omega) HD.out _).mono ?_; rintro e w2 ⟨rfl, rfl⟩)
    | fail)
  have hB : Below w.heap.size w w1 := hb1
  clear hb1
  have hv1 := hv.below hB (Nat.le_refl _)
  refine (Lent_any _ l _ hv1 (by omega)).mono ?_
  rintro e w6 ⟨g6, rfl, ho6, hb6⟩
  have hv6 := hv1.below hb6 (Nat.le_refl _)
  have hB6 := hB.trans (hb6.mono hB.size)
  have hr6 : RdB w6 (.slice (some ⟨g6, 0, none⟩) l.length (l.length + 9)) l := ho6.part' rfl
  have hg6 := ho6.lt g6 rfl
  clear hv1 hb6
  go_wp2_with fail
  refine (Load_ok s m HLD.out _ l HLL.out _ hr6).mono ?_
  rintro e w7 ⟨r7, F7, rfl, hP7, hF7, hb7⟩
  unfold plPtr
  have ho7 := ho6.below2 hb7
  have hv7 := hv6.below hb7 (Nat.le_refl _)
  have hB7 := hB6.trans (hb7.mono hB6.size)
  go_wp2_with fail
  refine (AsLent_any g6 l.length _ l w1.heap.size _ rfl ho7 hv7 (by omega)).mono ?_
  rintro e w8 ⟨rfl, hg8⟩
  have hB8 := hB7.grown hg8 hB7.size (fun k e => by cases e; have := hB.size; omega)
  have hv8 : RdB w8 (.slice A l.length c) l := hv.below hB8 (Nat.le_refl _)
  have hP8 : PlRaw w8 F7 r7 (SL s m l) := hP7.turn (Turn.of_grown (F := fun k => k = g6) hg8 (fun k e => (Option.some.inj e).symm)) (fun k hf e => by have := hF7 k hf; omega)
  clear hr6 hv6 ho6 hv7 ho7 hg8 hP7
  go_wp2_with fail
  refine (RLoad_ok s m HLD.out _ l HLL.out _ hv8).mono ?_
  rintro e w9 ⟨r9, F9, rfl, hP9, hF9, hb9⟩
  unfold rfPtr
  have hQ9 := hP8.below hb9
  have hB9 := hB8.trans (hb9.mono hB8.size)
  have j1 := Image_any w9 F7 r7 _ hQ9
  unfold plPtr at j1
  have efl : (SL s m l).pg.flatten = l := by
    show (chunk s l m).flatten = l
    rw [chunk_flat s l m (Nat.le_of_eq HLL.out.symm), ← HLL.out, List.take_length]
  rw [show syncPg (SL s m l).wild (SL s m l).pg = (SL s m l).pg from rfl, efl] at j1
  clear hv8 hP8 hb9 hB8 hF9 hB7 hb7
  go_wp2_with fail
  refine j1.mono ?_
  rintro e w10 ⟨v10, rfl, ho10, hb10⟩
  have hQ10 := hQ9.below hb10
  have j2 := Safe_any w10 F7 r7 _ hQ10
  unfold plPtr at j2
  rw [efl] at j2
  clear j1
  go_wp2_with fail
  refine j2.mono ?_
  rintro e w11 ⟨v11, rfl, ho11, hb11⟩
  have hB10 := hB9.trans (hb10.mono hB9.size)
  have hB11 := hB10.trans (hb11.mono hB10.size)
  have hQ11 := hQ10.below hb11
  have hR11 := (hP9.below hb10).below hb11
  have q1 := run_B_string (ho10.below2 hb11).rd
  have q2 := run_B_string ho11.rd
  have q3 := run_B_string (hv.below hB11 (Nat.le_refl _))
  have k1 := Up_any w11 F7 r7 _ hQ11
  have k2 := Pages_any w11 F7 r7 _ hQ11
  have k3 := fun w' (hb : Below w11.heap.size w11 w') => RPages_any w' F9 r9 _ (hR11.below hb)
  unfold plPtr at k1 k2
  unfold rfPtr at k3
  rw [show (SL s m l).down = false from rfl] at k1
  rw [show (SL s m l).np = m from rfl] at k2 k3
  have K3 := Lib.hid k3
  clear ho10 ho11 hb10 hb11 hQ9 hQ10 hQ11 hR11 hP9 hB9 hB10 k3 j2 hv
  go_wp2_with (first
    | (go_at_call 14; refine k1.mono ?_; rintro e w12 ⟨rfl, rfl⟩)
    | (go_at_call 20; refine k2.mono ?_; rintro e w12 ⟨rfl, hb12⟩)
    | (go_at_call 25; refine (K3.out _ hb12).mono ?_; rintro e w13 ⟨rfl, rfl⟩)
    | fail)
  go_ret
  exact ⟨rfl, hB11.trans (hb12.mono hB11.size)⟩
set_option maxRecDepth 100000 in
set_option maxHeartbeats 4000000 in
theorem makes_00 (v : Value) (l : List UInt8) (hl : l.length ≤ 140737488351232) (w : World) (hv : RdB w v l) (size pages : Int) (hs : -9223372036854775808 ≤ size ∧ size ≤ 9223372036854775807) (hd : devB size pages = false) (hlo : isPowB size = false ∨ (l.length : Int) % size ≠ 0 ∨ devB size ((l.length : Int) / size) = false) :
    Calls Try.prog 5 #[.int .i64 size, .int .i64 pages, v] w fun e w' => e = .returned (.bool true) ∧ Below w.heap.size w w' := by
  obtain ⟨A, c, rfl, hm⟩ := hv.form
  have HD := Lib.hid hd
  clear hd
  have HLO := Lib.hid hlo
  clear hlo
  go_enter Try.func5, Try.ntmps5
  go_wp2_with fail
  refine (awake_any _).mono ?_
  rintro e w1 ⟨rfl, hb1⟩
  go_wp2_with (first
    | (go_at_call 8; refine (New_bad size pages hs HD.out _).mono ?_; rintro e w2 ⟨rfl, rfl⟩)
    | (go_at_call 18; refine (RNew_bad size pages hs HD.out _).mono ?_; rintro e w2 ⟨rfl, rfl⟩)
    | fail)
  have hB : Below w.heap.size w w1 := hb1
  clear hb1
  have hv1 := hv.below hB (Nat.le_refl _)
  refine (Lent_any _ l _ hv1 (by omega)).mono ?_
  rintro e w6 ⟨g6, rfl, ho6, hb6⟩
  have hv6 := hv1.below hb6 (Nat.le_refl _)
  have hB6 := hB.trans (hb6.mono hB.size)
  have hr6 : RdB w6 (.slice (some ⟨g6, 0, none⟩) l.length (l.length + 9)) l := ho6.part' rfl
  have hg6 := ho6.lt g6 rfl
  clear hv1 hb6
  go_wp2_with (first
    | (go_at_call 22; refine (Load_bad size hs _ l HLO.out _ hr6).mono ?_; rintro e w7 ⟨rfl, rfl⟩)
    | fail)
  refine (AsLent_any g6 l.length _ l w1.heap.size _ rfl ho6 hv6 (by omega)).mono ?_
  rintro e w8 ⟨rfl, hg8⟩
  have hv8 : RdB w8 (.slice A l.length c) l := hv.below (hB6.grown hg8 hB6.size (fun k e => by cases e; have := hB.size; omega)) (Nat.le_refl _)
  have hB8 := hB6.grown hg8 hB6.size (fun k e => by cases e; have := hB.size; omega)
  clear hr6 hv6 ho6 hg8
  go_wp2_with (first
    | (go_at_call 24; refine (RLoad_bad size hs _ l HLO.out _ hv8).mono ?_; rintro e w9 ⟨rfl, rfl⟩)
    | fail)
  go_ret
  exact ⟨rfl, hB8⟩
theorem makes_any (size pages : Int) (hs : -9223372036854775808 ≤ size ∧ size ≤ 9223372036854775807) (v : Value) (l : List UInt8) (hl : l.length ≤ 140737488351232) (w : World) (hv : RdB w v l) :
    Calls Try.prog 5 #[.int .i64 size, .int .i64 pages, v] w fun e w' => e = .returned (.bool true) ∧ Below w.heap.size w w' := by
  by_cases hlo : LoadOk size l
  · obtain ⟨s, m, rfl, hll, hld⟩ := hlo.nat
    cases hd : devB (s : Int) pages
    · exact makes_01 v l hl w hv s pages hd m hld hll
    · obtain ⟨s', n, e1, rfl⟩ := dev_nat hd
      exact makes_11 v l hl w hv s n hd m hld hll
  · cases hd : devB size pages
    · exact makes_00 v l hl w hv size pages hs hd (LoadOk.not hlo)
    · obtain ⟨s, n, rfl, rfl⟩ := dev_nat hd
      exact makes_10 v l hl w hv s n hd (LoadOk.not hlo)
end Go.Proofs.Ytipjngoenklioaa
