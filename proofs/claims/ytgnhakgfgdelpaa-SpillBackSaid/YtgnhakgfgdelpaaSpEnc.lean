/- spill.isPage, Pages, Encode: walks. -/
import Derived.Test.YtgnhakgfgdelpaaSpF
import Derived.Test.YtgnhakgfgdelpaaInkSum
import Derived.Test.YtgnhakgfgdelpaaCopyAt
import Derived.Test.YtgnhakgfgdelpaaCut
import Derived.Test.YtgnhakgfgdelpaaSep
import Derived.Deep.CutRange
import Derived.Deep.DeepCutAuto
import Derived.Deep.RegionHeld3
import Derived.Deep.RegionLaw
namespace Go.Proofs.Ytgnhakgfgdelpaa
open Go.RowKit
set_option maxRecDepth 20000 in
set_option maxHeartbeats 1000000 in
theorem SisPage_any (p : Int) (hp : -9223372036854775808 ≤ p ∧ p ≤ 9223372036854775807) (w : World) : Calls Try.prog 33 #[.int .i64 p] w fun e w' => e = .returned (.bool (isPowB p)) ∧ w = w' := by
  by_cases h1 : p < 512
  · have HV := Lib.hid (isPowB_out (.inl h1))
    go_enter Try.func33, Try.ntmps33
    go_wp2_with fail
    go_ret
    rw [HV.out]
    exact ⟨rfl, rfl⟩
  by_cases h2 : 65536 < p
  · have HV := Lib.hid (isPowB_out (.inr h2))
    go_enter Try.func33, Try.ntmps33
    go_wp2_with fail
    go_ret
    rw [HV.out]
    exact ⟨rfl, rfl⟩
  have hq := pow_eq p (by omega) (by omega)
  go_enter Try.func33, Try.ntmps33
  go_wp2_with fail
  go_ret
  exact ⟨rfl, rfl⟩
theorem Equal_any (u v : Value) (a b : List UInt8) (w : World) (hu : RdB w u a) (hv : RdB w v b) :
    Calls Try.prog 43 #[u, v] w fun e w' => e = .returned (.bool (a == b)) ∧ w = w' := by
  have q1 := run_B_string hu
  have q2 := run_B_string hv
  obtain ⟨A, c, rfl, _⟩ := hu.form
  obtain ⟨B, d, rfl, _⟩ := hv.form
  go_enter Try.func43, Try.ntmps43
  go_wp2_with fail
  go_ret
  exact ⟨rfl, rfl⟩
theorem splice_mid (pre mid post new : List UInt8) (o : Nat) (ho : pre.length = o) (h : mid.length = new.length) : splice (pre ++ (mid ++ post)) o new = pre ++ (new ++ post) := by
  unfold splice
  rw [List.take_left' ho, List.drop_append, ho, List.drop_of_length_le (by omega), List.nil_append, show o + new.length - o = new.length by omega, ← h, List.drop_left' rfl]
theorem RdB.slice0 {w : World} {g n c : Nat} {L : List UInt8} (h : OBlk w g 5 (bvs L)) (hn : n ≤ L.length) (hc : L.length = c) (hm : c ≤ 140737488355328) : RdB w (.slice (some ⟨g, 0, none⟩) n c) (L.take n) := by
  have := (h.owB (base := 0) (Nat.zero_le _) (by simp only [maxLen]; omega) (n := n) hn).rd
  rw [hc] at this
  exact this
def s0F (P : Nat) : List UInt8 := (List.replicate P (0 : UInt8)).set 0 4
def s1F (next : Int) (P : Nat) : List UInt8 := 4 :: 0 :: 0 :: 0 :: (fixedF next.toNat 4 ++ List.replicate (P - 8) 0)
def s2F (next : Int) (n P : Nat) : List UInt8 := 4 :: 0 :: 0 :: 0 :: (fixedF next.toNat 4 ++ (fixedF n 4 ++ List.replicate (P - 12) 0))
def s3F (next : Int) (d : List UInt8) (P : Nat) : List UInt8 := preS next d P ++ List.replicate 4 0
theorem s01 {next : Int} {P : Nat} (h : 512 ≤ P) : splice (s0F P) 4 (fixedF next.toNat 4) = s1F next P := by
  obtain ⟨Q, rfl⟩ : ∃ Q, P = Q + 8 := ⟨P - 8, by omega⟩
  have e : s0F (Q + 8) = [4, 0, 0, 0] ++ (List.replicate 4 0 ++ List.replicate Q 0) := by
    unfold s0F; rw [List.replicate_append_replicate, show 4 + Q = Q + 4 by omega]; rfl
  rw [e, splice_mid _ _ _ _ 4 rfl (by rw [fixedF_length]; rfl)]
  unfold s1F
  rw [show Q + 8 - 8 = Q by omega]; rfl
theorem s12 {next : Int} {n P : Nat} (h : 512 ≤ P) : splice (s1F next P) 8 (fixedF n 4) = s2F next n P := by
  have e : s1F next P = (4 :: 0 :: 0 :: 0 :: fixedF next.toNat 4) ++ (List.replicate 4 0 ++ List.replicate (P - 12) 0) := by
    unfold s1F; rw [List.replicate_append_replicate, show 4 + (P - 12) = P - 8 by omega]; rfl
  rw [e, splice_mid _ _ _ _ 8 (by simp [fixedF_length]) (by rw [fixedF_length]; rfl)]
  unfold s2F; simp
theorem s23 {next : Int} {d : List UInt8} {P : Nat} (h : d.length + 16 ≤ P) : splice (s2F next d.length P) 12 d = s3F next d P := by
  have e : s2F next d.length P = (4 :: 0 :: 0 :: 0 :: (fixedF next.toNat 4 ++ fixedF d.length 4)) ++ (List.replicate d.length 0 ++ List.replicate (P - 12 - d.length) 0) := by
    unfold s2F; rw [List.replicate_append_replicate, show d.length + (P - 12 - d.length) = P - 12 by omega]; simp
  rw [e, splice_mid _ _ _ _ 12 (by simp [fixedF_length]) (by rw [List.length_replicate])]
  unfold s3F preS
  simp only [List.cons_append, List.append_assoc, List.replicate_append_replicate]
  rw [show P - 16 - d.length + 4 = P - 12 - d.length by omega]
theorem s3_end {next : Int} {d : List UInt8} {P : Nat} (h : d.length + 16 ≤ P) : (s3F next d P).take (P - 4) = preS next d P ∧ splice (s3F next d P) (P - 4) (fixedF (sumF (preS next d P)) 4) = laidS next d P ∧ (s3F next d P).length = P := by
  refine ⟨by unfold s3F; rw [List.take_left' (preS_length h)], ?_, by unfold s3F; rw [List.length_append, preS_length h, List.length_replicate]; omega⟩
  have e : s3F next d P = preS next d P ++ (List.replicate 4 0 ++ []) := by unfold s3F; simp
  rw [e, splice_mid _ _ _ _ (P - 4) (preS_length h) (by rw [fixedF_length]; rfl)]
  unfold laidS; simp

set_option maxRecDepth 100000 in
set_option maxHeartbeats 8000000 in
theorem SEncode_any (next : Int) (va : Value) (d : List UInt8) (P : Int) (hPr : i64w P) (w : World) (hd : RdB w va d) :
    Calls Try.prog 15 #[.int .i64 next, va, .int .i64 P] w fun e w' => ∃ u, e = .returned (.tuple #[u, .int .i64 (spZ next d P)]) ∧ OwB w' w.heap.size u (spL next d P) ∧ Below w.heap.size w w' := by
  obtain ⟨A, c, rfl, hm⟩ := hd.form
  have hPa := fun W => SisPage_any P hPr W
  by_cases h1 : isPowB P = false ∨ (next ≠ 0 ∧ (next < 2 ∨ 65536 ≤ next))
  · have HZ : Hid (spZ next d P = 1) := by show _ = _; unfold spZ; rw [if_pos h1]
    have HL : Hid (spL next d P = []) := by show _ = _; unfold spL; rw [HZ.out, if_neg (by decide)]
    go_enter Try.func15, Try.ntmps15
    go_upto_region 1 with (fail)
    go_cut [9] (fun s wx => s = .bool true ∧ w = wx)
    case first =>
      cases hp : isPowB P with
      | false =>
        rw [hp] at hPa
        clear h1 hp
        go_wp2_with (first | (go_at_call 33; refine (hPa _).mono ?_; rintro e w1 ⟨rfl, rfl⟩) | fail)
        go_meet
        exact ⟨rfl, rfl⟩
      | true =>
        have h2 : next ≠ 0 ∧ (next < 2 ∨ 65536 ≤ next) := by
          rcases h1 with h | h
          · rw [hp] at h; cases h
          · exact h
        have e0 : (next != 0) = true := by simp only [bne, beq_eq_false_iff_ne.2 h2.1]; rfl
        rw [hp] at hPa
        by_cases h3 : next < 2
        · clear h1 hp h2
          go_wp2_with (first | (go_at_call 33; refine (hPa _).mono ?_; rintro e w1 ⟨rfl, rfl⟩) | fail)
          go_meet
          exact ⟨rfl, rfl⟩
        · have h4 : 65536 ≤ next := by omega
          clear h1 hp h2
          go_wp2_with (first | (go_at_call 33; refine (hPa _).mono ?_; rintro e w1 ⟨rfl, rfl⟩) | fail)
          go_meet
          exact ⟨rfl, rfl⟩
    case rest =>
      obtain ⟨rfl, rfl⟩ := hcut
      clear hPa h1
      go_wp2_with fail
      go_ret2
      rw [HZ.out, HL.out]
      exact ⟨_, rfl, OwB.nil _ _, Below.refl _ _⟩
  · have hp : isPowB P = true := by
      cases e : isPowB P with
      | true => rfl
      | false => exact absurd (.inl e) h1
    obtain ⟨hP1, hP2⟩ := isPowB_range hp
    have hnx : next = 0 ∨ (2 ≤ next ∧ next < 65536) := by
      by_cases h4 : next = 0
      · exact .inl h4
      · exact .inr ⟨by rcases (by omega : next < 2 ∨ 2 ≤ next) with h5 | h5; exact absurd (.inr ⟨h4, .inl h5⟩) h1; exact h5, by rcases (by omega : next < 65536 ∨ 65536 ≤ next) with h5 | h5; exact h5; exact absurd (.inr ⟨h4, .inr h5⟩) h1⟩
    rw [hp] at hPa
    obtain ⟨Q, rfl⟩ : ∃ Q : Nat, P = (Q : Int) := ⟨P.toNat, by omega⟩
    have HH1 := Lib.hid h1
    clear hp h1
    go_enter Try.func15, Try.ntmps15
    go_upto_region 1 with (fail)
    go_cut [9] (fun s wx => s = .bool false ∧ w = wx)
    case first =>
      rcases hnx with rfl | ⟨h2, h3⟩
      · go_wp2_with (first | (go_at_call 33; refine (hPa _).mono ?_; rintro e w1 ⟨rfl, rfl⟩) | fail)
        go_meet
        exact ⟨rfl, rfl⟩
      · have e0 : (next != 0) = true := by simp only [bne, beq_eq_false_iff_ne.2 (show next ≠ 0 by omega)]; rfl
        have e1 : ¬ next < 2 := by omega
        have e2 : ¬ 65536 ≤ next := by omega
        go_wp2_with (first | (go_at_call 33; refine (hPa _).mono ?_; rintro e w1 ⟨rfl, rfl⟩) | fail)
        go_meet
        exact ⟨by first | rfl | simp [e1, e2], rfl⟩
    case rest =>
      obtain ⟨rfl, rfl⟩ := hcut
      clear hPa
      by_cases h2 : d.length = 0 ∨ (Q : Int) - 16 < (d.length : Int)
      · have HZ : Hid (spZ next d (Q : Int) = 31) := by show _ = _; unfold spZ; rw [if_neg HH1.out, if_pos h2]
        have HL : Hid (spL next d (Q : Int) = []) := by show _ = _; unfold spL; rw [HZ.out, if_neg (by decide)]
        go_upto_region 3 with (fail)
        go_cut [25] (fun s wx => s = .bool true ∧ w = wx)
        case first =>
          by_cases h3 : d.length = 0
          · have e1 : ((d.length : Int) == 0) = true := by rw [h3]; rfl
            clear h2 h3
            go_wp2_with fail
            go_meet
            exact ⟨rfl, rfl⟩
          · have e1 : ((d.length : Int) == 0) = false := beq_eq_false_iff_ne.2 (by omega)
            have e2 : (Q : Int) - 12 - 4 < (d.length : Int) := by omega
            clear h2 h3
            go_wp2_with fail
            go_meet
            exact ⟨rfl, rfl⟩
        case rest =>
          obtain ⟨rfl, rfl⟩ := hcut
          clear h2
          go_wp2_with fail
          go_ret2
          rw [HZ.out, HL.out]
          exact ⟨_, rfl, OwB.nil _ _, Below.refl _ _⟩
      · have HZ : Hid (spZ next d (Q : Int) = 0) := by show _ = _; unfold spZ; rw [if_neg HH1.out, if_neg h2]
        have HL : Hid (spL next d (Q : Int) = laidS next d Q) := by show _ = _; unfold spL; rw [HZ.out, if_pos rfl]; rfl
        have e1 : ((d.length : Int) == 0) = false := beq_eq_false_iff_ne.2 (by omega)
        have e2 : ¬ (Q : Int) - 12 - 4 < (d.length : Int) := by omega
        have hfit : d.length + 16 ≤ Q := by omega
        have hdl : 1 ≤ d.length := by omega
        clear h2 HH1
        have p0 : (0 : Int) < (Q : Int) := by omega
        go_upto_region 6 with (first | (at_make; refine wp_make_B rfl (.tmp 37) (.tmp 37) rfl _ Q rfl rfl rfl (by omega) ?_; intro w1 hb1 hw1 hs1) | fail)
        have z0 : w1.cell? ⟨w.heap.size, 0, none⟩ = some (.int .u8 0) := hb1.cell' (by rw [bvs_replicate, List.getElem?_replicate]; simp; omega)
        have f0 : w1.frozen? ⟨w.heap.size, 0, none⟩ = false := hb1.frozen (by rw [bvs_length, List.length_replicate]; omega)
        have hb2 := hb1.set 0 (.int .u8 4)
        rw [show Value.int .u8 4 = Value.int .u8 ((4 : UInt8).toNat : Int) from rfl, ← bvs_set] at hb2
        have hb2 : OBlk (w1.setCell ⟨w.heap.size, 0, none⟩ (.int .u8 4)) w.heap.size 5 (bvs (s0F Q)) := hb2
        have hw2 := hw1.setCell (p := ⟨w.heap.size, 0, none⟩) (Nat.le_refl _) (.int .u8 4)
        go_upto_region 7 with (fail)
        clear hb1 hw1 hs1 z0 f0
        generalize w1.setCell ⟨w.heap.size, 0, none⟩ (.int .u8 4) = w2 at *
        have l0 : (s0F Q).length = Q := by unfold s0F; simp
        have hnn : 0 ≤ next ∧ next < 65536 := by omega
        obtain ⟨nn, rfl⟩ : ∃ nn : Nat, next = (nn : Int) := ⟨next.toNat, by omega⟩
        have hnb : nn < 18446744073709551616 := by omega
        have hdb : d.length < 18446744073709551616 := by omega
        have hwn : IntKind.u64.wrap (nn : Int) = (nn : Int) := IntWalk.u64_in _ (by omega)
        have hwd : IntKind.u64.wrap (d.length : Int) = (d.length : Int) := IntWalk.u64_in _ (by omega)
        have n4 : ¬ Q = 4 := by omega
        have n8 : ¬ Q = 8 := by omega
        have n12 : ¬ Q = 12 := by omega
        have q4 : (4 : Int) ≤ (Q : Int) := by omega
        have q8 : (8 : Int) ≤ (Q : Int) := by omega
        have q12 : (12 : Int) ≤ (Q : Int) := by omega
        have H0 := Lib.hid l0
        have hQ512 : Hid (512 ≤ Q) := by show _ ≤ _; omega
        clear l0 hnx hnn e1 e2
        go_upto_region 7 with (fail)
        go_cut [] (fun wx => OBlk wx w.heap.size 5 (bvs (s1F (nn : Int) Q)) ∧ Below w.heap.size w wx)
        case first =>
          go_region_held3 (fun _ => True) (trivial)
            (first
              | (go_at_call 37; (with_reducible refine (Fixed_4 nn hnb _).mono ?_); rintro e w9 ⟨rfl, hf9, hw9, hs9⟩)
              | (refine step_copy_B (by rfl) (.tmp 42) (.tmp 45) (by rfl) _ (Q - 4) (Q - 4) w.heap.size 4 (by rfl) (s0F Q) (hb2.drew.below hw9 (by have := hb2.lt; simp; omega)) (fun _ => rfl) (by rw [H0.out]; omega) (.slice (some ⟨w2.heap.size, 0, none⟩) 4 4) (fixedF nn 4) (by rfl) (hf9.rdB (fixedF_length _ 4) (by omega)) ?_; intro w8 hb8 hg8)
              | fail)
          go_wp2_with fail
          go_meet
          rw [Nat.min_eq_left (by rw [fixedF_length]; omega), List.take_of_length_le (by rw [fixedF_length]; exact Nat.le_refl _)] at hb8
          rw [show splice (s0F Q) 4 (fixedF nn 4) = s1F (nn : Int) Q from s01 (next := (nn : Int)) hQ512.out] at hb8
          exact ⟨hb8, (hw2.drew.trans (hw9.mono hw2.size)).grown hg8 (Nat.le_trans hw2.size hw9.size) (fun k hk => Nat.le_of_eq (Option.some.inj hk))⟩
        case rest =>
          obtain ⟨hb3, hw3⟩ := hcut
          have H1 : Hid ((s1F (nn : Int) Q).length = Q) := by show _ = _; unfold s1F; simp [fixedF_length]; omega
          clear hb2 hw2 H0
          go_upto_region 8 with (fail)
          go_cut [] (fun wx => OBlk wx w.heap.size 5 (bvs (s2F (nn : Int) d.length Q)) ∧ Below w.heap.size w wx)
          case first =>
            go_region_held3 (fun _ => True) (trivial)
              (first
                | (go_at_call 37; (with_reducible refine (Fixed_4 d.length hdb _).mono ?_); rintro e w9 ⟨rfl, hf9, hw9, hs9⟩)
                | (refine step_copy_B (by rfl) (.tmp 48) (.tmp 52) (by rfl) _ (Q - 8) (Q - 8) w.heap.size 8 (by rfl) (s1F (nn : Int) Q) (hb3.drew.below hw9 (by have := hb3.lt; simp; omega)) (fun _ => rfl) (by rw [H1.out]; omega) (.slice (some ⟨wc.heap.size, 0, none⟩) 4 4) (fixedF d.length 4) (by rfl) (hf9.rdB (fixedF_length _ 4) (by omega)) ?_; intro w8 hb8 hg8)
                | fail)
            go_wp2_with fail
            go_meet
            rw [Nat.min_eq_left (by rw [fixedF_length]; omega), List.take_of_length_le (by rw [fixedF_length]; exact Nat.le_refl _)] at hb8
            rw [show splice (s1F (nn : Int) Q) 8 (fixedF d.length 4) = s2F (nn : Int) d.length Q from s12 hQ512.out] at hb8
            exact ⟨hb8, (hw3.drew.trans (hw9.mono hw3.size)).grown hg8 (Nat.le_trans hw3.size hw9.size) (fun k hk => Nat.le_of_eq (Option.some.inj hk))⟩
          case rest =>
            clear hb3 hw3 H1 hnb hdb hwn hwd
            obtain ⟨hb3, hw3⟩ := hcut
            have H1 : Hid ((s2F (nn : Int) d.length Q).length = Q) := by show _ = _; unfold s2F; simp [fixedF_length]; omega
            have hd3 := hd.below hw3 (Nat.le_refl _)
            have H2 : Hid (splice (s2F (nn : Int) d.length Q) 12 (d.take (min d.length (Q - 12))) = s3F (nn : Int) d Q) := by
              show _ = _
              rw [Nat.min_eq_left (by omega), List.take_length]
              exact s23 hfit
            go_upto_region 10 with (first
              | ((with_reducible refine at_copy ?_); refine wp_copy_B (by rfl) (.tmp 55) (.tmp 56) (by rfl) _ (Q - 12) (Q - 12) w.heap.size 12 (by rfl) (s2F (nn : Int) d.length Q) hb3 (fun _ => rfl) (by rw [H1.out]; omega) (.slice A d.length c) d (by rfl) hd3 ?_; intro w8 hb8 hg8)
              | fail)
            have hw8 : Below w.heap.size w w8 := hw3.grown hg8 hw3.size (fun k hk => Nat.le_of_eq (Option.some.inj hk))
            rw [H2.out] at hb8
            obtain ⟨E1, E2, E3⟩ := s3_end (next := (nn : Int)) hfit
            have HE1 := Lib.hid E1
            have HE2 := Lib.hid E2
            have HE3 := Lib.hid E3
            clear E1 E2 E3 hb3 hw3 H1 H2 hd3 hg8
            have hsl : sumF (preS (nn : Int) d Q) < 4294967296 := sumF_lt _
            obtain ⟨en, hen⟩ : ∃ en : Nat, en + 4 = Q := ⟨Q - 4, by omega⟩
            have he : (Q : Int) - 4 = (en : Int) := by omega
            have hws : IntKind.u64.wrap ((sumF (preS (nn : Int) d Q) : Nat) : Int) = ((sumF (preS (nn : Int) d Q) : Nat) : Int) := IntWalk.u64_in _ (by omega)
            have b1 : (0 : Int) ≤ (en : Int) := by omega
            have b2 : (en : Int) ≤ (Q : Int) := by omega
            have b3 : en ≤ Q := by omega
            have b6 : IntKind.i64.wrap (en : Int) = (en : Int) := by rw [IntKind.wrap_i64]; omega
            have b4 : en < Q := by omega
            have b5 : ¬ (Q = en) := by omega
            rw [show Q - 4 = en by omega] at HE1 HE2
            have hbd : RdB w8 (.slice (some ⟨w.heap.size, 0, none⟩) en Q) (preS (nn : Int) d Q) := by
              have := RdB.slice0 (n := en) hb8 (by rw [HE3.out]; exact b3) HE3.out (by omega)
              rw [HE1.out] at this
              exact this
            generalize s3F (nn : Int) d Q = L at *
            generalize preS (nn : Int) d Q = M at *
            go_region_held3 (fun _ => True) (trivial)
              (first
                | (go_at_call 38; (with_reducible refine (Sum_any _ [M] _ ?_).mono ?_); (exact RdL.one hbd.drew _); rintro e w7 ⟨rfl, hw7⟩)
                | (go_at_call 37; (with_reducible refine (Fixed_4 (sumF M) (by omega) _).mono ?_); rintro e w9 ⟨rfl, hf9, hw9, hs9⟩)
                | (refine step_copy_B (by rfl) (.tmp 61) (.tmp 69) (by rfl) _ (Q - en) (Q - en) w.heap.size en (by rfl) L ((((hb8.alloc _).drew).below hw7 (by have := hb8.lt; simp; omega)).below hw9 (by have := hb8.lt; have := hw7.size; simp at this; omega)) (fun _ => rfl) (by rw [HE3.out]; omega) (.slice (some ⟨w7.heap.size, 0, none⟩) 4 4) (fixedF (sumF M) 4) (by rfl) (hf9.rdB (fixedF_length _ 4) (by omega)) ?_; intro w10 hb10 hg10)
                | fail)
            go_wp2_with fail
            go_ret2
            rw [HZ.out, HL.out]
            rw [Nat.min_eq_left (by rw [fixedF_length]; omega), List.take_of_length_le (by rw [fixedF_length]; exact Nat.le_refl _), HE2.out] at hb10
            have hb7 : Below w.heap.size w w7 := ((hw8.alloc hw8.size _).drew).trans (hw7.mono (by have := hw8.size; simp; omega))
            have hb9 : Below w.heap.size w w9 := hb7.trans (hw9.mono hb7.size)
            refine ⟨_, rfl, ?_, hb9.grown hg10 hb9.size (fun j hj => Nat.le_of_eq (Option.some.inj hj))⟩
            have hLL : (laidS (nn : Int) d Q).length = Q := laidS_length hfit
            have := hb10.owB' (Nat.le_refl _) (by rw [hLL]; simp only [maxLen]; omega)
            rw [hLL] at this
            exact this
end Go.Proofs.Ytgnhakgfgdelpaa
