/- espalierlaw05.m7, awake: walks. -/
import Derived.Test.YtdnfbjmapdgnnaaMetaBack
import Derived.Test.YtdnfbjmapdgnnaaMetaChoose
namespace Go.Proofs.Ytdnfbjmapdgnnaa
open Go.RowKit

theorem ok7 : okB (1 : Nat) (512 : Nat) (7 : Nat) (5 : Nat) (1 : Nat) (3 : Nat) (2 : Nat) (9 : Nat) = true := by decide
def l7 : List UInt8 := encF 1 512 7 5 1 3 2 9
theorem l7_len : l7.length = 512 := encF_length (by omega)
theorem l7_meta : isMeta l7 = true := isMeta_encF ok7
theorem l7_V : metaV l7 = [.int .i64 1, .int .i64 512, .int .i64 7, .int .i64 5, .int .i64 1, .int .i64 3, .int .i64 2, .int .i64 9] := metaV_encF ok7
theorem l7_head : (l7.drop 0).take 8 = [1, 1, 0, 0, 69, 83, 80, 76] := rfl
theorem l7_head' : ((l7.take 8).drop 0).toArray = #[1, 1, 0, 0, 69, 83, 80, 76] := rfl
theorem l7_txn : fldI l7 1 = 7 := fldI_encF ok7 1 (by omega)
theorem m7_any (w : World) : Calls Try.prog 24 #[] w fun e w' => e = .returned (.agg #[.int .i64 1, .int .i64 512, .int .i64 7, .int .i64 5, .int .i64 1, .int .i64 3, .int .i64 2, .int .i64 9]) ∧ Below w.heap.size w w' := by
  go_enter Try.func24, Try.ntmps24
  go_wp2_with fail
  exact bodyPost_ret (v := .agg #[.int .i64 1, .int .i64 512, .int .i64 7, .int .i64 5, .int .i64 1, .int .i64 3, .int .i64 2, .int .i64 9]) (by simp [results, Try.results24, go_sem]) rfl ⟨rfl, (Below.refl _ _).alloc (Nat.le_refl _) _⟩
theorem Check_7 (w : World) : Calls Try.prog 8 #[.agg #[.int .i64 1, .int .i64 512, .int .i64 7, .int .i64 5, .int .i64 1, .int .i64 3, .int .i64 2, .int .i64 9]] w fun e w' => e = .returned (.int .i64 0) ∧ Below w.heap.size w w' :=
  (Check_any 1 512 7 5 1 3 2 9 w).mono fun e w' h => ⟨h.1.trans (by rw [show okB 1 512 7 5 1 3 2 9 = true from ok7]; rfl), h.2⟩
theorem Encode_7 (w : World) : Calls Try.prog 9 #[.agg #[.int .i64 1, .int .i64 512, .int .i64 7, .int .i64 5, .int .i64 1, .int .i64 3, .int .i64 2, .int .i64 9]] w fun e w' => ∃ g, e = .returned (.tuple #[.slice (some ⟨g, 0, none⟩) 512 512, .int .i64 0]) ∧ w.heap.size ≤ g ∧ OBlk w' g 5 (bvs l7) ∧ Below w.heap.size w w' :=
  Encode_ok 1 512 7 5 1 3 2 9 ok7 w
theorem Decode_7 (v : Value) (w : World) (hv : RdB w v l7) : Calls Try.prog 16 #[v] w fun e w' => e = .returned (.tuple #[.agg #[.int .i64 1, .int .i64 512, .int .i64 7, .int .i64 5, .int .i64 1, .int .i64 3, .int .i64 2, .int .i64 9], .int .i64 0]) ∧ Below w.heap.size w w' :=
  (Decode_any v l7 w hv).mono fun e w' hh => by
    obtain ⟨he, hw⟩ := hh
    rw [l7_meta, l7_V] at he
    exact ⟨he, hw⟩
theorem Choose_7 (v : Value) (w : World) (hv : RdB w v l7) : Calls Try.prog 17 #[.slice none 0 0, v] w fun e w' => e = .returned (.tuple #[.agg #[.int .i64 1, .int .i64 512, .int .i64 7, .int .i64 5, .int .i64 1, .int .i64 3, .int .i64 2, .int .i64 9], .int .i64 1, .int .i64 0]) ∧ Below w.heap.size w w' :=
  (Choose_any _ v [] l7 w RdB.nil hv).mono fun e w' hh => by
    obtain ⟨he, hw⟩ := hh
    have hp : pickB [] l7 = true := by unfold pickB twoB; rw [l7_meta, l7_txn]; rfl
    rw [choV, choW, choE, hp] at he
    simp only [cond_true] at he
    rw [l7_V] at he
    exact ⟨he, hw⟩
theorem Slot_7 (w : World) : Calls Try.prog 11 #[.int .i64 7] w fun e w' => e = .returned (.int .i64 1) ∧ w = w' := Slot_any 7 (by omega) (by omega) w
set_option maxRecDepth 100000 in
set_option maxHeartbeats 2000000 in
theorem awake_any (w : World) : Calls Try.prog 7 #[] w fun e w' => e = .returned (.bool true) ∧ Below w.heap.size w w' := by
  go_enter Try.func7, Try.ntmps7
  go_wp2_with fail
  refine (m7_any _).mono ?_
  rintro e w1 ⟨rfl, hw1⟩
  go_wp2_with fail
  refine (Check_7 _).mono ?_
  rintro e w2 ⟨rfl, hw2⟩
  have h2 := (OBlk.new' w1 24 [.int .i64 1, .int .i64 512, .int .i64 7, .int .i64 5, .int .i64 1, .int .i64 3, .int .i64 2, .int .i64 9]).below hw2 (OBlk.new' w1 _ _).lt
  have b2 := (hw1.alloc hw1.size (.cells #[.int .i64 1, .int .i64 512, .int .i64 7, .int .i64 5, .int .i64 1, .int .i64 3, .int .i64 2, .int .i64 9] 24)).trans (hw2.mono (by have := hw1.size; simp; omega))
  obtain ⟨c0, c1, c2, c3, c4, c5, c6, c7⟩ := cells8 h2
  go_wp2_with fail
  refine (Encode_7 _).mono ?_
  rintro e w3 ⟨g, rfl, hg, ho, hw3⟩
  have h3 := h2.below hw3 h2.lt
  have b3 := b2.trans (hw3.mono b2.size)
  clear c0 c1 c2 c3 c4 c5 c6 c7
  go_wp2_with fail
  refine (Decode_7 _ _ (OBlk.rdB ho l7_len (by omega))).mono ?_
  rintro e w4 ⟨rfl, hw4⟩
  have h4 := h3.below hw4 h3.lt
  have b4 := b3.trans (hw4.mono b3.size)
  have ho4 := ho.below hw4 ho.lt
  go_wp2_with fail
  have h4n := OBlk.new' w4 24 [.int .i64 1, .int .i64 512, .int .i64 7, .int .i64 5, .int .i64 1, .int .i64 3, .int .i64 2, .int .i64 9]
  refine (Choose_7 _ _ (OBlk.rdB (ho4.alloc _) l7_len (by omega))).mono ?_
  rintro e w5 ⟨rfl, hw5⟩
  have h5 := (h4.alloc _).below hw5 (h4.alloc _).lt
  have h5n := h4n.below hw5 h4n.lt
  have b5 := (b4.alloc b4.size (.cells #[.int .i64 1, .int .i64 512, .int .i64 7, .int .i64 5, .int .i64 1, .int .i64 3, .int .i64 2, .int .i64 9] 24)).trans (hw5.mono (by have := b4.size; simp; omega))
  have ho5 := (ho4.alloc _).below hw5 (ho4.alloc _).lt
  have q : ∀ wz, RdB wz (.slice (some ⟨g, 0, none⟩) 512 512) l7 → (convert 29 9 (.slice (some ⟨g, 0, none⟩) 8 512)).run Try.prog wz = .ok (.string ⟨#[1, 1, 0, 0, 69, 83, 80, 76]⟩) wz := fun wz hz => by
    have := run_B_string (hz.cut (lo := 0) (hi := 8) (by omega) (by rw [l7_len]; omega))
    rw [l7_head'] at this
    exact this
  have q1 := q _ (OBlk.rdB (ho5.alloc (.cells #[.int .i64 1, .int .i64 512, .int .i64 7, .int .i64 5, .int .i64 1, .int .i64 3, .int .i64 2, .int .i64 9] 24)) l7_len (by omega))
  obtain ⟨c0, c1, c2, c3, c4, c5, c6, c7⟩ := cells8 h5
  obtain ⟨d0, d1, d2, d3, d4, d5, d6, d7⟩ := cells8 h5n
  clear q
  have g1 := h5.lt
  have g2 := h5n.lt
  go_wp2_with (go_at_call 11; refine (Slot_7 _).mono ?_; rintro e w6 ⟨rfl, rfl⟩)
  go_ret
  exact ⟨rfl, b5.alloc b5.size _⟩
end Go.Proofs.Ytdnfbjmapdgnnaa
