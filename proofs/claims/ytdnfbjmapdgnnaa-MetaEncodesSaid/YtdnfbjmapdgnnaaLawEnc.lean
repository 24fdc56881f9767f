/- espalierlaw05.MetaEncodes: the walk. -/
import Derived.Test.YtdnfbjmapdgnnaaLawEncA
import Derived.Test.YtdnfbjmapdgnnaaStep
import Derived.Deep.RegionHeld3
namespace Go.Proofs.Ytdnfbjmapdgnnaa
open Go.RowKit
set_option maxRecDepth 100000 in
set_option maxHeartbeats 4000000 in
theorem encodes_any (m n : MetaN) (hmt : -9223372036854775808 ≤ m.txn ∧ m.txn ≤ 9223372036854775807) (hnt : -9223372036854775808 ≤ n.txn ∧ n.txn ≤ 9223372036854775807) (w : World) :
    Calls Try.prog 4 #[.agg #[.int .i64 m.engine, .int .i64 m.page, .int .i64 m.txn, .int .i64 m.root, .int .i64 m.count, .int .i64 m.free, .int .i64 m.listed, .int .i64 m.high], .agg #[.int .i64 n.engine, .int .i64 n.page, .int .i64 n.txn, .int .i64 n.root, .int .i64 n.count, .int .i64 n.free, .int .i64 n.listed, .int .i64 n.high]] w fun e w' =>
      e = .returned (.bool true) ∧ Below w.heap.size w w' := by
  have ht : ∀ k, -9223372036854775808 ≤ (askM m n k).txn ∧ (askM m n k).txn ≤ 9223372036854775807 := fun k => by
    unfold askM; cases (k == 1) <;> simpa
  have HT := Lib.hid ht
  clear ht hmt hnt
  go_enter Try.func4, Try.ntmps4
  go_wp2_with fail
  refine (awakeN _).mono ?_
  rintro e w1 ⟨rfl, hw1⟩
  obtain ⟨hA, hB, b1⟩ := two_metas m n hw1 (by simp)
  clear hw1
  obtain ⟨c0, c1, c2, c3, c4, c5, c6, c7⟩ := cells8 hA
  obtain ⟨d0, d1, d2, d3, d4, d5, d6, d7⟩ := cells8 hB
  have gA := hA.lt
  have gB := hB.lt
  go_wp2_with fail
  go_loopw [7, 8] (fun got i wr => ∃ (k : Nat) (vs : List Value), i = .int .i64 (k : Int) ∧ k ≤ 4 ∧ EncI w w1.heap.size m n k got vs wr)
    (fun _ i _ => 4 - (intOf i).toNat)
  case atStart => exact ⟨0, [], rfl, by omega, rfl, Own.nil _ _ _ _, fun j u h => by simp at h, fun i j u u' _ h => by simp at h, OBlk.newAt _ (cells32 m n) rfl, b1.alloc b1.size _⟩
  case round =>
    clear hA hB c0 c1 c2 c3 c4 c5 c6 c7 d0 d1 d2 d3 d4 d5 d6 d7 gA gB
    obtain ⟨k, vs, rfl, hk, hI⟩ := hrel
    by_cases hlt : k < 4
    · have hlen := hI.len
      obtain ⟨G, cG, rfl⟩ := hI.own.slice
      rw [hlen]
      clear hlen
      obtain ⟨c0, c1, c2, c3, c4, c5, c6, c7⟩ := cells_at hI.cs k hlt
      have g1 := hI.cs.lt
      go_wp2_with fail
      refine (CheckN _ _).mono ?_
      rintro e w2 ⟨rfl, hw2⟩
      have hI2 := hI.below hw2
      obtain ⟨c0, c1, c2, c3, c4, c5, c6, c7⟩ := cells_at hI2.cs k hlt
      clear c0 c1 c2 c3 c4 c5 c6 c7
      obtain ⟨c0, c1, c2, c3, c4, c5, c6, c7⟩ := cells_at hI2.cs k hlt
      go_wp2_with fail
      refine (EncodeN _ _).mono ?_
      rintro e w3 ⟨A, cA, rfl, hv, hw3⟩
      have hlt3 := hI2.lt
      have hI3 := hI2.below hw3
      obtain ⟨c0, c1, c2, c3, c4, c5, c6, c7⟩ := cells_at hI3.cs k hlt
      go_wp2_with fail
      refine (RCheckN _ _).mono ?_
      rintro e w4 ⟨rfl, hw4⟩
      have hI4 := hI3.below hw4
      have hv4 := hv.below' hw4 (Nat.le_refl _)
      have hs2 := hI2.hb.size
      obtain ⟨c0, c1, c2, c3, c4, c5, c6, c7⟩ := cells_at hI4.cs k hlt
      have t1 := (HT.out k).1
      have t2 := (HT.out k).2
      go_wp2_with (first
        | (go_at_call 11; refine (Slot_any _ (by assumption) (by assumption) _).mono ?_; rintro e w5 ⟨rfl, rfl⟩)
        | (go_at_call 12; refine (RSlot_any _ (by assumption) (by assumption) _).mono ?_; rintro e w5 ⟨rfl, rfl⟩)
        | (at_builtin; refine wp_append_L1 rfl (.tmp 73) (.tmp 75) rfl w.heap.size _ vs (by rw [hI4.len]; rfl) hI4.own _ rfl 29 rfl (by rw [hI4.len]; omega) hI4.hb.size ?_; intro gr4 w5 hgr4 hg4 _)
        | fail)
      go_roundw
      case rel => exact ⟨k + 1, _, by go_num, by omega, hI4.step hlt3 hs2 hv4 hgr4 hg4⟩
      case measure => simp [intOf]; omega
    · obtain rfl : k = 4 := by omega
      obtain ⟨G, cG, rfl⟩ := hI.own.slice
      have hlen := hI.len
      have HL := Lib.hid hlen
      rw [hlen, show ((4 : Nat) : Int) = 4 from rfl]
      clear hlen
      go_wp2_with fail
      go_loopw [14] (fun i wr => ∃ j : Nat, i = .int .i64 (j : Int) ∧ j ≤ 4 ∧ EncI w w1.heap.size m n 4 (.slice G 4 cG) vs wr)
        (fun i _ => 4 - (intOf i).toNat)
      case atStart => exact ⟨0, rfl, by omega, by rw [HL.out] at hI; exact hI⟩
      case round =>
        clear hI
        obtain ⟨j, rfl, hj, hI⟩ := hrel
        by_cases hlt : j < 4
        · obtain ⟨c0, c1, c2, c3, c4, c5, c6, c7⟩ := cells_at hI.cs j hlt
          have g1 := hI.cs.lt
          go_wp2_with fail
          refine (REncodeN _ _).mono ?_
          rintro e w2 ⟨A, nA, cA, kA, rfl, hv, hw2⟩
          have hI2 := hI.below hw2
          have hju : vs[j]? = some (vs[j]'(by rw [HL.out]; exact hlt)) := List.getElem?_eq_getElem _
          have how := hI2.ls j _ hju
          obtain ⟨gG, rfl⟩ : ∃ gG, G = some ⟨gG, 0, none⟩ := by
            have := hI2.own
            rw [HL.out] at this
            rcases this.form with ⟨h, h0⟩ | ⟨g, c, h, _⟩
            · omega
            · injection h with h; exact ⟨g, h⟩
          have hcell := Own.cells (n := 4) (by have := hI2.own; rw [HL.out] at this; exact this) j _ hju
          obtain ⟨B, c, hB⟩ := how.slice' rfl
          rw [hB] at how hcell
          have q1 := run_B_string how.rd.drew
          have q2 := run_B_string hv.rd.drew
          clear hB hju c0 c1 c2 c3 c4 c5 c6 c7
          go_wp2_with fail
          have i1 : (j : Int) < 4 := by omega
          have i2 : (0 : Int) ≤ (j : Int) := by omega
          go_region
          go_wp2_with fail
          go_roundw
          case rel => exact ⟨j + 1, by go_num, by omega, hI2.below ((Below.refl _ _).drew)⟩
          case measure => simp [intOf]; omega
        · obtain rfl : j = 4 := by omega
          have g1 := hI.cs.lt
          go_wp2_with fail
          refine (owned_any _ vs (fun j => (askM m n j).pg) w.heap.size _ hI.hb.size hI.own hI.ls hI.ap (by rw [HL.out]; omega) (fun j => Nat.le_trans (askM m n j).pg_len (by omega))).mono ?_
          rintro e w3 ⟨rfl, hw3⟩
          go_wp2_with fail
          go_ret
          exact ⟨rfl, hI.hb.trans hw3⟩
end Go.Proofs.Ytdnfbjmapdgnnaa
