/- espalierref03.Plate: the state, and where it lies; IsPage, device, Pages. -/
import Derived.Test.YtipjngoenklioaaPlaImg
import Derived.Test.YtipjngoenklioaaMem2
namespace Go.Proofs.Ytipjngoenklioaa
open Go.RowKit
structure RRaw where
  pb : Nat
  lv : Value
  pv : List Value
  wl : Value
  dv : List Value
  vk : Value
  armed : Bool
  ra : Int
def rfCells (r : RRaw) (S : PS) : List Value :=
  [.int .i64 (S.page : Int), r.lv, r.wl, .bool S.down, .bool r.armed, .int .i64 r.ra, r.vk, .int .i64 S.torn, .int .i64 S.at_, .int .i64 S.cr, .int .i64 S.cw, .int .i64 S.cs]
def ApartV (vs : List Value) : Prop := ∀ (i j : Nat) (u u' : Value), i ≠ j → vs[i]? = some u → vs[j]? = some u' → ∀ g, u.ownBlock = some g → some g ≠ u'.ownBlock
structure RfAt (w : World) (F : Nat → Prop) (r : RRaw) (S : PS) : Prop where
  ok : S.ok
  blk : OBlk w r.pb 76 (rfCells r S)
  own : Own w 0 28 1 r.lv S.pg.length r.pv
  pl : r.pv.length = S.pg.length
  page : ∀ (i : Nat) (h : i < S.pg.length) (v : Value), r.pv[i]? = some v → OwB w 0 v S.pg[i] ∧ ∀ g, v.ownBlock = some g → F g
  apart : ApartV r.pv
  loose : Own w 0 85 2 r.wl S.wild.length (wcells S.wild r.dv)
  dlen : r.dv.length = S.wild.length
  data : ∀ (i : Nat) (h : i < S.wild.length) (v : Value), r.dv[i]? = some v → OwB w 0 v S.wild[i].2 ∧ ∀ g, v.ownBlock = some g → F g ∧ ∀ (j : Nat) (u : Value), r.pv[j]? = some u → some g ≠ u.ownBlock
  keep : Own w 0 3 1 r.vk S.keep.length (S.keep.map (Value.int .i64))
  armed : r.armed = decide (0 ≤ S.acts)
  acts : 0 ≤ S.acts → r.ra = S.acts
  ra : -9223372036854775808 ≤ r.ra ∧ r.ra ≤ 9223372036854775807
  fp : F r.pb
  fl : ∀ g, r.lv.ownBlock = some g → F g
  fw : ∀ g, r.wl.ownBlock = some g → F g
  fk : ∀ g, r.vk.ownBlock = some g → F g
  lt : ∀ k, F k → k < w.heap.size
def rfPtr (r : RRaw) : Value := .pointer (some ⟨r.pb, 0, none⟩)
section
variable {w w' : World} {F G : Nat → Prop} {r : RRaw} {S : PS}
theorem RfAt.heap (h : RfAt w F r S) (hs : w.heap.size ≤ w'.heap.size) (hk : ∀ k, F k → w'.heap[k]? = w.heap[k]?) : RfAt w' F r S :=
  { h with
    blk := h.blk.of_heap (hk _ h.fp)
    own := h.own.heap fun g hg => hk g (h.fl g hg)
    page := fun i hi v hv => ⟨Own.heap (h.page i hi v hv).1 fun g hg => hk g ((h.page i hi v hv).2 g hg), (h.page i hi v hv).2⟩
    loose := h.loose.heap fun g hg => hk g (h.fw g hg)
    data := fun i hi v hv => ⟨Own.heap (h.data i hi v hv).1 fun g hg => hk g ((h.data i hi v hv).2 g hg).1, (h.data i hi v hv).2⟩
    keep := h.keep.heap fun g hg => hk g (h.fk g hg)
    lt := fun k hf => Nat.lt_of_lt_of_le (h.lt k hf) hs }
theorem RfAt.turn (h : RfAt w F r S) (ht : Turn G w w') (hd : ∀ k, F k → ¬ G k) : RfAt w' F r S := h.heap ht.size fun k hf => ht.block k (h.lt k hf) (hd k hf)
theorem RfAt.below (h : RfAt w F r S) (hb : Below w.heap.size w w') : RfAt w' F r S := h.heap hb.size fun k hf => hb.block k (h.lt k hf)
theorem RfAt.drew (h : RfAt w F r S) : RfAt w.drew F r S := h.heap (Nat.le_refl _) fun _ _ => rfl
theorem RfAt.c0 (h : RfAt w F r S) : w.cell? ⟨r.pb, 0, none⟩ = some (.int .i64 (S.page : Int)) := h.blk.cell' rfl
theorem RfAt.c1 (h : RfAt w F r S) : w.cell? ⟨r.pb, 1, none⟩ = some r.lv := h.blk.cell' rfl
theorem RfAt.c2 (h : RfAt w F r S) : w.cell? ⟨r.pb, 2, none⟩ = some r.wl := h.blk.cell' rfl
theorem RfAt.c3 (h : RfAt w F r S) : w.cell? ⟨r.pb, 3, none⟩ = some (.bool S.down) := h.blk.cell' rfl
theorem RfAt.c4 (h : RfAt w F r S) : w.cell? ⟨r.pb, 4, none⟩ = some (.bool r.armed) := h.blk.cell' rfl
theorem RfAt.c5 (h : RfAt w F r S) : w.cell? ⟨r.pb, 5, none⟩ = some (.int .i64 r.ra) := h.blk.cell' rfl
theorem RfAt.c6 (h : RfAt w F r S) : w.cell? ⟨r.pb, 6, none⟩ = some r.vk := h.blk.cell' rfl
theorem RfAt.c7 (h : RfAt w F r S) : w.cell? ⟨r.pb, 7, none⟩ = some (.int .i64 S.torn) := h.blk.cell' rfl
theorem RfAt.c8 (h : RfAt w F r S) : w.cell? ⟨r.pb, 8, none⟩ = some (.int .i64 S.at_) := h.blk.cell' rfl
theorem RfAt.c9 (h : RfAt w F r S) : w.cell? ⟨r.pb, 9, none⟩ = some (.int .i64 S.cr) := h.blk.cell' rfl
theorem RfAt.c10 (h : RfAt w F r S) : w.cell? ⟨r.pb, 10, none⟩ = some (.int .i64 S.cw) := h.blk.cell' rfl
theorem RfAt.c11 (h : RfAt w F r S) : w.cell? ⟨r.pb, 11, none⟩ = some (.int .i64 S.cs) := h.blk.cell' rfl
theorem RfAt.fz (h : RfAt w F r S) {j : Nat} (hj : j < 12) : w.frozen? ⟨r.pb, j, none⟩ = false := h.blk.frozen (by simpa [rfCells] using hj)
end
set_option maxRecDepth 20000 in
theorem RPages_any (w : World) (F : Nat → Prop) (r : RRaw) (S : PS) (h : RfAt w F r S) : Calls Try.prog 25 #[rfPtr r] w fun e w' => e = .returned (.int .i64 (S.np : Int)) ∧ w = w' := by
  have c1 := h.c1
  obtain ⟨A, c, hv⟩ := h.own.slice
  rw [hv, h.ok.pl] at c1
  clear hv
  unfold rfPtr
  go_enter Try.func25, Try.ntmps25
  go_wp2_with fail
  go_ret
  exact ⟨rfl, rfl⟩
set_option maxRecDepth 20000 in
theorem RPage_any (w : World) (F : Nat → Prop) (r : RRaw) (S : PS) (h : RfAt w F r S) : Calls Try.prog 29 #[rfPtr r] w fun e w' => e = .returned (.int .i64 (S.page : Int)) ∧ w = w' := by
  have c0 := h.c0
  unfold rfPtr
  go_enter Try.func29, Try.ntmps29
  go_wp2_with fail
  go_ret
  exact ⟨rfl, rfl⟩
def pw (j : Nat) : Int := 512 * 2 ^ j
theorem isPow_pw (p : Int) : isPow p ↔ ∃ j, j < 8 ∧ p = pw j := by
  unfold isPow pw
  constructor
  · rintro (h | h | h | h | h | h | h | h)
    · exact ⟨0, by omega, h⟩
    · exact ⟨1, by omega, h⟩
    · exact ⟨2, by omega, h⟩
    · exact ⟨3, by omega, h⟩
    · exact ⟨4, by omega, h⟩
    · exact ⟨5, by omega, h⟩
    · exact ⟨6, by omega, h⟩
    · exact ⟨7, by omega, h⟩
  · rintro ⟨j, hj, rfl⟩
    rcases (by omega : j = 0 ∨ j = 1 ∨ j = 2 ∨ j = 3 ∨ j = 4 ∨ j = 5 ∨ j = 6 ∨ j = 7) with rfl | rfl | rfl | rfl | rfl | rfl | rfl | rfl <;> simp
set_option maxRecDepth 20000 in
set_option maxHeartbeats 2000000 in
theorem IsPage_any (p : Int) (w : World) : Calls Try.prog 42 #[.int .i64 p] w fun e w' => e = .returned (.bool (isPowB p)) ∧ w = w' := by
  go_enter Try.func42, Try.ntmps42
  go_wp2_with fail
  go_loopw [3] (fun i wr => ∃ j : Nat, j ≤ 8 ∧ i = .int .i64 (pw j) ∧ Hid (∀ k, k < j → p ≠ pw k) ∧ w = wr) (fun i _ => (131072 - intOf i).toNat)
  case atStart => exact ⟨0, by omega, rfl, Lib.hid (by omega), rfl⟩
  case round =>
    obtain ⟨j, hj, rfl, HN, rfl⟩ := hrel
    rcases (by omega : j = 8 ∨ j < 8) with rfl | hlt
    · have HV := Lib.hid (show isPowB p = false from decide_eq_false fun h => by
        obtain ⟨k, hk, e⟩ := (isPow_pw p).1 h
        exact HN.out k hk e)
      have e8 : pw 8 = 131072 := by decide
      rw [e8]
      go_wp2_with fail
      go_ret
      rw [HV.out]
      exact ⟨rfl, rfl⟩
    · have hb : 512 ≤ pw j ∧ pw j ≤ 65536 ∧ pw (j + 1) = 2 * pw j := by
        rcases (by omega : j = 0 ∨ j = 1 ∨ j = 2 ∨ j = 3 ∨ j = 4 ∨ j = 5 ∨ j = 6 ∨ j = 7) with rfl | rfl | rfl | rfl | rfl | rfl | rfl | rfl <;> decide
      obtain ⟨h1, h2, h3⟩ := hb
      by_cases hp : p = pw j
      · have HV := Lib.hid (show isPowB p = true from decide_eq_true ((isPow_pw p).2 ⟨j, hlt, hp⟩))
        have hb : (pw j == p) = true := by simp [hp]
        clear hp h3
        generalize pw j = x at *
        go_wp2_with fail
        go_ret
        rw [HV.out]
        exact ⟨rfl, rfl⟩
      · have HN2 := Lib.hid (show ∀ k, k < j + 1 → p ≠ pw k from fun k hk => by
          rcases (by omega : k < j ∨ k = j) with h | rfl
          · exact HN.out k h
          · exact hp)
        have hb : (pw j == p) = false := by
          rw [Bool.eq_false_iff]
          simp only [ne_eq, beq_iff_eq]
          exact fun e => hp e.symm
        have H3 := Lib.hid h3
        clear hp h3
        generalize hx : pw j = x at *
        clear hx
        go_wp2_with fail
        go_roundw
        case rel => exact ⟨j + 1, by omega, by rw [H3.out], HN2, trivial⟩
        case measure => simp [intOf]; omega
end Go.Proofs.Ytipjngoenklioaa
