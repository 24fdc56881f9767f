/- plate.New, Load, Safe, Crash: walks. -/
import Derived.Test.YtipjngoenklioaaPlaFall
import Derived.Carry
namespace Go.Proofs.Ytipjngoenklioaa
open Go.RowKit
/-- May a device have such numbers? -/
def devB (p n : Int) : Bool := isPowB p && decide (4 ≤ n) && decide (n ≤ 65536) && decide (n * p ≤ 67108864)
theorem devB_spec {p n : Int} (h : devB p n = true) : isPowB p = true ∧ 4 ≤ n ∧ n ≤ 65536 ∧ n * p ≤ 67108864 := by
  unfold devB at h
  rw [Bool.and_eq_true, Bool.and_eq_true, Bool.and_eq_true] at h
  exact ⟨h.1.1.1, of_decide_eq_true h.1.1.2, of_decide_eq_true h.1.2, of_decide_eq_true h.2⟩
def S0 (p n : Nat) : PS := { page := p, np := n, sz := p * n, pg := List.replicate n (List.replicate p 0), wild := [], down := false, acts := -1, keep := [], torn := 0, at_ := 0, cr := 0, cw := 0, cs := 0 }
theorem flat_replicate (p : Nat) : ∀ n : Nat, (List.replicate n (List.replicate p (0 : UInt8))).flatten = List.replicate (p * n) 0
  | 0 => by simp
  | n + 1 => by rw [List.replicate_succ, List.flatten_cons, flat_replicate p n, List.replicate_append_replicate]; congr 1; rw [Nat.mul_add]; omega
theorem S0_ok {p n : Nat} (h : devB p n = true) : (S0 p n).ok := by
  obtain ⟨h1, h2, h3, h4⟩ := devB_spec h
  have h5 := isPowB_range h1
  have h6 : p * n ≤ 67108864 := by
    have e : ((n * p : Nat) : Int) = (n : Int) * (p : Int) := Int.natCast_mul _ _
    rw [Nat.mul_comm]; omega
  have r0 : -9223372036854775808 ≤ (0 : Int) ∧ (0 : Int) ≤ 9223372036854775807 := by omega
  exact { p1 := by show 512 ≤ p; omega, p2 := by show p ≤ 65536; omega, n1 := by show 4 ≤ n; omega, n2 := by show n ≤ 65536; omega, pn := h6, sn := rfl, pl := by simp [S0], pe := fun l hl => by rw [List.eq_of_mem_replicate hl]; simp [S0], we := by simp [S0],
          a1 := by show (-1 : Int) ≤ -1; omega, a2 := by show (-1 : Int) ≤ _; omega, c1 := r0, c2 := r0, c3 := r0, t1 := r0, t2 := r0 }
def NewAt (w : World) (page n : Nat) (e : Ending) (w' : World) : Prop := ∃ r F, e = .returned (plPtr r) ∧ PlRaw w' F r (S0 page n) ∧ (∀ k, F k → w.heap.size ≤ k) ∧ Below w.heap.size w w'
theorem new_mem (w w1 : World) (page n : Nat) (h : devB page n = true) (hb1 : OBlk w1 w.heap.size 5 (bvs (List.replicate (page * n) 0))) (hw1 : Below w.heap.size w w1) (hs1 : w1.heap.size = w.heap.size + 1) (cells : List Value)
    (hc : cells = plCells { pb := w.heap.size + 1 + 1, sb := w.heap.size, mb := w.heap.size + 1, vl := .slice none 0 0, vk := .slice none 0 0, dv := [] } (S0 page n)) :
    NewAt w page n (.returned (.pointer (some ⟨w.heap.size + 1 + 1, 0, none⟩))) ((w1.alloc (.map #[] 0)).alloc (.cells cells.toArray 66)) := by
  rw [← hs1] at hc ⊢
  have hm := World.ownsMap_made w1 Try.prog 3 (H := Unit) (plainElem Try.prog 3)
  have hmap : MapAt (w1.alloc (.map #[] 0)) w1.heap.size [] := ⟨_, hm, LastD.nil⟩
  have hbl := OBlk.new' (w1.alloc (.map #[] 0)) 66 cells
  rw [show (w1.alloc (.map #[] 0)).heap.size = w1.heap.size + 1 by simp, hc] at hbl
  refine ⟨{ pb := w1.heap.size + 1, sb := w.heap.size, mb := w1.heap.size, vl := .slice none 0 0, vk := .slice none 0 0, dv := [] }, fun k => w.heap.size ≤ k ∧ k < w.heap.size + 3, rfl, ?_, fun k hk => hk.1, ((hw1.alloc (by omega) _).alloc (by simp; omega) _)⟩
  rw [hc]
  exact { ok := S0_ok h, blk := hbl
          safe := by
            show OBlk _ _ _ (bvs (List.replicate n (List.replicate page 0)).flatten)
            rw [flat_replicate]
            exact (hb1.alloc _).alloc _
          loose := Own.nil _ _ _ _, dlen := rfl, data := fun i hi => by simp [S0] at hi
          map := hmap.heap (Below.heap_alloc _ _ _ (by simp)), keep := Own.nil _ _ _ _
          fp := by constructor <;> simp <;> omega
          fs := by constructor <;> simp
          fm := by constructor <;> simp <;> omega
          fl := fun g hg => by simp [Value.ownBlock] at hg
          fk := fun g hg => by simp [Value.ownBlock] at hg
          lt := fun k hk => by simp; omega }
set_option maxRecDepth 20000 in
set_option maxHeartbeats 2000000 in
theorem New_ok (page n : Nat) (h : devB page n = true) (w : World) : Calls Try.prog 8 #[.int .i64 (page : Int), .int .i64 (n : Int)] w (NewAt w page n) := by
  have H := Lib.hid h
  obtain ⟨h1, h2, h3, h4⟩ := devB_spec h
  have h5 := isPowB_range h1
  have HP := Lib.hid h1
  clear h1
  have h6 : page * n ≤ 67108864 := by
    have e : ((n * page : Nat) : Int) = (n : Int) * (page : Int) := Int.natCast_mul _ _
    rw [Nat.mul_comm]; omega
  have h7 : (n : Int) ≤ 67108864 / (page : Int) := (Int.le_ediv_iff_mul_le (by omega)).2 h4
  have h8 : ¬ 67108864 / (page : Int) < (n : Int) := by omega
  have e1 : (page : Int) * (n : Int) = ((page * n : Nat) : Int) := by push_cast; rfl
  have b1 : ((page * n : Nat) : Int) ≤ 67108864 := by omega
  have hmm := @run_makeMap Try.prog
  obtain ⟨m, hm⟩ : ∃ m, m = page * n := ⟨_, rfl⟩
  rw [← hm] at e1 b1 h6
  have HM := Lib.hid hm
  clear hm h4
  go_enter Try.func8, Try.ntmps8
  go_wp2_with (first
    | (go_at_call 33; refine (isPage_any _ (by omega) _).mono ?_; rintro e w0 ⟨rfl, rfl⟩; rw [HP.out])
    | (at_make; refine wp_make_B rfl (.tmp 25) (.tmp 25) rfl _ m rfl rfl (by go_num) (by omega) ?_; intro w1 hb1 hw1 hs1))
  go_ret
  have hm := HM.out
  subst hm
  exact new_mem w w1 page n H.out hb1 hw1 hs1 _ rfl
end Go.Proofs.Ytipjngoenklioaa
