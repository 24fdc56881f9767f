/- api.Bench: Read, Write, Free, Lay. -/
import Derived.Test.YtgnhakgfgdelpaaBen1
namespace Go.Proofs.Ytgnhakgfgdelpaa
open Go.RowKit Go.Maps
section
variable {w0 w : World} {gb gm : Nat} {pv : Int → Option Value} {S : BS} {L : List Ent}
set_option maxRecDepth 20000 in
set_option maxHeartbeats 2000000 in
theorem BRead_none (hE : (benchE gb gm pv S).p w) (n : Int) (hn : i64w n) (hh : S.held n = none) :
    Calls Try.prog 31 #[.pointer (some ⟨gb, 0, none⟩), .int .i64 n] w fun e w' => e = .returned (.tuple #[nilV, .int .i64 30]) ∧ w' = w := by
  obtain ⟨c0, c1, c2, c3, c4, f4⟩ := benchE_cells hE
  have hM := hE.2.1
  have hp : pv n = none := (hE.2.2.2.2.1 n).1 hh
  go_enter Try.func31, Try.ntmps31
  go_wp2_with (first | (at_lookup; refine wp_look rfl _ _ rfl hM rfl n hn rfl none hp ?_) | fail)
  go_ret2
  exact ⟨rfl, rfl⟩
set_option maxRecDepth 20000 in
set_option maxHeartbeats 2000000 in
theorem BRead_some (hS : Sep w0 w (benchE gb gm pv S :: L)) (n : Int) (hn : i64w n) (l : List UInt8) (hh : S.held n = some l) :
    Calls Try.prog 31 #[.pointer (some ⟨gb, 0, none⟩), .int .i64 n] w fun e w' => ∃ u, e = .returned (.tuple #[u, .int .i64 0]) ∧ Sep w0 w' (bytesE u l :: benchE gb gm pv S.read :: L) := by
  have hE : (benchE gb gm pv S).p w := hS.head
  obtain ⟨c0, c1, c2, c3, c4, f4⟩ := benchE_cells hE
  have hM := hE.2.1
  obtain ⟨v, hp, hv⟩ := benchE_some hE hh
  obtain ⟨A, c, rfl, hm⟩ := hv.rd.form
  have hS1 := benchE_read hS
  have hll : l.length ≤ 200000 := hE.2.2.1.len n l hh
  have hv1 : OwB (w.setCell ⟨gb, 4, none⟩ (.int .i64 (wrap64 (S.reads + 1)))) 0 (.slice A l.length c) l := by
    obtain ⟨v', hp', hv'⟩ := benchE_some (S := S.read) (n := n) hS1.head hh
    rw [hp] at hp'
    obtain rfl := Option.some.inj hp'
    exact hv'
  go_enter Try.func31, Try.ntmps31
  go_upto_region 5 with (first | (at_lookup; refine wp_look rfl _ _ rfl hM rfl n hn rfl (some _) hp ?_) | fail)
  generalize w.setCell ⟨gb, 4, none⟩ (.int .i64 (wrap64 (S.reads + 1))) = w1 at *
  go_wp2_with (first
    | (at_make; refine wp_make_0 rfl _ _ rfl l.length rfl rfl (by omega) ?_; intro w2 ho2 hw2 hs2)
    | (refine wp_append_B rfl _ _ rfl w1.heap.size _ _ rfl ho2 _ _ rfl (hv1.rd.below hw2 (Nat.le_refl _)) (by simp; omega) hw2.size ?_; intro u w3 ho3 hg3 hb3)
    | fail)
  go_ret2
  rw [List.nil_append] at ho3
  exact ⟨_, rfl, hS1.bytes (hw2.grown hg3 hw2.size (fun k hk => by have := (Own.lt ho2 k hk).1; exact this)) ho3 (Nat.le_refl _)⟩
def writeZ (S : BS) (n : Int) (d : List UInt8) : Int := if S.held n = none then 30 else if d.length ≠ S.page then 31 else 0
def writeS (S : BS) (n : Int) (d : List UInt8) : BS := if writeZ S n d = 0 then S.put n (some d) else S
set_option maxRecDepth 20000 in
set_option maxHeartbeats 4000000 in
theorem BWrite_any (hS : Sep w0 w (benchE gb gm pv S :: L)) (n : Int) (hn : i64w n) (x : Value) (d : List UInt8) (hx : RdB w x d) :
    Calls Try.prog 71 #[.pointer (some ⟨gb, 0, none⟩), .int .i64 n, x] w fun e w' => e = .returned (.int .i64 (writeZ S n d)) ∧ ∃ pv', Sep w0 w' (benchE gb gm pv' (writeS S n d) :: L) := by
  have hE : (benchE gb gm pv S).p w := hS.head
  obtain ⟨A, c, rfl, hm⟩ := hx.form
  obtain ⟨c0, c1, c2, c3, c4, f4⟩ := benchE_cells hE
  have hM := hE.2.1
  cases hh : S.held n with
  | none =>
    have HZ : Hid (writeZ S n d = 30) := by show _ = _; unfold writeZ; rw [if_pos hh]
    have HS : Hid (writeS S n d = S) := by show _ = _; unfold writeS; rw [HZ.out, if_neg (by decide)]
    have hp : pv n = none := (hE.2.2.2.2.1 n).1 hh
    go_enter Try.func71, Try.ntmps71
    go_wp2_with (first | (at_lookup; refine wp_look rfl _ _ rfl hM rfl n hn rfl none hp ?_) | fail)
    go_ret
    rw [HZ.out, HS.out]
    exact ⟨rfl, _, hS⟩
  | some l =>
    obtain ⟨v, hp, hv⟩ := benchE_some hE hh
    obtain ⟨A', c', rfl, hm'⟩ := hv.rd.form
    by_cases hd : d.length = S.page
    · have HZ : Hid (writeZ S n d = 0) := by show _ = _; unfold writeZ; rw [hh, if_neg (by simp), if_neg (by simpa using hd)]
      have HS : Hid (writeS S n d = S.put n (some d)) := by show _ = _; unfold writeS; rw [HZ.out, if_pos rfl]
      have hpg := isPowB_range hE.2.2.1.page
      have hdl : d.length ≤ 65536 := by omega
      have e1 : ((d.length : Int) != (S.page : Int)) = false := by rw [hd]; simp
      have hdm := hE.2.2.1.dom n (by rw [hh]; rfl)
      have hcl := cntB_le S
      have hph := hE.2.2.1.hi
      have hgs := hE.1.lt
      have HD := Lib.hid hd
      clear hd
      have hmk := fun w => run_make_0 w d.length (by omega)
      go_enter Try.func71, Try.ntmps71
      go_upto_region 6 with (first | (at_lookup; refine wp_look rfl _ _ rfl hM rfl n hn rfl (some _) hp ?_) | fail)
      have ho2 := made_0 w.drew d.length w.drew.heap.size (Nat.le_refl _) (by omega)
      have hw2 : Below w.drew.heap.size w.drew _ := (Below.refl _ _).alloc (Nat.le_refl _) (.cells (bvs (List.replicate d.length 0)).toArray 5)
      go_region_held3 (fun w' => w'.cell? ⟨gb, 3, none⟩ = some (.map (some gm)))
        (first | exact c3 | exact (hw2.cell (p := ⟨gb, 3, none⟩) hgs).trans c3 | exact (hw3.cell (p := ⟨gb, 3, none⟩) hgs).trans c3 | exact (World.cell?_of_block ((Turn.of_map ht4).block gb (Nat.lt_of_lt_of_le hgs hw3.size) hE.2.2.2.1)).trans ((hw3.cell (p := ⟨gb, 3, none⟩) hgs).trans c3))
        (first
          | (refine step_append_B (by rfl) _ _ (by rfl) w.drew.heap.size _ _ (by rfl) ho2 _ _ (by rfl) (hx.drew.below hw2 (Nat.le_refl _)) (by simp; omega) hw2.size ?_; intro u w3 ho3 hg3 hb3; rw [List.nil_append] at ho3; have hw3 := hw2.grown hg3 hw2.size (fun k hk => (Own.lt ho2 k hk).1))
          | (refine upon_store (MapAt.heap hM (hw3.block gm hM.lt)) (by simp only [maxLen]; omega) n hn _ rfl ?_; intro w4 hM4 ht4)
          | fail)
      go_wp2_with fail
      go_ret
      rw [HZ.out, HS.out]
      exact ⟨rfl, _, benchE_put (hS.drew.bytes hw3 ho3 (Nat.le_refl _)) hdm (by omega) hM4 ht4⟩
    · have HZ : Hid (writeZ S n d = 31) := by show _ = _; unfold writeZ; rw [hh, if_neg (by simp), if_pos hd]
      have HS : Hid (writeS S n d = S) := by show _ = _; unfold writeS; rw [HZ.out, if_neg (by decide)]
      have e1 : ((d.length : Int) != (S.page : Int)) = true := by simp only [bne, beq_eq_false_iff_ne.2 (show (d.length : Int) ≠ (S.page : Int) by omega)]; rfl
      go_enter Try.func71, Try.ntmps71
      go_wp2_with (first | (at_lookup; refine wp_look rfl _ _ rfl hM rfl n hn rfl (some _) hp ?_) | fail)
      go_ret
      rw [HZ.out, HS.out]
      exact ⟨rfl, _, hS⟩
end
end Go.Proofs.Ytgnhakgfgdelpaa
