/- plain.Insert into a page that is empty, or beyond its end: the walk. -/
import Derived.Test.YtonbcipofakpjaaPlnIns2
namespace Go.Proofs.Ytonbcipofakpjaa
open Go.RowKit
set_option maxRecDepth 100000 in
set_option maxHeartbeats 4000000 in
theorem Insert_far {w : World} {p : Nat} {kind : Int} {P : Nat} {used : Int} {v : Value} {l : List CV} (h : PgAt w p kind P used v l) (x : CV) (hx : x.ok w) (i : Int) (hi : (l.length : Int) < i) :
    Calls Try.prog 40 #[.pointer (some ⟨p, 0, none⟩), .int .i64 i, cellV x] w fun e w' => e = .returned (.int .i64 64) ∧ Below w.heap.size w w' := by
  obtain ⟨A, ca, B, cb, key, ck, val, pg, ct, rfl, hk1, hk2⟩ := CV.form hx
  obtain ⟨L, lc, rfl, hm, hc⟩ := h.rd.slice
  have hA : Below w.heap.size w (w.alloc (.cells #[.slice A key.length ca, .int .i64 ck, .slice B val.length cb, .int .i64 pg, .int .i64 ct] 32)) := (Below.refl _ _).alloc (Nat.le_refl _) _
  have hB := h.blk.alloc (.cells #[.slice A key.length ca, .int .i64 ck, .slice B val.length cb, .int .i64 pg, .int .i64 ct] 32)
  obtain ⟨b0, b1, b2, b3⟩ := cells4 hB
  have hpl := h.blk.lt
  have i1 : ¬ i < 0 := by omega
  unfold cellV
  go_enter Try.func40, Try.ntmps40
  go_wp2_with fail
  go_ret
  exact ⟨rfl, hA⟩
set_option maxRecDepth 100000 in
set_option maxHeartbeats 4000000 in
theorem Insert_first {w : World} {p : Nat} {kind : Int} {P : Nat} (h : PgAt w p kind P 8 (.slice none 0 0) []) (hP : P ≤ 65536) (x : CV) (hx : x.ok w) (hxp : ∀ w', Below p w w' → x.ok w') (hm : mayP kind P x.c = true) (hf : 10 + longF x.c ≤ P) :
    Calls Try.prog 40 #[.pointer (some ⟨p, 0, none⟩), .int .i64 0, cellV x] w fun e w' => e = .returned (.int .i64 0) ∧ (∃ (v : Value) (y : CV), y.c = x.c ∧ PgAt w' p kind P ((10 + longF x.c : Nat) : Int) v [y]) ∧ Below p w w' := by
  have hok := may_ok hm
  have hkv := okc_fit hok hP
  have hrf := fun W (hW : Below w.heap.size w W) => refused_nil (h.below hW) hP x (hx.below hW) hm hf
  obtain ⟨A, ca, B, cb, key, ck, val, pg, ct, rfl, hk1, hk2⟩ := CV.form hx
  have hA : Below w.heap.size w (w.alloc (.cells #[.slice A key.length ca, .int .i64 ck, .slice B val.length cb, .int .i64 pg, .int .i64 ct] 32)) := (Below.refl _ _).alloc (Nat.le_refl _) _
  have hC := OBlk.new' w 32 [.slice A key.length ca, .int .i64 ck, .slice B val.length cb, .int .i64 pg, .int .i64 ct]
  have hB := h.blk.alloc (.cells #[.slice A key.length ca, .int .i64 ck, .slice B val.length cb, .int .i64 pg, .int .i64 ct] 32)
  have hx1 := hx.below hA
  have hpw : p < w.heap.size := h.blk.lt
  have hkv' : key.length + val.length ≤ 131072 := hkv
  have hr := ((OwCs.rng (OwCs.nil w 0)) : _)
  have hlo : ∀ W, CV.ok W ⟨.slice A key.length ca, .slice B val.length cb, ⟨key, ck, val, pg, ct⟩⟩ → Calls Try.prog 53 #[.agg #[.slice A key.length ca, .int .i64 ck, .slice B val.length cb, .int .i64 pg, .int .i64 ct]] W fun e w' => e = .returned (.int .i64 (longF ⟨key, ck, val, pg, ct⟩ : Nat)) ∧ Below W.heap.size W w' := fun W hW => long_any ⟨.slice A key.length ca, .slice B val.length cb, ⟨key, ck, val, pg, ct⟩⟩ W hW (show key.length + val.length ≤ 9223372036854775000 by omega)
  have how : ∀ W, CV.ok W ⟨.slice A key.length ca, .slice B val.length cb, ⟨key, ck, val, pg, ct⟩⟩ → Calls Try.prog 71 #[.agg #[.slice A key.length ca, .int .i64 ck, .slice B val.length cb, .int .i64 pg, .int .i64 ct]] W fun e w' => ∃ (K2 V2 : Option Addr) (kc vc : Nat), e = .returned (.agg #[.slice K2 key.length kc, .int .i64 ck, .slice V2 val.length vc, .int .i64 pg, .int .i64 ct]) ∧ OwB w' W.heap.size (.slice K2 key.length kc) key ∧ OwB w' W.heap.size (.slice V2 val.length vc) val ∧ Below W.heap.size W w' := fun W hW => by
    refine (own_any ⟨.slice A key.length ca, .slice B val.length cb, ⟨key, ck, val, pg, ct⟩⟩ W hW (show key.length ≤ _ by omega) (show val.length ≤ _ by omega)).mono fun e w' hh => ?_
    obtain ⟨⟨kv, vv, c⟩, rfl, rfl, hk, hv, _, hb⟩ := hh
    simp only at hk hv
    obtain ⟨K2, kc, rfl⟩ := Own.slice hk
    obtain ⟨V2, vc, rfl⟩ := Own.slice hv
    exact ⟨K2, V2, kc, vc, rfl, hk, hv, hb⟩
  have hf' : 10 + longF ⟨key, ck, val, pg, ct⟩ ≤ P := hf
  have hins := fun (W : World) (K2 V2 : Option Addr) (kc vc : Nat) (b1 b2 : Nat) hk hv => InsertS_nil W ⟨.slice K2 key.length kc, .slice V2 val.length vc, ⟨key, ck, val, pg, ct⟩⟩ b1 b2 hk hv
  simp only [CV.cells] at hins
  unfold cellV at hrf ⊢
  have HL := Lib.hid hlo
  have HO := Lib.hid how
  have HI := Lib.hid hins
  have HX := Lib.hid hx
  have HXP := Lib.hid hxp
  have HE : Hid (longF (⟨.slice A key.length ca, .slice B val.length cb, ⟨key, ck, val, pg, ct⟩⟩ : CV).c = longF ⟨key, ck, val, pg, ct⟩) := Lib.hid rfl
  have hrf1 := hrf _ hA
  clear hlo how hins hx hxp hm hok hkv hf hrf hr
  generalize longF ⟨key, ck, val, pg, ct⟩ = lo at *
  go_enter Try.func40, Try.ntmps40
  obtain ⟨b0, b1, b2, b3⟩ := cells4 hB
  go_wp2_with fail
  refine hrf1.mono ?_
  rintro e w1 ⟨rfl, hw1⟩
  have hC1 := hC.below hw1 hC.lt
  have hB1 := hB.below hw1 hB.lt
  have hx2 := hx1.below hw1
  have hA1 := hA.trans (hw1.mono hA.size)
  have hz := hC1.lt
  clear hrf1 b0 b1 b2 b3 hC hB hx1 hw1 hA
  obtain ⟨b0, b1, b2, b3⟩ := cells4 hB1
  obtain ⟨c0, c1, c2, c3, c4⟩ := cells5 hC1
  have f2 := hB1.frozen (j := 2) (by simp)
  have hpz := hB1.lt
  have i2 : IntKind.i64.wrap ((8 : Int) + ((2 : Int) + (lo : Int))) = (8 : Int) + ((2 : Int) + (lo : Int)) := by rw [IntKind.wrap_i64]; omega
  have i3 : IntKind.i64.wrap ((2 : Int) + (lo : Int)) = (2 : Int) + (lo : Int) := by rw [IntKind.wrap_i64]; omega
  go_upto_region 6 with (fail)
  go_cut [] (fun wx => OBlk wx p 89 [.int .i64 kind, .int .i64 (P : Int), .int .i64 ((10 + lo : Nat) : Int), .slice none 0 0] ∧ OBlk wx w.heap.size 32 [.slice A key.length ca, .int .i64 ck, .slice B val.length cb, .int .i64 pg, .int .i64 ct] ∧ Below p w wx)
  case first =>
    go_region_law
      (first
        | (go_simp; go_at_call 53; refine (HL.out _ (hx2.below ((Below.refl _ _).drew))).mono ?_; rintro e w3 ⟨rfl, hw3⟩; have hB3 := hB1.drew.below hw3 hpz; have hC3 := hC1.drew.below hw3 hz; obtain ⟨d0, d1, d2, d3⟩ := cells4 hB3; have g2 := hB3.frozen (j := 2) (by simp))
        | fail)
    all_goals
      go_wp2_with fail
      go_meet
      have hB4 := hB3.set 2 (.int .i64 (8 + (2 + (lo : Int))))
      simp only [List.set_cons_succ, List.set_cons_zero] at hB4
      rw [show ((10 + lo : Nat) : Int) = 8 + (2 + (lo : Int)) by omega]
      exact ⟨hB4, hC3.far (p := ⟨p, 2, none⟩) (show w.heap.size ≠ p by omega) _, (((hA1.mono (B' := p) (by omega)).trans (((Below.refl w1.heap.size w1).drew.trans hw3).mono (B' := p) (by omega))).setCell (p := ⟨p, 2, none⟩) (Nat.le_refl _) _)⟩
  case rest =>
    obtain ⟨hB5, hC5, hb5⟩ := hcut
    clear b0 b1 b2 b3 c0 c1 c2 c3 c4 f2 hB1 hC1
    obtain ⟨b0, b1, b2, b3⟩ := cells4 hB5
    obtain ⟨c0, c1, c2, c3, c4⟩ := cells5 hC5
    have hpz5 := hB5.lt
    have hcz5 := hC5.lt
    have f3 := hB5.frozen (j := 3) (by simp)
    go_upto_region 7 with (fail)
    have hx5 := HXP.out _ (hb5.drew)
    go_region_law
      (first
        | (go_simp; go_at_call 71; refine (HO.out _ hx5).mono ?_; rintro e w6 ⟨K2, V2, kc, vc, rfl, hk6, hv6, hw6⟩; have hB6 := hB5.drew.below hw6 hpz5; obtain ⟨d0, d1, d2, d3⟩ := cells4 (hB6.alloc (.cells #[.slice K2 key.length kc, .int .i64 ck, .slice V2 val.length vc, .int .i64 pg, .int .i64 ct] 32)); obtain ⟨e0, e1, e2, e3⟩ := cells4 hB6)
        | (go_simp; go_at_call 70; refine (HI.out w6 K2 V2 kc vc _ _ hk6 hv6).mono ?_; rintro e w7 ⟨v7, rfl, hown7, hw7⟩; obtain ⟨B7, c7, rfl⟩ := Own.slice hown7; have hB7 := hB6.below hw7 hB6.lt; obtain ⟨x0, x1, x2, x3⟩ := cells4 hB7; have g3 := hB7.frozen (j := 3) (by simp))
        | fail)
    all_goals
      have hw5z : wc.heap.size ≤ w6.heap.size := hw6.size
      have hB8 := hB7.set 3 (.slice B7 1 c7)
      simp only [List.set_cons_succ, List.set_cons_zero] at hB8
      have hheap : ∀ k, p < k → (w7.setCell ⟨p, 3, none⟩ (.slice B7 1 c7)).heap[k]? = w7.heap[k]? := fun k hk => Below.heap_setCell _ _ _ _ (show k ≠ p by omega)
      have hown8 := Own.heap hown7 fun k hk => hheap k (by have := (Own.lt hown7 k hk).1; omega)
      have hk8 := Own.heap (Own.below' hk6 hw7 (Nat.le_refl _)) fun k hk => hheap k (by have := (Own.lt hk6 k hk).1; have : wc.heap.size ≤ k := this; omega)
      have hv8 := Own.heap (Own.below' hv6 hw7 (Nat.le_refl _)) fun k hk => hheap k (by have := (Own.lt hv6 k hk).1; have : wc.heap.size ≤ k := this; omega)
      have hb8 : Below p w (w7.setCell ⟨p, 3, none⟩ (.slice B7 1 c7)) := ((hb5.drew.trans (hw6.mono (B' := p) (show p ≤ wc.heap.size by omega))).trans (hw7.mono (B' := p) (by omega))).setCell (p := ⟨p, 3, none⟩) (Nat.le_refl _) _
      have HB8 := Lib.hid hB8
      have HO8 := Lib.hid hown8
      have HK8 := Lib.hid hk8
      have HV8 := Lib.hid hv8
      clear hB8 hown8 hk8 hv8 hheap
      go_wp2_with fail
      go_ret
      refine ⟨rfl, ⟨_, ⟨.slice K2 key.length kc, .slice V2 val.length vc, ⟨key, ck, val, pg, ct⟩⟩, rfl, HB8.out, ⟨?_, ?_⟩⟩, hb8⟩
      · exact HO8.out.rd
      · intro y hy
        rw [List.mem_singleton] at hy
        subst hy
        exact { k := OwB.rd HK8.out, v := OwB.rd HV8.out, r1 := HX.out.r1, r2 := HX.out.r2, r3 := HX.out.r3 }
end Go.Proofs.Ytonbcipofakpjaa
