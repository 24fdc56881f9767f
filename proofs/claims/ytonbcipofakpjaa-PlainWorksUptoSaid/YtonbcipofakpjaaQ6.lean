/- Texts joined: plain.Insert into a page that is empty, or beyond its end; plain.Insert into a page that is empty, or beyond its end; Bytes made of a constant.; espalierlaw06.awake; espalierlaw06.PlainTotal; espalierlaw06.great, espalierref06.SameCell, SameCells, espalierlaw06.PlainBack -/
import Derived.Test.YtonbcipofakpjaaQ2
import Derived.Test.YtonbcipofakpjaaQ5
import Derived.Lib.SlBytesConst
import Derived.Laws.Cover1
-- plain.Insert into a page that is empty, or beyond its end: walks.
namespace Go.Proofs.Ytonbcipofakpjaa
open Go.RowKit
set_option maxRecDepth 100000 in
set_option maxHeartbeats 4000000 in
/-- An empty page's refusal. -/
theorem refused_nil {w : World} {p : Nat} {kind : Int} {P : Nat} (h : PgAt w p kind P 8 (.slice none 0 0) []) (hP : P ≤ 65536) (x : CV) (hx : x.ok w) (hm : mayP kind P x.c = true) (hf : 10 + longF x.c ≤ P) :
    Calls Try.prog 69 #[.pointer (some ⟨p, 0, none⟩), .int .i64 0, .int .i64 0, cellV x, .int .i64 0] w fun e w' => e = .returned (.int .i64 0) ∧ Below w.heap.size w w' := by
  have hok := may_ok hm
  have hkv := okc_fit hok hP
  obtain ⟨A, ca, B, cb, key, ck, val, pg, ct, rfl, hk1, hk2⟩ := CV.form hx
  have hA : Below w.heap.size w (w.alloc (.cells #[.slice A key.length ca, .int .i64 ck, .slice B val.length cb, .int .i64 pg, .int .i64 ct] 32)) := (Below.refl _ _).alloc (Nat.le_refl _) _
  have hC := OBlk.new' w 32 [.slice A key.length ca, .int .i64 ck, .slice B val.length cb, .int .i64 pg, .int .i64 ct]
  have hB := h.blk.alloc (.cells #[.slice A key.length ca, .int .i64 ck, .slice B val.length cb, .int .i64 pg, .int .i64 ct] 32)
  have hx1 := hx.below hA
  have hma := fun W => may_any ⟨.slice A key.length ca, .slice B val.length cb, ⟨key, ck, val, pg, ct⟩⟩ kind P hP W
  have hlo := fun W => long_any ⟨.slice A key.length ca, .slice B val.length cb, ⟨key, ck, val, pg, ct⟩⟩ W
  have hkv' : key.length + val.length ≤ 9223372036854775000 := by have : key.length + val.length ≤ 131072 := hkv; omega
  rw [hm] at hma
  have hf' : 10 + longF ⟨key, ck, val, pg, ct⟩ ≤ P := hf
  unfold cellV at hma hlo ⊢
  have hlo2 : ∀ W, CV.ok W ⟨.slice A key.length ca, .slice B val.length cb, ⟨key, ck, val, pg, ct⟩⟩ → Calls Try.prog 53 #[.agg #[.slice A key.length ca, .int .i64 ck, .slice B val.length cb, .int .i64 pg, .int .i64 ct]] W fun e w' => e = .returned (.int .i64 (longF ⟨key, ck, val, pg, ct⟩ : Nat)) ∧ Below W.heap.size W w' := fun W hW => hlo W hW hkv'
  have HM := Lib.hid hma
  have HL := Lib.hid hlo2
  have HX := Lib.hid hx
  clear hlo hma hlo2 hm hok hkv hf h hx
  have hpl := hB.lt
  generalize longF ⟨key, ck, val, pg, ct⟩ = lo at *
  go_enter Try.func69, Try.ntmps69
  go_upto_region 1 with (fail)
  generalize (w.alloc (.cells #[.slice A key.length ca, .int .i64 ck, .slice B val.length cb, .int .i64 pg, .int .i64 ct] 32)) = w1 at *
  obtain ⟨c0, c1, c2, c3, c4⟩ := cells5 hC
  obtain ⟨b0, b1, b2, b3⟩ := cells4 hB
  have hcl := hC.lt
  go_cut [11] (fun s wx => s = .bool false ∧ Below w1.heap.size w1 wx)
  case first =>
    go_region_held3 (fun w' => w'.cell? ⟨w.heap.size, 0, none⟩ = some (.slice A key.length ca) ∧ w'.cell? ⟨w.heap.size, 1, none⟩ = some (.int .i64 ck) ∧ w'.cell? ⟨w.heap.size, 2, none⟩ = some (.slice B val.length cb) ∧ w'.cell? ⟨w.heap.size, 3, none⟩ = some (.int .i64 pg) ∧ w'.cell? ⟨w.heap.size, 4, none⟩ = some (.int .i64 ct) ∧ w'.cell? ⟨p, 0, none⟩ = some (.int .i64 kind) ∧ w'.cell? ⟨p, 1, none⟩ = some (.int .i64 (P : Int)))
      (first
        | exact ⟨c0, c1, c2, c3, c4, b0, b1⟩
        | (obtain ⟨d0, d1, d2, d3, d4⟩ := cells5 (hC.drew.below hw2 hcl); obtain ⟨f0, f1, _, _⟩ := cells4 (hB.drew.below hw2 hpl); exact ⟨d0, d1, d2, d3, d4, f0, f1⟩))
      (first
        | (go_at_call 50; refine (HM.out _ (hx1.below ((Below.refl _ _).drew))).mono ?_; rintro e w2 ⟨rfl, hw2⟩)
        | fail)
    go_wp2_with fail
    go_meet
    exact ⟨rfl, (Below.refl _ _).drew.trans hw2⟩
  case rest =>
    obtain ⟨rfl, hw2⟩ := hcut
    have hC2 := hC.below hw2 hcl
    have hB2 := hB.below hw2 hpl
    have hx2 := hx1.below hw2
    have hcl2 := hC2.lt
    have hpl2 := hB2.lt
    clear c0 c1 c2 c3 c4 b0 b1 b2 b3 hC hB hx1
    obtain ⟨c0, c1, c2, c3, c4⟩ := cells5 hC2
    obtain ⟨b0, b1, b2, b3⟩ := cells4 hB2
    have i1 : ¬ (P : Int) < (10 : Int) + (lo : Int) := by omega
    have i2 : IntKind.i64.wrap (IntKind.i64.wrap (IntKind.i64.wrap 8 + 2) + (lo : Int)) = (10 : Int) + (lo : Int) := by rw [IntKind.wrap_i64, IntKind.wrap_i64, IntKind.wrap_i64]; omega
    go_upto_region 3 with (fail)
    go_region
    go_upto_region 4 with (fail)
    go_region
    go_upto_region 6 with (fail)
    go_region_held3 (fun w' => w'.cell? ⟨w.heap.size, 0, none⟩ = some (.slice A key.length ca) ∧ w'.cell? ⟨w.heap.size, 1, none⟩ = some (.int .i64 ck) ∧ w'.cell? ⟨w.heap.size, 2, none⟩ = some (.slice B val.length cb) ∧ w'.cell? ⟨w.heap.size, 3, none⟩ = some (.int .i64 pg) ∧ w'.cell? ⟨w.heap.size, 4, none⟩ = some (.int .i64 ct) ∧ w'.cell? ⟨p, 1, none⟩ = some (.int .i64 (P : Int)) ∧ w'.cell? ⟨p, 2, none⟩ = some (.int .i64 8))
      (first
        | exact ⟨c0, c1, c2, c3, c4, b1, b2⟩
        | (obtain ⟨d0, d1, d2, d3, d4⟩ := cells5 (OBlk.below (w := wc.drew.drew.drew) hC2 hw3 hcl2); obtain ⟨_, f1, f2, _⟩ := cells4 (OBlk.below (w := wc.drew.drew.drew) hB2 hw3 hpl2); exact ⟨d0, d1, d2, d3, d4, f1, f2⟩))
      (first
        | (go_at_call 53; refine (HL.out _ (hx2.below (((Below.refl _ _).drew.drew).drew))).mono ?_; rintro e w3 ⟨rfl, hw3⟩)
        | fail)
    go_wp2_with fail
    go_ret
    exact ⟨rfl, (hA.trans (hw2.mono hA.size)).trans ((((Below.refl wc.heap.size wc).drew.drew).drew.trans hw3).mono (by have := hA.size; have := hw2.size; omega))⟩
/-- The one way of slices.Insert that is needed: behind the end. -/
theorem cs_elem : Try.prog.underlying 25 = some (.slice (Try.prog.elem 25)) := by kernel_rfl
set_option maxRecDepth 100000 in
set_option maxHeartbeats 4000000 in
theorem InsertS_nil (w : World) (y : CV) (b1 b2 : Nat) (hk : OwB w b1 y.kv y.c.key) (hv : OwB w b2 y.vv y.c.val) :
    Calls Try.prog 70 #[.slice none 0 0, .int .i64 0, .slice (some ⟨w.heap.size, 0, none⟩) 1 1] (w.alloc (.cells #[y.kv, .int .i64 y.c.kind, y.vv, .int .i64 y.c.page, .int .i64 y.c.count] 32)) fun e w' =>
      ∃ v, e = .returned v ∧ Own w' w.heap.size 32 5 v 1 y.cells ∧ Below w.heap.size w w' := by
  obtain ⟨i0, hi, hz0, hz1, hz2⟩ := info_parts cell_info
  have hsrc := Rd.five w y.kv (.int .i64 y.c.kind) y.vv (.int .i64 y.c.page) (.int .i64 y.c.count) 32
  have hone := cells_one hk hv
  have hA : Below w.heap.size w (w.alloc (.cells #[y.kv, .int .i64 y.c.kind, y.vv, .int .i64 y.c.page, .int .i64 y.c.count] 32)) := (Below.refl _ _).alloc (Nat.le_refl _) _
  go_enter Try.func70, Try.ntmps70
  go_wp2_with (first
    | (at_builtin; refine wp_append rfl (.tmp 23) (.tmp 24) _ _ rfl w.heap.size 32 i0 _ 5 72 Try.underlying25 hi hz0 hz1 hz2 rfl _ 0 [] rfl (Own.nil _ _ _ _) (.slice (some ⟨w.heap.size, 0, none⟩) 1 1) 1 _ rfl (Rd.src _ Try.underlying25 (by omega) hsrc hone) (by omega) (by omega) (by simp) ?_; intro v' w' ho' hg' hk'; obtain ⟨B', c', rfl⟩ := Own.slice ho')
    | fail)
  go_ret
  exact ⟨_, rfl, by simpa [CV.cells] using ho', hA.grown hg' (by simp) (fun k hk => by cases hk)⟩
end Go.Proofs.Ytonbcipofakpjaa

-- plain.Insert into a page that is empty, or beyond its end: the walk.
namespace Go.Proofs.Ytonbcipofakpjaa
open Go.RowKit
set_option maxRecDepth 100000 in
set_option maxHeartbeats 4000000 in
theorem Insert_far {w : World} {p : Nat} {kind : Int} {P : Nat} {used : Int} {v : Value} {l : List CV} (h : PgAt w p kind P used v l) (x : CV) (hx : x.ok w) (i : Int) (hi : (l.length : Int) < i) :
    Calls Try.prog 40 #[.pointer (some ⟨p, 0, none⟩), .int .i64 i, cellV x] w fun e w' => e = .returned (.int .i64 64) ∧ Below w.heap.size w w' := by
  obtain ⟨A, ca, B, cb, key, ck, val, pg, ct, rfl, hk1, hk2⟩ := CV.form hx
  obtain ⟨L, lc, rfl, hm, hc⟩ := h.rd.slice
  have hA : Below w.heap.size w (w.alloc (.cells #[.slice A key.length ca, .int .i64 ck, .slice B val.length cb, .int .i64 pg, .int .i64 ct] 32)) := (Below.refl _ _).alloc (Nat.le_refl _) _
  have hB := h.blk.alloc (.cells #[.slice A key.length ca, .int .i64 ck, .slice B val.length cb, .int .i64 pg, .int .i64 ct] 32)
  obtain ⟨b0, b1, b2, b3⟩ := cells4 hB
  have hpl := h.blk.lt
  have i1 : ¬ i < 0 := by omega
  unfold cellV
  go_enter Try.func40, Try.ntmps40
  go_wp2_with fail
  go_ret
  exact ⟨rfl, hA⟩
set_option maxRecDepth 100000 in
set_option maxHeartbeats 4000000 in
theorem Insert_first {w : World} {p : Nat} {kind : Int} {P : Nat} (h : PgAt w p kind P 8 (.slice none 0 0) []) (hP : P ≤ 65536) (x : CV) (hx : x.ok w) (hxp : ∀ w', Below p w w' → x.ok w') (hm : mayP kind P x.c = true) (hf : 10 + longF x.c ≤ P) :
    Calls Try.prog 40 #[.pointer (some ⟨p, 0, none⟩), .int .i64 0, cellV x] w fun e w' => e = .returned (.int .i64 0) ∧ (∃ (v : Value) (y : CV), y.c = x.c ∧ PgAt w' p kind P ((10 + longF x.c : Nat) : Int) v [y]) ∧ Below p w w' := by
  have hok := may_ok hm
  have hkv := okc_fit hok hP
  have hrf := fun W (hW : Below w.heap.size w W) => refused_nil (h.below hW) hP x (hx.below hW) hm hf
  obtain ⟨A, ca, B, cb, key, ck, val, pg, ct, rfl, hk1, hk2⟩ := CV.form hx
  have hA : Below w.heap.size w (w.alloc (.cells #[.slice A key.length ca, .int .i64 ck, .slice B val.length cb, .int .i64 pg, .int .i64 ct] 32)) := (Below.refl _ _).alloc (Nat.le_refl _) _
  have hC := OBlk.new' w 32 [.slice A key.length ca, .int .i64 ck, .slice B val.length cb, .int .i64 pg, .int .i64 ct]
  have hB := h.blk.alloc (.cells #[.slice A key.length ca, .int .i64 ck, .slice B val.length cb, .int .i64 pg, .int .i64 ct] 32)
  have hx1 := hx.below hA
  have hpw : p < w.heap.size := h.blk.lt
  have hkv' : key.length + val.length ≤ 131072 := hkv
  have hr := ((OwCs.rng (OwCs.nil w 0)) : _)
  have hlo : ∀ W, CV.ok W ⟨.slice A key.length ca, .slice B val.length cb, ⟨key, ck, val, pg, ct⟩⟩ → Calls Try.prog 53 #[.agg #[.slice A key.length ca, .int .i64 ck, .slice B val.length cb, .int .i64 pg, .int .i64 ct]] W fun e w' => e = .returned (.int .i64 (longF ⟨key, ck, val, pg, ct⟩ : Nat)) ∧ Below W.heap.size W w' := fun W hW => long_any ⟨.slice A key.length ca, .slice B val.length cb, ⟨key, ck, val, pg, ct⟩⟩ W hW (show key.length + val.length ≤ 9223372036854775000 by omega)
  have how : ∀ W, CV.ok W ⟨.slice A key.length ca, .slice B val.length cb, ⟨key, ck, val, pg, ct⟩⟩ → Calls Try.prog 71 #[.agg #[.slice A key.length ca, .int .i64 ck, .slice B val.length cb, .int .i64 pg, .int .i64 ct]] W fun e w' => ∃ (K2 V2 : Option Addr) (kc vc : Nat), e = .returned (.agg #[.slice K2 key.length kc, .int .i64 ck, .slice V2 val.length vc, .int .i64 pg, .int .i64 ct]) ∧ OwB w' W.heap.size (.slice K2 key.length kc) key ∧ OwB w' W.heap.size (.slice V2 val.length vc) val ∧ Below W.heap.size W w' := fun W hW => by
    refine (own_any ⟨.slice A key.length ca, .slice B val.length cb, ⟨key, ck, val, pg, ct⟩⟩ W hW (show key.length ≤ _ by omega) (show val.length ≤ _ by omega)).mono fun e w' hh => ?_
    obtain ⟨⟨kv, vv, c⟩, rfl, rfl, hk, hv, _, hb⟩ := hh
    simp only at hk hv
    obtain ⟨K2, kc, rfl⟩ := Own.slice hk
    obtain ⟨V2, vc, rfl⟩ := Own.slice hv
    exact ⟨K2, V2, kc, vc, rfl, hk, hv, hb⟩
  have hf' : 10 + longF ⟨key, ck, val, pg, ct⟩ ≤ P := hf
  have hins := fun (W : World) (K2 V2 : Option Addr) (kc vc : Nat) (b1 b2 : Nat) hk hv => InsertS_nil W ⟨.slice K2 key.length kc, .slice V2 val.length vc, ⟨key, ck, val, pg, ct⟩⟩ b1 b2 hk hv
  simp only [CV.cells] at hins
  unfold cellV at hrf ⊢
  have HL := Lib.hid hlo
  have HO := Lib.hid how
  have HI := Lib.hid hins
  have HX := Lib.hid hx
  have HXP := Lib.hid hxp
  have HE : Hid (longF (⟨.slice A key.length ca, .slice B val.length cb, ⟨key, ck, val, pg, ct⟩⟩ : CV).c = longF ⟨key, ck, val, pg, ct⟩) := Lib.hid rfl
  have hrf1 := hrf _ hA
  clear hlo how hins hx hxp hm hok hkv hf hrf hr
  generalize longF ⟨key, ck, val, pg, ct⟩ = lo at *
  go_enter Try.func40, Try.ntmps40
  obtain ⟨b0, b1, b2, b3⟩ := cells4 hB
  go_wp2_with fail
  refine hrf1.mono ?_
  rintro e w1 ⟨rfl, hw1⟩
  have hC1 := hC.below hw1 hC.lt
  have hB1 := hB.below hw1 hB.lt
  have hx2 := hx1.below hw1
  have hA1 := hA.trans (hw1.mono hA.size)
  have hz := hC1.lt
  clear hrf1 b0 b1 b2 b3 hC hB hx1 hw1 hA
  obtain ⟨b0, b1, b2, b3⟩ := cells4 hB1
  obtain ⟨c0, c1, c2, c3, c4⟩ := cells5 hC1
  have f2 := hB1.frozen (j := 2) (by simp)
  have hpz := hB1.lt
  have i2 : IntKind.i64.wrap ((8 : Int) + ((2 : Int) + (lo : Int))) = (8 : Int) + ((2 : Int) + (lo : Int)) := by rw [IntKind.wrap_i64]; omega
  have i3 : IntKind.i64.wrap ((2 : Int) + (lo : Int)) = (2 : Int) + (lo : Int) := by rw [IntKind.wrap_i64]; omega
  go_upto_region 6 with (fail)
  go_cut [] (fun wx => OBlk wx p 89 [.int .i64 kind, .int .i64 (P : Int), .int .i64 ((10 + lo : Nat) : Int), .slice none 0 0] ∧ OBlk wx w.heap.size 32 [.slice A key.length ca, .int .i64 ck, .slice B val.length cb, .int .i64 pg, .int .i64 ct] ∧ Below p w wx)
  case first =>
    go_region_law
      (first
        | (go_simp; go_at_call 53; refine (HL.out _ (hx2.below ((Below.refl _ _).drew))).mono ?_; rintro e w3 ⟨rfl, hw3⟩; have hB3 := hB1.drew.below hw3 hpz; have hC3 := hC1.drew.below hw3 hz; obtain ⟨d0, d1, d2, d3⟩ := cells4 hB3; have g2 := hB3.frozen (j := 2) (by simp))
        | fail)
    all_goals
      go_wp2_with fail
      go_meet
      have hB4 := hB3.set 2 (.int .i64 (8 + (2 + (lo : Int))))
      simp only [List.set_cons_succ, List.set_cons_zero] at hB4
      rw [show ((10 + lo : Nat) : Int) = 8 + (2 + (lo : Int)) by omega]
      exact ⟨hB4, hC3.far (p := ⟨p, 2, none⟩) (show w.heap.size ≠ p by omega) _, (((hA1.mono (B' := p) (by omega)).trans (((Below.refl w1.heap.size w1).drew.trans hw3).mono (B' := p) (by omega))).setCell (p := ⟨p, 2, none⟩) (Nat.le_refl _) _)⟩
  case rest =>
    obtain ⟨hB5, hC5, hb5⟩ := hcut
    clear b0 b1 b2 b3 c0 c1 c2 c3 c4 f2 hB1 hC1
    obtain ⟨b0, b1, b2, b3⟩ := cells4 hB5
    obtain ⟨c0, c1, c2, c3, c4⟩ := cells5 hC5
    have hpz5 := hB5.lt
    have hcz5 := hC5.lt
    have f3 := hB5.frozen (j := 3) (by simp)
    go_upto_region 7 with (fail)
    have hx5 := HXP.out _ (hb5.drew)
    go_region_law
      (first
        | (go_simp; go_at_call 71; refine (HO.out _ hx5).mono ?_; rintro e w6 ⟨K2, V2, kc, vc, rfl, hk6, hv6, hw6⟩; have hB6 := hB5.drew.below hw6 hpz5; obtain ⟨d0, d1, d2, d3⟩ := cells4 (hB6.alloc (.cells #[.slice K2 key.length kc, .int .i64 ck, .slice V2 val.length vc, .int .i64 pg, .int .i64 ct] 32)); obtain ⟨e0, e1, e2, e3⟩ := cells4 hB6)
        | (go_simp; go_at_call 70; refine (HI.out w6 K2 V2 kc vc _ _ hk6 hv6).mono ?_; rintro e w7 ⟨v7, rfl, hown7, hw7⟩; obtain ⟨B7, c7, rfl⟩ := Own.slice hown7; have hB7 := hB6.below hw7 hB6.lt; obtain ⟨x0, x1, x2, x3⟩ := cells4 hB7; have g3 := hB7.frozen (j := 3) (by simp))
        | fail)
    all_goals
      have hw5z : wc.heap.size ≤ w6.heap.size := hw6.size
      have hB8 := hB7.set 3 (.slice B7 1 c7)
      simp only [List.set_cons_succ, List.set_cons_zero] at hB8
      have hheap : ∀ k, p < k → (w7.setCell ⟨p, 3, none⟩ (.slice B7 1 c7)).heap[k]? = w7.heap[k]? := fun k hk => Below.heap_setCell _ _ _ _ (show k ≠ p by omega)
      have hown8 := Own.heap hown7 fun k hk => hheap k (by have := (Own.lt hown7 k hk).1; omega)
      have hk8 := Own.heap (Own.below' hk6 hw7 (Nat.le_refl _)) fun k hk => hheap k (by have := (Own.lt hk6 k hk).1; have : wc.heap.size ≤ k := this; omega)
      have hv8 := Own.heap (Own.below' hv6 hw7 (Nat.le_refl _)) fun k hk => hheap k (by have := (Own.lt hv6 k hk).1; have : wc.heap.size ≤ k := this; omega)
      have hb8 : Below p w (w7.setCell ⟨p, 3, none⟩ (.slice B7 1 c7)) := ((hb5.drew.trans (hw6.mono (B' := p) (show p ≤ wc.heap.size by omega))).trans (hw7.mono (B' := p) (by omega))).setCell (p := ⟨p, 3, none⟩) (Nat.le_refl _) _
      have HB8 := Lib.hid hB8
      have HO8 := Lib.hid hown8
      have HK8 := Lib.hid hk8
      have HV8 := Lib.hid hv8
      clear hB8 hown8 hk8 hv8 hheap
      go_wp2_with fail
      go_ret
      refine ⟨rfl, ⟨_, ⟨.slice K2 key.length kc, .slice V2 val.length vc, ⟨key, ck, val, pg, ct⟩⟩, rfl, HB8.out, ⟨?_, ?_⟩⟩, hb8⟩
      · exact HO8.out.rd
      · intro y hy
        rw [List.mem_singleton] at hy
        subst hy
        exact { k := OwB.rd HK8.out, v := OwB.rd HV8.out, r1 := HX.out.r1, r2 := HX.out.r2, r3 := HX.out.r3 }
end Go.Proofs.Ytonbcipofakpjaa

-- Bytes made of a constant.
namespace Go.Proofs.Ytonbcipofakpjaa
open Go.RowKit
theorem conv_id (w : World) (C : Array Value) (n c g : Nat) (hg : g = w.heap.size) : (convert 27 27 (.slice (some ⟨g, 0, none⟩) n c)).run Try.prog (w.alloc (.cells C 5)) = .ok (.slice (some ⟨g, 0, none⟩) n c) (w.alloc (.cells C 5 (C.size, C.size + 1))) := by
  subst hg; exact Lib.run_convert_bytes_const w _ _ C n c Try.underlying27 Try.underlying5
theorem RdB.litm (w : World) (l : List UInt8) (cells : Array Value) (T : TypeId) (fr : Nat × Nat) (n : Nat) (h : cells = (bvs l).toArray) (hn : l.length = n) (hm : n ≤ maxLen) : RdB (w.alloc (.cells cells T fr)) (.slice (some ⟨w.heap.size, 0, none⟩) n n) l := by
  subst h; subst hn
  refine ⟨_, _, rfl, Nat.le_refl _, hm, fun j hj => ⟨_, rfl, ?_⟩⟩
  rw [add_row, Nat.zero_add, World.cell?_alloc_mark]
  have := bvs_get' l j hj
  simpa using this
end Go.Proofs.Ytonbcipofakpjaa

-- espalierlaw06.awake: the walk.
namespace Go.Proofs.Ytonbcipofakpjaa
open Go.RowKit
def c0 : PC := ⟨[97], 1, [120, 121], 0, 0⟩
theorem c0_may : mayP 2 512 c0 = true := by decide
theorem c0_long : longF c0 = 8 := by decide
theorem c0_size : sizeF [c0] = 18 := by decide
theorem c0_enc : encE 2 [c0] 512 = 0 := by decide
theorem c0_len : (laidF 2 [c0] 512).length = 512 := laidF_length (by rw [c0_size]; omega)
theorem c0_pre : (preF 2 [c0] 512).length = 508 := preF_length (by rw [c0_size]; omega)
theorem c0_take6 : (laidF 2 [c0] 512).take 6 = [2, 1, 0, 1, 1, 244] := by
  unfold laidF
  rw [List.take_append_of_le_length (by rw [c0_pre]; omega)]
  decide +kernel
theorem c0_take8 : ((laidF 2 [c0] 512).take 508).drop 500 = [1, 0, 1, 97, 0, 2, 120, 121] := by
  unfold laidF
  rw [List.take_append_of_le_length (by rw [c0_pre]; omega)]
  decide +kernel
theorem c0_pln : isPln (laidF 2 [c0] 512) 2 [c0] := by
  have h := c0_len
  refine ⟨by rw [h]; decide, by decide, by rw [h]; exact c0_enc, by rw [h]⟩
theorem c0_only {kind : Int} {l : List PC} (h : isPln (laidF 2 [c0] 512) kind l) : kind = 2 ∧ l = [c0] := by
  have h1 := isPln_parse h
  have h2 := isPln_parse c0_pln
  rw [h2.1] at h1
  exact ⟨h1.2.symm.trans h2.2, (Option.some.inj h1.1).symm⟩
theorem c0_find : findF [97] [c0] = 0 ∧ isF [97] [c0] = true := ⟨by decide, by
  exact decide_eq_true ⟨c0, rfl, rfl⟩⟩
theorem one_rd (W : World) (x : CV) (h : x.ok W) : RdCs (W.alloc (.cells #[x.kv, .int .i64 x.c.kind, x.vv, .int .i64 x.c.page, .int .i64 x.c.count] 32)) (.slice (some ⟨W.heap.size, 0, none⟩) 1 1) [x] := by
  refine ⟨?_, fun y hy => ?_⟩
  · have := Rd.five W x.kv (.int .i64 x.c.kind) x.vv (.int .i64 x.c.page) (.int .i64 x.c.count) 32
    simpa [flatC, CV.cells] using this
  · rw [List.mem_singleton] at hy
    subst hy
    exact h.below ((Below.refl _ _).alloc (Nat.le_refl _) _)
theorem Enc0 (W : World) (v : Value) (x : CV) (hx : x.c = c0) (h : RdCs W v [x]) : Calls Try.prog 15 #[.int .i64 2, v, .int .i64 512] W fun e w' => ∃ g, e = .returned (.tuple #[.slice (some ⟨g, 0, none⟩) 512 512, .int .i64 0]) ∧ W.heap.size ≤ g ∧ OBlk w' g 5 (bvs (laidF 2 [c0] 512)) ∧ Below W.heap.size W w' := by
  refine (PEncode_any 2 v [x] 512 (by unfold i64r; omega) W h (by simp)).mono fun e w' hh => ?_
  obtain ⟨hb, ⟨hf, _⟩ | ⟨_, ⟨hne, _⟩ | ⟨_, g, he, hg, ho⟩⟩⟩ := hh
  · exact absurd hf (by decide)
  · refine absurd ?_ hne
    have : pcs [x] = [c0] := by simp [pcs, hx]
    rw [this]; exact c0_enc
  · have : pcs [x] = [c0] := by simp [pcs, hx]
    rw [this] at ho
    exact ⟨g, he, hg, ho, hb⟩
theorem Dec0 (W : World) (v : Value) (h : RdB W v (laidF 2 [c0] 512)) : Calls Try.prog 20 #[v] W fun e w' => ∃ A c, e = .returned (.tuple #[.int .i64 2, .slice A 1 c, .int .i64 0]) ∧ Below W.heap.size W w' := by
  refine (PDecode_any v _ W h).mono fun e w' hh => ?_
  obtain ⟨hb, ⟨kind, l, u, hp, he, ho⟩ | ⟨hn, _⟩⟩ := hh
  · obtain ⟨rfl, hl⟩ := c0_only hp
    have hl1 : l.length = 1 := by rw [← pcs_length, hl]; rfl
    obtain ⟨A, c, rfl⟩ := Own.slice ho.own
    rw [hl1] at he
    exact ⟨A, c, he, hb⟩
  · exact absurd c0_pln (hn _ _)
theorem Size0 (W : World) (v : Value) (x : CV) (hx : x.c = c0) (h : RdCs W v [x]) : Calls Try.prog 16 #[.int .i64 2, v] W fun e w' => e = .returned (.int .i64 18) ∧ Below W.heap.size W w' := by
  have hp : pcs [x] = [c0] := by simp [pcs, hx]
  have := Size_any 2 v [x] W h (by rw [hp]; refine ⟨by rw [c0_size]; omega, fun c hc => ?_⟩; rw [List.mem_singleton] at hc; subst hc; decide)
  rw [hp, c0_size] at this
  exact this
theorem Find0 {w : World} {p : Nat} {kind : Int} {P : Nat} {used : Int} {v : Value} {y : CV} (h : PgAt w p kind P used v [y]) (hy : y.c = c0) (vk : Value) (hk : RdB w vk [97]) :
    Calls Try.prog 25 #[.pointer (some ⟨p, 0, none⟩), vk] w fun e w' => e = .returned (.tuple #[.int .i64 0, .bool true]) ∧ Below w.heap.size w w' := by
  have := PFind_any h vk [97] hk
  rw [show pcs [y] = [c0] by simp [pcs, hy], c0_find.1, c0_find.2] at this
  exact this
set_option maxRecDepth 100000 in
set_option maxHeartbeats 8000000 in
theorem awake_any (w : World) : Calls Try.prog 10 #[] w fun e w' => e = .returned (.bool true) ∧ Below w.heap.size w w' := by
  have kc := fun (w : World) (C : Array Value) (n c g : Nat) (hg : g = w.heap.size) => conv_id w C n c g hg
  go_enter Try.func10, Try.ntmps10
  go_wp2_with fail
  have hK := RdB.litm w [97] #[.int .u8 97] 5 (1, 2) 1 rfl rfl (by decide)
  have hV := RdB.litm (w.alloc (.cells #[.int .u8 97] 5 (1, 2))) [120, 121] #[.int .u8 120, .int .u8 121] 5 (2, 3) 2 rfl rfl (by decide)
  have hK3 := (hK.alloc (.cells #[.int .u8 120, .int .u8 121] 5 (2, 3))).alloc (.cells #[.slice (some ⟨w.heap.size, 0, none⟩) 1 1, .int .i64 1, .slice (some ⟨w.heap.size + 1, 0, none⟩) 2 2, .int .i64 0, .int .i64 0] 32)
  have hV3 := hV.alloc (.cells #[.slice (some ⟨w.heap.size, 0, none⟩) 1 1, .int .i64 1, .slice (some ⟨w.heap.size + 1, 0, none⟩) 2 2, .int .i64 0, .int .i64 0] 32)
  have hC3 := OBlk.new' ((w.alloc (.cells #[.int .u8 97] 5 (1, 2))).alloc (.cells #[.int .u8 120, .int .u8 121] 5 (2, 3))) 32 [.slice (some ⟨w.heap.size, 0, none⟩) 1 1, .int .i64 1, .slice (some ⟨w.heap.size + 1, 0, none⟩) 2 2, .int .i64 0, .int .i64 0]
  have hA3 := (((Below.refl w.heap.size w).alloc (Nat.le_refl _) (.cells #[.int .u8 97] 5 (1, 2))).alloc (by simp) (.cells #[.int .u8 120, .int .u8 121] 5 (2, 3))).alloc (by simp; omega) (.cells #[.slice (some ⟨w.heap.size, 0, none⟩) 1 1, .int .i64 1, .slice (some ⟨w.heap.size + 1, 0, none⟩) 2 2, .int .i64 0, .int .i64 0] 32)
  have hz3 : (((w.alloc (.cells #[.int .u8 97] 5 (1, 2))).alloc (.cells #[.int .u8 120, .int .u8 121] 5 (2, 3))).alloc (.cells #[.slice (some ⟨w.heap.size, 0, none⟩) 1 1, .int .i64 1, .slice (some ⟨w.heap.size + 1, 0, none⟩) 2 2, .int .i64 0, .int .i64 0] 32)).heap.size = w.heap.size + 1 + 1 + 1 := by simp
  simp only [World.size_alloc] at hV3 hC3
  rw [← hz3]
  generalize ((w.alloc (.cells #[.int .u8 97] 5 (1, 2))).alloc (.cells #[.int .u8 120, .int .u8 121] 5 (2, 3))).alloc (.cells #[.slice (some ⟨w.heap.size, 0, none⟩) 1 1, .int .i64 1, .slice (some ⟨w.heap.size + 1, 0, none⟩) 2 2, .int .i64 0, .int .i64 0] 32) = w3 at *
  clear hK hV
  have hx : CV.ok w3 ⟨.slice (some ⟨w.heap.size, 0, none⟩) 1 1, .slice (some ⟨w.heap.size + 1, 0, none⟩) 2 2, c0⟩ := { k := hK3, v := hV3, r1 := show i64r 1 by unfold i64r; omega, r2 := show i64r 0 by unfold i64r; omega, r3 := show i64r 0 by unfold i64r; omega }
  have hrd := one_rd w3 _ hx
  have HZ := Lib.hid hz3
  have hzl : w.heap.size + 2 < w3.heap.size := by omega
  clear hz3 hK3 hV3
  refine (Enc0 _ _ _ rfl hrd).mono ?_
  rintro e w4 ⟨g, rfl, hg, hbk, hw4⟩
  simp only [World.size_alloc] at hw4 hg
  have hb4 : Below w3.heap.size w3 w4 := ((Below.refl w3.heap.size w3).alloc (Nat.le_refl _) _).trans (hw4.mono (by omega))
  have hx4 := hx.below hb4
  have hC4 := hC3.below hb4 hC3.lt
  have hA4 := hA3.trans (hb4.mono (by omega))
  have hrd4 := one_rd w4 _ hx4
  clear hrd hw4 hC3 hA3
  obtain ⟨c0', c1', c2', c3', c4'⟩ := cells5 hC4
  go_wp2_with fail
  refine (Size0 _ _ _ rfl hrd4).mono ?_
  rintro e w5 ⟨rfl, hw5⟩
  simp only [World.size_alloc] at hw5
  have hb5 : Below w4.heap.size w4 w5 := ((Below.refl w4.heap.size w4).alloc (Nat.le_refl _) _).trans (hw5.mono (by omega))
  have hbk5 := hbk.below hb5 hbk.lt
  have hC5 := hC4.below hb5 hC4.lt
  have hx5 := hx4.below hb5
  have hA5 := hA4.trans (hb5.mono hA4.size)
  have hgl := hbk.lt
  have hcl := hC4.lt
  have hs5 := hb5.size
  have hdec := fun W v h => Dec0 W v h
  have H6 := Lib.hid c0_take6
  have H8 := Lib.hid c0_take8
  have HLN := Lib.hid c0_len
  clear hrd4 hw5 hbk hC4 hx4 hA4 hb4 hx hb5 c0' c1' c2' c3' c4'
  generalize laidF 2 [c0] 512 = b at *
  have hbr5 := hbk5.rdB HLN.out (by omega)
  go_wp2_with fail
  refine (hdec _ _ hbr5).mono ?_
  rintro e w6 ⟨DA, dc, rfl, hw6⟩
  have hbk6 := hbk5.below hw6 hbk5.lt
  have hC6 := hC5.below hw6 hC5.lt
  have hx6 := hx5.below hw6
  have hA6 := hA5.trans (hw6.mono hA5.size)
  have hs6 := hw6.size
  clear hdec hbr5 hbk5 hC5 hx5 hA5 hw6
  go_wp2_with fail
  refine (PNew_ok 2 512 rfl (by decide) _).mono ?_
  rintro e w7 ⟨p, rfl, hp, hP7, hw7⟩
  have hxp : ∀ w', Below p w7 w' → CV.ok w' ⟨.slice (some ⟨w.heap.size, 0, none⟩) 1 1, .slice (some ⟨w.heap.size + 1, 0, none⟩) 2 2, c0⟩ := fun w' hb => hx6.below (hw7.trans (hb.mono hp))
  have hbk7 := hbk6.below hw7 hbk6.lt
  have hC7 := hC6.below hw7 hC6.lt
  have hx7 := hx6.below hw7
  have hA7 := hA6.trans (hw7.mono hA6.size)
  have hs7 := hw7.size
  have HXP := Lib.hid hxp
  clear hbk6 hC6 hA6 hxp
  go_wp2_with fail
  refine (PNew_bad 1 512 rfl _).mono ?_
  rintro e w8 ⟨rfl, rfl⟩
  obtain ⟨c0', c1', c2', c3', c4'⟩ := cells5 hC7
  have hins := Insert_first hP7 (by omega) _ hx7 HXP.out c0_may (by rw [c0_long]; omega)
  unfold cellV at hins
  go_wp2_with fail
  refine hins.mono ?_
  rintro e w9 ⟨rfl, ⟨v9, y9, hy9, hP9⟩, hw9⟩
  have hbk9 := hbk7.below hw9 (by omega)
  have hC9 := hC7.below hw9 (by omega)
  have hx9 := HXP.out _ hw9
  have hA9 := hA7.trans (hw9.mono (by have := hA7.size; omega))
  have hs9 := hw9.size
  clear hins hP7 hbk7 hC7 hx7 hA7 hx6 c0' c1' c2' c3' c4'
  obtain ⟨c0', c1', c2', c3', c4'⟩ := cells5 hC9
  have hkr := RdB.litm w9 [97] #[.int .u8 97] 5 (1, 2) 1 rfl rfl (by decide)
  have hfi := Find0 (hP9.below ((Below.refl w9.heap.size w9).alloc (Nat.le_refl _) (.cells #[.int .u8 97] 5 (1, 2)))) hy9 _ hkr
  have HY := Lib.hid hy9
  clear hy9
  go_wp2_with fail
  refine hfi.mono ?_
  rintro e w10 ⟨rfl, hw10⟩
  simp only [World.size_alloc] at hw10
  have hb10 : Below w9.heap.size w9 w10 := ((Below.refl w9.heap.size w9).alloc (Nat.le_refl _) _).trans (hw10.mono (by omega))
  have hbk10 := hbk9.below hb10 hbk9.lt
  have hC10 := hC9.below hb10 hC9.lt
  have hx10 := hx9.below hb10
  have hP10 := hP9.below hb10
  have hA10 := hA9.trans (hb10.mono hA9.size)
  have hs10 := hb10.size
  have hif := Insert_far hP10 _ hx10 2 (by simp)
  unfold cellV at hif
  clear hfi hkr hbk9 hC9 hx9 hP9 hA9 hw10 hb10 c0' c1' c2' c3' c4'
  obtain ⟨c0', c1', c2', c3', c4'⟩ := cells5 hC10
  go_wp2_with fail
  refine hif.mono ?_
  rintro e w11 ⟨rfl, hw11⟩
  have hbk11 := hbk10.below hw11 hbk10.lt
  have hP11 := hP10.below hw11
  have hA11 := hA10.trans (hw11.mono hA10.size)
  have hr := hbk11.rdB HLN.out (by omega)
  have r6 := RdB.slice0 (n := 6) hbk11 (by rw [HLN.out]; omega) HLN.out (by omega)
  have r8 : RdB w11 (.slice (some ⟨g, 500, none⟩) 8 12) ((b.take 508).drop 500) := by
    have h := hr.cut (lo := 500) (hi := 508) (by omega) (by rw [HLN.out]; omega)
    rw [if_neg (by omega)] at h
    have e : Option.map (fun x => Addr.add x 500) (some (⟨g, 0, none⟩ : Addr)) = some ⟨g, 500, none⟩ := by rw [Option.map_some, add_row]
    rw [e] at h
    exact h
  rw [H6.out] at r6
  rw [H8.out] at r8
  have s6 := run_B_string r6
  have s8 := run_B_string r8
  have hln := PLen_any hP11
  have hus := PUsed_any hP11
  clear hif hbk10 hC10 hx10 hP10 hA10 c0' c1' c2' c3' c4' hr r6 r8 kc
  go_wp2_with (first
    | (go_at_call 23; refine hln.mono ?_; rintro e w12 ⟨rfl, rfl⟩)
    | (go_at_call 24; refine hus.mono ?_; rintro e w12 ⟨rfl, rfl⟩)
    | fail)
  go_ret
  exact ⟨by rw [c0_long]; rfl, hA11⟩
end Go.Proofs.Ytonbcipofakpjaa

-- espalierlaw06.PlainTotal: the walk.
namespace Go.Proofs.Ytonbcipofakpjaa
open Go.RowKit
theorem ordC_trans : ∀ (a b c : List UInt8), ordC a b < 0 → ordC b c < 0 → ordC a c < 0
  | [], [], _, h, _ => by simp [ordC] at h
  | _ :: _, [], _, h, _ => by simp [ordC] at h
  | [], _ :: _, [], _, h => by simp [ordC] at h
  | [], _ :: _, _ :: _, _, _ => by simp [ordC]
  | _ :: _, _ :: _, [], _, h => by simp [ordC] at h
  | x :: a, y :: b, z :: c, h1, h2 => by
    unfold ordC at h1 h2 ⊢
    simp only [UInt8.lt_iff_toNat_lt] at h1 h2 ⊢
    split at h1
    · split at h2
      · rw [if_pos (by omega)]; omega
      · split at h2
        · omega
        · rw [if_pos (by omega)]; omega
    · split at h1
      · omega
      · split at h2
        · rw [if_pos (by omega)]; omega
        · split at h2
          · omega
          · rw [if_neg (by omega), if_neg (by omega)]
            exact ordC_trans a b c h1 h2
theorem bytesLess_ord : ∀ (a b : List UInt8), Op.bytesLess a b = decide (ordC a b < 0)
  | [], [] => by simp [Op.bytesLess, ordC]
  | _ :: _, [] => by simp [Op.bytesLess, ordC]
  | [], _ :: _ => by simp [Op.bytesLess, ordC]
  | x :: a, y :: b => by
    rw [Op.bytesLess, bytesLess_ord a b, ordC]
    by_cases h1 : x < y
    · simp [h1]
    · by_cases h2 : y < x
      · have : ¬ x = y := fun e => by subst e; exact h1 h2
        simp [h1, h2, this]
      · have e : x = y := by
          rw [UInt8.lt_iff_toNat_lt] at h1 h2
          exact UInt8.toNat_inj.mp (by omega)
        subst e
        simp [h1]
theorem scan_sorted {kind : Int} {P : Nat} : ∀ {l : List PC} {p : Option (List UInt8)}, scanE kind P p l = 0 → (∀ q, p = some q → ∀ c ∈ l, ordC q c.key < 0) ∧ l.Pairwise (fun a b => ordC a.key b.key < 0)
  | [], _, _ => ⟨fun _ _ c hc => (by cases hc), List.Pairwise.nil⟩
  | c :: r, p, h => by
    rw [scanE] at h
    split at h
    · cases h
    · split at h
      · cases h
      · rename_i ha
        obtain ⟨h1, h2⟩ := scan_sorted (l := r) h
        have hr := h1 c.key rfl
        refine ⟨fun q hq d hd => ?_, List.Pairwise.cons (fun d hd => hr d hd) h2⟩
        subst hq
        have hqc : ordC q c.key < 0 := by simpa [afterP] using ha
        rcases List.mem_cons.1 hd with rfl | hd
        · exact hqc
        · exact ordC_trans _ _ _ hqc (hr d hd)
theorem find_lt {key : List UInt8} : ∀ {l : List PC} {j : Nat} (hj : j < l.length), j < findF key l → ordC l[j].key key < 0
  | [], _, hj, _ => by simp at hj
  | c :: r, 0, _, h => by
    rw [findF] at h
    split at h
    · assumption
    · omega
  | c :: r, j + 1, hj, h => by
    rw [findF] at h
    split at h
    · exact find_lt (l := r) (by simpa using hj) (by omega)
    · omega
theorem find_at {key : List UInt8} : ∀ {l : List PC} (hj : findF key l < l.length), ¬ ordC l[findF key l].key key < 0
  | [], hj => by simp at hj
  | c :: r, hj => by
    by_cases h : ordC c.key key < 0
    · have e : findF key (c :: r) = findF key r + 1 := by rw [findF, if_pos h]
      have hj' : findF key r < r.length := by rw [e] at hj; simpa using hj
      have := find_at hj'
      simp only [e, List.getElem_cons_succ]
      exact this
    · have e : findF key (c :: r) = 0 := by rw [findF, if_neg h]
      simp only [e, List.getElem_cons_zero]
      exact h
theorem find_ge {key : List UInt8} {l : List PC} (hs : l.Pairwise (fun a b => ordC a.key b.key < 0)) {j : Nat} (hj : j < l.length) (h : findF key l ≤ j) : ¬ ordC l[j].key key < 0 := by
  intro hlt
  have h1 := find_at (key := key) (l := l) (by omega)
  rcases Nat.lt_or_ge (findF key l) j with h2 | h2
  · exact h1 (ordC_trans _ _ _ (List.pairwise_iff_getElem.1 hs _ _ (by omega) hj h2) hlt)
  · have e : findF key l = j := by omega
    simp only [e] at h1
    exact h1 hlt
theorem find_self {l : List PC} (hs : l.Pairwise (fun a b => ordC a.key b.key < 0)) {i : Nat} (hi : i < l.length) : findF l[i].key l = i ∧ isF l[i].key l = true := by
  have e : findF l[i].key l = i := by
    rcases Nat.lt_trichotomy (findF l[i].key l) i with h | h | h
    · exact absurd (List.pairwise_iff_getElem.1 hs _ _ (by omega) hi h) (find_at (by omega))
    · exact h
    · have := find_lt hi h
      rw [ordC_self] at this; omega
  refine ⟨e, ?_⟩
  unfold isF
  rw [e]
  exact decide_eq_true ⟨l[i], List.getElem?_eq_getElem hi, rfl⟩
theorem isF_lt {key : List UInt8} {l : List PC} (h : findF key l < l.length) : isF key l = (l[findF key l].key == key) := by
  unfold isF
  rw [Bool.eq_iff_iff, decide_eq_true_iff, beq_iff_eq]
  refine ⟨fun ⟨c, hc, he⟩ => ?_, fun he => ⟨_, List.getElem?_eq_getElem h, he⟩⟩
  rw [List.getElem?_eq_getElem h] at hc
  rw [Option.some.inj hc]; exact he
theorem isF_ge {key : List UInt8} {l : List PC} (h : ¬ findF key l < l.length) : isF key l = false := by
  unfold isF
  refine decide_eq_false fun ⟨c, hc, _⟩ => ?_
  rw [List.getElem?_eq_none (by omega)] at hc
  cases hc
set_option maxRecDepth 100000 in
set_option maxHeartbeats 8000000 in
theorem total_any (vb vk : Value) (b key : List UInt8) (w : World) (hb : RdB w vb b) (hk : RdB w vk key) :
    Calls Try.prog 7 #[vb, vk] w fun e w' => e = .returned (.bool true) ∧ Below w.heap.size w w' := by
  obtain ⟨A, c, rfl, hm⟩ := hb.form
  obtain ⟨K, kc, rfl, hkm⟩ := hk.form
  go_enter Try.func7, Try.ntmps7
  go_wp2_with fail
  refine (awake_any _).mono ?_
  rintro e w1 ⟨rfl, hw1⟩
  have hdec := PDecode_any _ b w1 (hb.below hw1 (Nat.le_refl _))
  go_wp2_with fail
  refine hdec.mono ?_
  rintro e w2 ⟨hw2, ⟨kind, l, v1, hy1, rfl, hO1⟩ | ⟨hno, rfl⟩⟩
  · have hb2 := hw1.trans (hw2.mono hw1.size)
    obtain ⟨C1, cc1, rfl⟩ := Own.slice hO1.own
    have hop := POpen_any _ b w2 (hb.below hb2 (Nat.le_refl _))
    have HY := Lib.hid hy1
    clear hdec hw1 hw2 hy1
    go_wp2_with fail
    refine hop.mono ?_
    rintro e w3 ⟨hw3, ⟨k2, l2, p, u2, hy2, rfl, hp, hPg⟩ | ⟨hno, _⟩⟩
    case inr => exact absurd HY.out (hno _ _)
    have hsame : pcs l2 = pcs l := by
      have h1 := isPln_parse hy2
      have h2 := isPln_parse HY.out
      rw [h2.1] at h1
      exact (Option.some.inj h1.1).symm
    have hb3 := hb2.trans (hw3.mono hb2.size)
    have hO3 := hO1.below hw3
    have hPl := (isPowB_range HY.out.1)
    have hlb : (pcs l).length ≤ b.length := by have := sizeF_eq (pcs l); have := (encE_zero.1 HY.out.2.2.1).2; omega
    have hln : l.length ≤ 2000000000000 := by rw [pcs_length] at hlb; omega
    have hE := PEncode_any kind _ l (b.length : Int) (by unfold i64r; omega) w3 hO3.rd hln
    have hsrt := (scan_sorted (encE_zero.1 HY.out.2.2.1).1).2
    have HS := Lib.hid hsrt
    have HE := Lib.hid hsame
    clear hop hy2 hsame hO1 hsrt
    go_wp2_with fail
    refine hE.mono ?_
    unfold EncAt
    simp only [Int.toNat_natCast]
    rintro e w4 ⟨hw4, ⟨hf, _⟩ | ⟨_, ⟨hne, _⟩ | ⟨_, g, rfl, hg, hbk⟩⟩⟩
    · rw [HY.out.1, HY.out.2.1] at hf; cases hf
    · exact absurd HY.out.2.2.1 hne
    have hb4 := hb3.trans (hw4.mono hb3.size)
    rw [HY.out.2.2.2] at hbk
    have q1 := run_B_string (hbk.rdB rfl (by omega))
    have q2 := run_B_string (hb.below hb4 (Nat.le_refl _))
    have hl4 := hO3.rd.below hw4
    have hPg4 := hPg.below hw4
    have hk4 := hk.below hb4 (Nat.le_refl _)
    have hpd : PgAt w4 p k2 b.length (sizeF (pcs l2) : Nat) u2 l2 := hPg4
    clear hE hbk hO3 hPg hPg4 hb3 hw4 hg
    go_wp2_with fail
    clear q1 q2
    go_loopw [13, 14] (fun n i wr => ∃ k : Nat, k ≤ l.length ∧ i = .int .i64 (k : Int) ∧ n = .int .i64 ((min k (findF key (pcs l)) : Nat) : Int) ∧ Below w4.heap.size w4 wr) (fun _ i _ => l.length - (intOf i).toNat)
    case atStart => exact ⟨0, Nat.zero_le _, rfl, by simp, Below.refl _ _⟩
    case round =>
      obtain ⟨k, hk', rfl, rfl, hB⟩ := hrel
      have hlr := hl4.below hB
      have hpr := hpd.below hB
      have hkr := hk4.below hB (Nat.le_refl _)
      by_cases hlt : k < l.length
      · have ik : (k : Int) < (l.length : Int) := by omega
        have hlp : k < (pcs l).length := by rw [pcs_length]; exact hlt
        have hself := find_self HS.out hlp
        have hcnt : (min (k + 1) (findF key (pcs l)) = if ordC (pcs l)[k].key key < 0 then min k (findF key (pcs l)) + 1 else min k (findF key (pcs l))) := by
          by_cases h : k < findF key (pcs l)
          · rw [if_pos (find_lt hlp h)]; omega
          · rw [if_neg (find_ge HS.out hlp (by omega))]; omega
        have hprev : ∀ kk, k = kk + 1 → ∃ q, (∃ A0 a0, RdB wr (.slice A0 q.length a0) q ∧ ∀ ad, C1 = some ad → wr.cell? (ad.add (kk * 5)) = some (.slice A0 q.length a0)) ∧ ∀ c, (pcs l)[k] = c → ordC q c.key < 0 := fun kk hkk => by
          have hk1 : kk < l.length := by omega
          obtain ⟨ad', ea, d0, _⟩ := hlr.at_ hk1
          have hxp := hlr.ok _ (List.getElem_mem hk1)
          obtain ⟨A0, a0, he, _⟩ := hxp.k.form
          refine ⟨l[kk].c.key, ⟨A0, a0, by rw [← he]; exact hxp.k, fun ad e => ?_⟩, fun c hc => ?_⟩
          · rw [ea] at e
            cases e
            rw [d0, he]
          · have := List.pairwise_iff_getElem.1 HS.out kk k (by rw [pcs_length]; exact hk1) hlp (by omega)
            rw [hc, pcs_at hk1] at this
            exact this
        have hfi := fun (vk' : Value) (W : World) (hW : Below w4.heap.size w4 W) (h' : RdB W vk' (pcs l)[k].key) => PFind_any (hpd.below hW) vk' (pcs l)[k].key h'
        rw [HE.out, hself.1, hself.2] at hfi
        rw [pcs_at hlt] at hcnt hfi
        have hprev' : ∀ kk, k = kk + 1 → ∃ q, (∃ A0 a0, RdB wr (.slice A0 q.length a0) q ∧ ∀ ad, C1 = some ad → wr.cell? (ad.add (kk * 5)) = some (.slice A0 q.length a0)) ∧ ordC q l[k].c.key < 0 := fun kk hkk => by
          obtain ⟨q, h1, h2⟩ := hprev kk hkk
          exact ⟨q, h1, h2 _ (pcs_at hlt)⟩
        obtain ⟨ad, rfl, c0, c1, c2, c3, c4⟩ := hlr.at_ hlt
        have hx := hlr.ok _ (List.getElem_mem hlt)
        generalize l[k] = x at *
        obtain ⟨A1, a1, B1, b1, kk1, ck, val, pg, ct, rfl, _, _⟩ := CV.form hx
        have hxk : RdB wr (.slice A1 kk1.length a1) kk1 := hx.k
        have hcnt' : (min (k + 1) (findF key (pcs l)) = if ordC kk1 key < 0 then min k (findF key (pcs l)) + 1 else min k (findF key (pcs l))) := hcnt
        have hfi' : ∀ (vk' : Value) (W : World), Below w4.heap.size w4 W → RdB W vk' kk1 → Calls Try.prog 25 #[.pointer (some ⟨p, 0, none⟩), vk'] W fun e w' => e = .returned (.tuple #[.int .i64 (k : Nat), .bool true]) ∧ Below W.heap.size W w' := hfi
        have HC := Lib.hid hcnt'
        have HF := Lib.hid hfi'
        have HP := Lib.hid hprev'
        have hb1 := bytesLess_ord kk1 key
        clear hcnt hcnt' hfi hfi' hprev hprev' hself hx hlr hpr
        have hnk : min k (findF key (pcs l)) ≤ k := Nat.min_le_left _ _
        generalize min k (findF key (pcs l)) = n at *
        go_upto_region 15 with (fail)
        go_cut [98] (fun s wx => s = .bool false ∧ wx = wr.drew)
        case first =>
          by_cases hk0 : 0 < k
          · obtain ⟨kk, rfl⟩ : ∃ kk, k = kk + 1 := ⟨k - 1, by omega⟩
            obtain ⟨q, ⟨A0, a0, hqr, hqc⟩, hqo⟩ := HP.out kk rfl
            have hqc' := hqc ad rfl
            have hbl : Op.bytesLess q kk1 = true := by rw [bytesLess_ord]; exact decide_eq_true hqo
            have j1 : (0 : Int) ≤ (kk : Int) := by omega
            have j2 : (kk : Int) < (l.length : Int) := by omega
            have j3 : kk < l.length := by omega
            have j4 : IntKind.i64.wrap (kk : Int) = (kk : Int) := by rw [IntKind.wrap_i64]; omega
            have j5 : (0 : Int) < (kk : Int) + 1 := by omega
            have j6 : (0 : Int) ≤ (kk : Int) + 1 := by omega
            have j7 : (kk : Int) + 1 < (l.length : Int) := by omega
            have j8 : ((kk : Int) + 1).toNat = kk + 1 := by omega
            have j9 : IntKind.i64.wrap ((kk : Int) + 1) = (kk : Int) + 1 := by rw [IntKind.wrap_i64]; omega
            have j10 : kk + 1 < l.length := by omega
            have s1 := run_B_string (w := wr.drew) (show RdB wr.drew _ _ from hqr)
            have s2 := run_B_string (w := wr.drew) (show RdB wr.drew _ _ from hxk)
            clear hqo hqc hqr hb1 HF HC HP hkr c1 c2 c3 c4 hnk
            go_region
            go_wp2_with fail
            go_meet
            exact ⟨rfl, rfl⟩
          · obtain rfl : k = 0 := by omega
            go_region
            go_wp2_with fail
            go_meet
            exact ⟨rfl, rfl⟩
        case rest =>
          obtain ⟨rfl, rfl⟩ := hcut
          have hB1 := hB.drew
          have hxk1 : RdB wr.drew (.slice A1 kk1.length a1) kk1 := hxk
          go_wp2_with fail
          refine (HF.out _ _ hB1 hxk1).mono ?_
          rintro e w5 ⟨rfl, hw5⟩
          have hB5 := hB1.trans (hw5.mono hB1.size)
          have hx5 := hxk1.below hw5 (Nat.le_refl _)
          have hk5 := hk4.below hB5 (Nat.le_refl _)
          have c5 : w5.cell? (ad.add (k * 5)) = some (.slice A1 kk1.length a1) := (hw5.cell (World.block_lt_of_cell? wr _ c0)).trans c0
          have s1 := run_B_string (w := w5.drew) (show RdB w5.drew _ _ from hx5)
          have s2 := run_B_string (w := w5.drew) (show RdB w5.drew _ _ from hk5)
          by_cases ho : ordC kk1 key < 0
          · have hbl : Op.bytesLess kk1 key = true := by rw [hb1]; exact decide_eq_true ho
            have hn1 : min (k + 1) (findF key (pcs l)) = n + 1 := by rw [HC.out, if_pos ho]
            have HN := Lib.hid hn1
            clear hn1 hb1 ho c0 c1 c2 c3 c4 hx5 hk5 hxk hxk1 hkr
            go_upto_region 20 with (fail)
            go_region
            go_wp2_with fail
            exact ⟨⟨k + 1, by omega, by go_num, by rw [HN.out]; go_num, hB5.drew⟩, by simp [intOf]; omega⟩
          · have hbl : Op.bytesLess kk1 key = false := by rw [hb1]; exact decide_eq_false ho
            have hn1 : min (k + 1) (findF key (pcs l)) = n := by rw [HC.out, if_neg ho]
            have HN := Lib.hid hn1
            clear hn1 hb1 ho c0 c1 c2 c3 c4 hx5 hk5 hxk hxk1 hkr
            go_upto_region 20 with (fail)
            go_region
            go_wp2_with fail
            exact ⟨⟨k + 1, by omega, by go_num, by rw [HN.out], hB5.drew⟩, by simp [intOf]; omega⟩
      · obtain rfl : k = l.length := by omega
        have hFl := findF_le key (pcs l)
        rw [pcs_length] at hFl
        rw [show min l.length (findF key (pcs l)) = findF key (pcs l) by omega]
        have hfi := PFind_any hpr (.slice K key.length kc) key hkr
        rw [HE.out] at hfi
        by_cases hF : findF key (pcs l) < l.length
        · have hFp : findF key (pcs l) < (pcs l).length := by rw [pcs_length]; exact hF
          have his := isF_lt hFp
          have hcat := pcs_at hF
          rw [hcat] at his
          rw [his] at hfi
          have i1 : (findF key (pcs l) : Int) < (l.length : Int) := by omega
          obtain ⟨ad, rfl, c0, _, _, _, _⟩ := hlr.at_ hF
          have hx := hlr.ok _ (List.getElem_mem hF)
          clear his hcat hFp hFl
          generalize findF key (pcs l) = f at *
          generalize l[f] = x at *
          obtain ⟨A1, a1, B1, b1, kk1, ck, val, pg, ct, rfl, _, _⟩ := CV.form hx
          have hxk : RdB wr (.slice A1 kk1.length a1) kk1 := hx.k
          simp only at hfi c0
          clear hx
          go_wp2_with fail
          refine hfi.mono ?_
          rintro e w5 ⟨rfl, hw5⟩
          have hB5 := hB.trans (hw5.mono hB.size)
          have hx5 := hxk.below hw5 (Nat.le_refl _)
          have hk5 := hk4.below hB5 (Nat.le_refl _)
          have c5 : w5.cell? (ad.add (f * 5)) = some (.slice A1 kk1.length a1) := (hw5.cell (World.block_lt_of_cell? wr _ c0)).trans c0
          have s1 := run_B_string (w := w5.drew) (show RdB w5.drew _ _ from hx5)
          have s2 := run_B_string (w := w5.drew) (show RdB w5.drew _ _ from hk5)
          have hb5 := hb4.trans (hB5.mono hb4.size)
          clear hfi hlr hpr hkr hxk hx5 hk5 c0
          rcases Bool.eq_false_or_eq_true (kk1 == key) with hq | hq
          · rw [hq]
            go_upto_region 23 with (fail)
            go_region
            go_wp2_with fail
            go_ret
            exact ⟨rfl, hb5.drew⟩
          · rw [hq]
            go_upto_region 23 with (fail)
            go_region
            go_wp2_with fail
            go_ret
            exact ⟨rfl, hb5.drew⟩
        · have his := isF_ge (key := key) (l := pcs l) (by rw [pcs_length]; exact hF)
          rw [his] at hfi
          have i1 : ¬ (findF key (pcs l) : Int) < (l.length : Int) := by omega
          clear his hFl
          generalize findF key (pcs l) = f at *
          go_wp2_with fail
          refine hfi.mono ?_
          rintro e w5 ⟨rfl, hw5⟩
          have hB5 := hB.trans (hw5.mono hB.size)
          have hb5 := hb4.trans (hB5.mono hb4.size)
          clear hfi hlr hpr hkr
          go_upto_region 23 with (fail)
          go_region
          go_wp2_with fail
          go_ret
          exact ⟨rfl, hb5.drew⟩
  · have hb2 := hw1.trans (hw2.mono hw1.size)
    have hop := POpen_any _ b w2 (hb.below hb2 (Nat.le_refl _))
    have HN := Lib.hid hno
    clear hdec hno
    go_wp2_with fail
    refine hop.mono ?_
    rintro e w3 ⟨hw3, ⟨k2, l2, p, u2, hy2, _, _, _⟩ | ⟨_, rfl⟩⟩
    · exact absurd hy2 (HN.out _ _)
    have hb3 := hb2.trans (hw3.mono hb2.size)
    go_wp2_with fail
    go_ret
    exact ⟨rfl, hb3⟩
end Go.Proofs.Ytonbcipofakpjaa

-- espalierlaw06.great, espalierref06.SameCell, SameCells, espalierlaw06.PlainBack: walks.
namespace Go.Proofs.Ytonbcipofakpjaa
open Go.RowKit
def bulk : List PC → Nat
  | [] => 0
  | c :: r => bulk r + c.key.length + c.val.length
theorem bulk_append (a b : List PC) : bulk (a ++ b) = bulk a + bulk b := by
  induction a with
  | nil => simp [bulk]
  | cons c r ih => simp only [List.cons_append, bulk, ih]; omega
theorem bulk_take (l : List PC) {i : Nat} (hi : i < l.length) : bulk (l.take (i + 1)) = bulk (l.take i) + l[i].key.length + l[i].val.length := by
  rw [List.take_succ_eq_append_getElem hi, bulk_append]; simp [bulk]; omega
theorem bulk_take_le (l : List PC) (i : Nat) : bulk (l.take i) ≤ bulk l := by
  have : bulk l = bulk (l.take i) + bulk (l.drop i) := by rw [← bulk_append, List.take_append_drop]
  omega
theorem bulk_longs (l : List PC) : longsF l ≤ bulk l + 11 * l.length := by
  induction l with
  | nil => simp [longsF]
  | cons c r ih =>
    simp only [longsF, bulk, List.length_cons]
    have : longF c ≤ c.key.length + c.val.length + 11 := by unfold longF; split <;> omega
    omega
theorem bulk_mem {l : List PC} {c : PC} (h : c ∈ l) : c.key.length + c.val.length ≤ bulk l := by
  induction l with
  | nil => cases h
  | cons x r ih =>
    simp only [bulk]
    rcases List.mem_cons.1 h with rfl | h
    · omega
    · have := ih h; omega
/-- What great answers: false only for few cells with few bytes. -/
def GreatAt (w : World) (l : List PC) (e : Ending) (w' : World) : Prop := Below w.heap.size w w' ∧ ((e = .returned (.bool false) ∧ l.length ≤ 100000 ∧ l.length + bulk l ≤ 4194304) ∨ (e = .returned (.bool true) ∧ (100000 < l.length ∨ 4194304 < l.length + bulk l)))
set_option maxRecDepth 100000 in
set_option maxHeartbeats 4000000 in
theorem great_any (v : Value) (l : List CV) (w : World) (hl : RdCs w v l) (hn : l.length * 72 ≤ 140737488355328) (hb : ∀ c ∈ pcs l, c.key.length ≤ 140737488355328 ∧ c.val.length ≤ 140737488355328) :
    Calls Try.prog 11 #[v] w (GreatAt w (pcs l)) := by
  obtain ⟨A, c, rfl, hm, hc⟩ := hl.slice
  have HB := Lib.hid hb
  clear hb
  go_enter Try.func11, Try.ntmps11
  go_wp2_with fail
  go_loopw [3, 4] (fun n i wr => ∃ k : Nat, k ≤ l.length ∧ i = .int .i64 (k : Int) ∧ n = .int .i64 ((l.length + bulk ((pcs l).take k) : Nat) : Int) ∧ (k = 0 ∨ l.length + bulk ((pcs l).take k) ≤ 4194304 + 281474976710656) ∧ Below w.heap.size w wr) (fun _ i _ => l.length - (intOf i).toNat)
  case atStart => exact ⟨0, Nat.zero_le _, rfl, rfl, .inl rfl, Below.refl _ _⟩
  case round =>
    obtain ⟨k, hk, rfl, rfl, hq, hB⟩ := hrel
    have hq' : l.length + bulk ((pcs l).take k) ≤ 9000000000000000000 := by
      rcases hq with rfl | hq
      · simp [bulk]; omega
      · omega
    have hle := bulk_take_le (pcs l) k
    by_cases hlt : k < l.length
    · have ik : (k : Int) < (l.length : Int) := by omega
      have hlp : k < (pcs l).length := by rw [pcs_length]; exact hlt
      have hS := bulk_take (pcs l) hlp
      have hbm := HB.out _ (List.getElem_mem hlp)
      rw [pcs_at hlt] at hS hbm
      by_cases hs : l.length + bulk ((pcs l).take k) ≤ 4194304
      · obtain ⟨ad, rfl, c0, c1, c2, c3, c4⟩ := (hl.below hB).at_ hlt
        have hx := (hl.below hB).ok _ (List.getElem_mem hlt)
        generalize l[k] = x at *
        obtain ⟨A1, a1, B1, b1, key, ck, val, pg, ct, rfl, _, _⟩ := CV.form hx
        have hS' : bulk ((pcs l).take (k + 1)) = bulk ((pcs l).take k) + key.length + val.length := hS
        have hbm' : key.length ≤ 140737488355328 ∧ val.length ≤ 140737488355328 := hbm
        have HS := Lib.hid hS'
        clear hS hS' hbm hx
        generalize bulk ((pcs l).take k) = s at *
        have i1 : ((l.length : Int) + (s : Int)) ≤ 4194304 := by omega
        have i2 : IntKind.i64.wrap ((l.length : Int) + (s : Int) + (key.length : Int)) = (l.length : Int) + (s : Int) + (key.length : Int) := by rw [IntKind.wrap_i64]; omega
        have i3 : IntKind.i64.wrap ((l.length : Int) + (s : Int) + (key.length : Int) + (val.length : Int)) = (l.length : Int) + (s : Int) + (key.length : Int) + (val.length : Int) := by rw [IntKind.wrap_i64]; omega
        go_upto_region 5 with (fail)
        go_region
        go_wp2_with fail
        exact ⟨⟨k + 1, by omega, by go_num, by rw [HS.out]; go_num, .inr (by rw [HS.out]; omega), hB.drew⟩, by simp [intOf]; omega⟩
      · have i1 : ¬ ((l.length : Int) + (bulk ((pcs l).take k) : Int)) ≤ 4194304 := by omega
        have i4 : (4194304 : Int) < ((l.length : Int) + (bulk ((pcs l).take k) : Int)) := by omega
        have HG : Hid (4194304 < (pcs l).length + bulk (pcs l)) := Lib.hid (by rw [pcs_length]; omega)
        clear hS hbm
        generalize bulk ((pcs l).take k) = s at *
        go_wp2_with fail
        go_ret
        exact ⟨hB, .inr ⟨rfl, .inr HG.out⟩⟩
    · obtain rfl : k = l.length := by omega
      have e : (pcs l).take l.length = pcs l := List.take_of_length_le (by rw [pcs_length]; omega)
      rw [e] at hq' ⊢
      by_cases hs : l.length + bulk (pcs l) ≤ 4194304
      · by_cases hn1 : l.length ≤ 100000
        · have HG : Hid ((pcs l).length ≤ 100000 ∧ (pcs l).length + bulk (pcs l) ≤ 4194304) := Lib.hid (by rw [pcs_length]; omega)
          have i4 : ¬ (4194304 : Int) < ((l.length : Int) + (bulk (pcs l) : Int)) := by omega
          have i5 : ¬ (100000 : Int) < (l.length : Int) := by omega
          clear hle hq e
          go_wp2_with fail
          go_ret
          exact ⟨hB, .inl ⟨rfl, HG.out⟩⟩
        · have HG : Hid (100000 < (pcs l).length) := Lib.hid (by rw [pcs_length]; omega)
          have i4 : ¬ (4194304 : Int) < ((l.length : Int) + (bulk (pcs l) : Int)) := by omega
          have i5 : (100000 : Int) < (l.length : Int) := by omega
          clear hle hq e
          go_wp2_with fail
          go_ret
          exact ⟨hB, .inr ⟨rfl, .inl HG.out⟩⟩
      · have HG : Hid (4194304 < (pcs l).length + bulk (pcs l)) := Lib.hid (by rw [pcs_length]; omega)
        have i4 : (4194304 : Int) < ((l.length : Int) + (bulk (pcs l) : Int)) := by omega
        clear hle hq e
        go_wp2_with fail
        go_ret
        exact ⟨hB, .inr ⟨rfl, .inr HG.out⟩⟩
set_option maxRecDepth 100000 in
set_option maxHeartbeats 4000000 in
theorem SameCell_eq (x y : CV) (w : World) (hx : x.ok w) (hy : y.ok w) (h : y.c = x.c) : Calls Try.prog 59 #[cellV x, cellV y] w fun e w' => e = .returned (.bool true) ∧ Below w.heap.size w w' := by
  obtain ⟨kv, vv, c⟩ := y
  simp only at h
  subst h
  obtain ⟨A, ca, B, cb, key, ck, val, pg, ct, rfl, _, _⟩ := CV.form hx
  obtain ⟨A', ca', hk', _⟩ := hy.k.form
  obtain ⟨B', cb', hv', _⟩ := hy.v.form
  simp only at hk' hv'
  subst hk' hv'
  have hkx : RdB w (.slice A key.length ca) key := hx.k
  have hvx : RdB w (.slice B val.length cb) val := hx.v
  have hky : RdB w (.slice A' key.length ca') key := hy.k
  have hvy : RdB w (.slice B' val.length cb') val := hy.v
  have hA := (((Below.refl w.heap.size w).alloc (Nat.le_refl _) (.cells #[.slice A key.length ca, .int .i64 ck, .slice B val.length cb, .int .i64 pg, .int .i64 ct] 32))).alloc (by simp) (.cells #[.slice A' key.length ca', .int .i64 ck, .slice B' val.length cb', .int .i64 pg, .int .i64 ct] 32)
  have hX := (OBlk.new' w 32 [.slice A key.length ca, .int .i64 ck, .slice B val.length cb, .int .i64 pg, .int .i64 ct]).alloc (.cells #[.slice A' key.length ca', .int .i64 ck, .slice B' val.length cb', .int .i64 pg, .int .i64 ct] 32)
  have hY := OBlk.new' (w.alloc (.cells #[.slice A key.length ca, .int .i64 ck, .slice B val.length cb, .int .i64 pg, .int .i64 ct] 32)) 32 [.slice A' key.length ca', .int .i64 ck, .slice B' val.length cb', .int .i64 pg, .int .i64 ct]
  rw [World.size_alloc] at hY
  obtain ⟨x0, x1, x2, x3, x4⟩ := cells5 hX
  obtain ⟨y0, y1, y2, y3, y4⟩ := cells5 hY
  have q1 := run_B_string (hkx.below hA (Nat.le_refl _))
  have q2 := run_B_string (hvx.below hA (Nat.le_refl _))
  have q3 := run_B_string (hky.below hA (Nat.le_refl _))
  have q4 := run_B_string (hvy.below hA (Nat.le_refl _))
  unfold cellV
  go_enter Try.func59, Try.ntmps59
  go_wp2_with fail
  go_ret
  exact ⟨rfl, hA⟩
theorem ok_at (P : World → Prop) (w : World) (h : P w) : ∃ w', P w' := ⟨w, h⟩
set_option maxRecDepth 100000 in
set_option maxHeartbeats 4000000 in
theorem SameCells_eq (u v : Value) (a b : List CV) (w : World) (ha : RdCs w u a) (hb : RdCs w v b) (h : pcs a = pcs b) : Calls Try.prog 22 #[u, v] w fun e w' => e = .returned (.bool true) ∧ Below w.heap.size w w' := by
  have hlen : a.length = b.length := by rw [← pcs_length a, h, pcs_length]
  have hcc : ∀ i (h1 : i < a.length) (h2 : i < b.length), b[i].c = a[i].c := fun i h1 h2 => by
    rw [← pcs_at h1, ← pcs_at h2]
    simp only [h]
  have HC := Lib.hid hcc
  obtain ⟨A, ca, rfl, hma, hca⟩ := ha.slice
  obtain ⟨B, cb, rfl, hmb, hcb⟩ := hb.slice
  have hne : (((a.length : Nat) : Int) != ((b.length : Nat) : Int)) = false := by rw [hlen]; simp
  have HLN := Lib.hid hlen
  clear hcc hlen h
  go_enter Try.func22, Try.ntmps22
  go_wp2_with fail
  go_loopw [5] (fun i wr => ∃ k : Nat, k ≤ a.length ∧ i = .int .i64 (k : Int) ∧ Below w.heap.size w wr) (fun i _ => a.length - (intOf i).toNat)
  case atStart => exact ⟨0, Nat.zero_le _, rfl, Below.refl _ _⟩
  case round =>
    obtain ⟨k, hk, rfl, hB⟩ := hrel
    by_cases hlt : k < a.length
    · have ik : (k : Int) < (a.length : Int) := by omega
      have hltb : k < b.length := by rw [← HLN.out]; exact hlt
      have ikb : (k : Int) < (b.length : Int) := by omega
      obtain ⟨ad, rfl, c0, c1, c2, c3, c4⟩ := (ha.below hB).at_ hlt
      obtain ⟨bd, rfl, d0, d1, d2, d3, d4⟩ := (hb.below hB).at_ hltb
      have hx := (ha.below hB).ok _ (List.getElem_mem hlt)
      have hy := (hb.below hB).ok _ (List.getElem_mem hltb)
      have hsc := fun W (hW : Below wr.heap.size wr W) => SameCell_eq a[k] b[k] W (hx.below hW) (hy.below hW) (HC.out k hlt hltb)
      generalize a[k] = x at *
      generalize b[k] = y at *
      obtain ⟨A1, a1, B1, b1, key, ck, val, pg, ct, rfl, _, _⟩ := CV.form hx
      obtain ⟨A2, a2, B2, b2, key2, ck2, val2, pg2, ct2, rfl, _, _⟩ := CV.form hy
      unfold cellV at hsc
      have HS := Lib.hid hsc
      clear hsc hx hy
      go_upto_region 6 with (fail)
      go_region_held3 (fun w' => w'.cell? (ad.add (k * 5)) = some (.slice A1 key.length a1) ∧ w'.cell? ⟨(ad.add (k * 5)).block, (ad.add (k * 5)).off + 1, none⟩ = some (.int .i64 ck) ∧ w'.cell? ⟨(ad.add (k * 5)).block, (ad.add (k * 5)).off + 2, none⟩ = some (.slice B1 val.length b1) ∧ w'.cell? ⟨(ad.add (k * 5)).block, (ad.add (k * 5)).off + 3, none⟩ = some (.int .i64 pg) ∧ w'.cell? ⟨(ad.add (k * 5)).block, (ad.add (k * 5)).off + 4, none⟩ = some (.int .i64 ct) ∧
          w'.cell? (bd.add (k * 5)) = some (.slice A2 key2.length a2) ∧ w'.cell? ⟨(bd.add (k * 5)).block, (bd.add (k * 5)).off + 1, none⟩ = some (.int .i64 ck2) ∧ w'.cell? ⟨(bd.add (k * 5)).block, (bd.add (k * 5)).off + 2, none⟩ = some (.slice B2 val2.length b2) ∧ w'.cell? ⟨(bd.add (k * 5)).block, (bd.add (k * 5)).off + 3, none⟩ = some (.int .i64 pg2) ∧ w'.cell? ⟨(bd.add (k * 5)).block, (bd.add (k * 5)).off + 4, none⟩ = some (.int .i64 ct2))
        (first
          | exact ⟨c0, c1, c2, c3, c4, d0, d1, d2, d3, d4⟩
          | exact ⟨(hw7.cell (World.block_lt_of_cell? wr _ c0)).trans c0, (hw7.cell (World.block_lt_of_cell? wr _ c1)).trans c1, (hw7.cell (World.block_lt_of_cell? wr _ c2)).trans c2, (hw7.cell (World.block_lt_of_cell? wr _ c3)).trans c3, (hw7.cell (World.block_lt_of_cell? wr _ c4)).trans c4, (hw7.cell (World.block_lt_of_cell? wr _ d0)).trans d0, (hw7.cell (World.block_lt_of_cell? wr _ d1)).trans d1, (hw7.cell (World.block_lt_of_cell? wr _ d2)).trans d2, (hw7.cell (World.block_lt_of_cell? wr _ d3)).trans d3, (hw7.cell (World.block_lt_of_cell? wr _ d4)).trans d4⟩)
        (first
          | (go_at_call 59; refine (HS.out _ ((Below.refl _ _).drew)).mono ?_; rintro e w7 ⟨rfl, hw7⟩)
          | fail)
      go_wp2_with fail
      exact ⟨⟨k + 1, by omega, by go_num, hB.trans (((Below.refl wr.heap.size wr).drew.trans hw7).mono hB.size)⟩, by simp [intOf]; omega⟩
    · obtain rfl : k = a.length := by omega
      go_wp2_with fail
      go_ret
      exact ⟨rfl, hB⟩
set_option maxRecDepth 100000 in
set_option maxHeartbeats 4000000 in
theorem back_any (kind : Int) (v : Value) (l : List CV) (P : Int) (hPr : i64r P) (w : World) (hl : RdCs w v l) (hn : l.length * 72 ≤ 140737488355328) (hb : ∀ c ∈ pcs l, c.key.length ≤ 140737488355328 ∧ c.val.length ≤ 140737488355328) :
    Calls Try.prog 6 #[.int .i64 kind, v, .int .i64 P] w fun e w' => e = .returned (.bool true) ∧ Below w.heap.size w w' := by
  obtain ⟨A, c, rfl, hm, hc⟩ := hl.slice
  go_enter Try.func6, Try.ntmps6
  go_wp2_with fail
  refine (awake_any _).mono ?_
  rintro e w1 ⟨rfl, hw1⟩
  have hl1 := hl.below hw1
  have hgr := great_any _ l w1 hl1 hn hb
  go_wp2_with fail
  refine hgr.mono ?_
  rintro e w2 ⟨hw2, ⟨rfl, _, _⟩ | ⟨rfl, _⟩⟩
  · have hl2 := hl1.below hw2
    have hb2 := hw1.trans (hw2.mono hw1.size)
    have hE := PEncode_any kind _ l P hPr w2 hl2 (by omega)
    clear hgr hw2 hw1 hl1
    go_wp2_with fail
    refine hE.mono ?_
    unfold EncAt
    rintro e w3 ⟨hw3, ⟨hf, rfl⟩ | ⟨ht, ⟨hne, rfl⟩ | ⟨hz, g, rfl, hg, hbk⟩⟩⟩
    · have hb3 := hb2.trans (hw3.mono hb2.size)
      clear hf hE
      go_wp2_with fail
      go_ret
      exact ⟨rfl, hb3⟩
    · have hb3 := hb2.trans (hw3.mono hb2.size)
      have hnb : (encE kind (pcs l) P.toNat != 0) = true := by simp only [bne, beq_eq_false_iff_ne.2 hne]; rfl
      generalize encE kind (pcs l) P.toNat = ee at *
      clear hne hE ht
      go_wp2_with fail
      go_ret
      exact ⟨rfl, hb3⟩
    · rw [Bool.and_eq_true] at ht
      obtain ⟨hP1, hP2⟩ := isPowB_range ht.2
      obtain ⟨Q, rfl⟩ : ∃ Q : Nat, P = (Q : Int) := ⟨P.toNat, by omega⟩
      simp only [Int.toNat_natCast] at hz hbk ⊢
      have hb3 := hb2.trans (hw3.mono hb2.size)
      have hl3 := hl2.below hw3
      have hll : (laidF kind (pcs l) Q).length = Q := laidF_length (encE_zero.1 hz).2
      have hpl : isPln (laidF kind (pcs l) Q) kind (pcs l) := ⟨by rw [hll]; exact ht.2, ht.1, by rw [hll]; exact hz, by rw [hll]⟩
      have hun : ∀ k' l', isPln (laidF kind (pcs l) Q) k' l' → k' = kind ∧ l' = pcs l := fun k' l' h => by
        have h1 := isPln_parse h
        have h2 := isPln_parse hpl
        rw [h2.1] at h1
        exact ⟨h1.2.symm.trans h2.2, (Option.some.inj h1.1).symm⟩
      have hfit := fit_of (P := Q) (fun c hc => may_ok (scan_may (encE_zero.1 hz).1 c hc)) (by omega) (by rw [pcs_length]; omega)
      have hsz := (encE_zero.1 hz).2
      have HUN := Lib.hid hun
      have HPL := Lib.hid hpl
      have HLL := Lib.hid hll
      generalize laidF kind (pcs l) Q = b at *
      have hbr := hbk.rdB HLL.out (by omega)
      have hdec := PDecode_any _ b w3 hbr
      clear hE hz ht hun hpl hll
      go_wp2_with fail
      refine hdec.mono ?_
      rintro e w4 ⟨hw4, ⟨k1, l1, v1, hy1, rfl, hO1⟩ | ⟨hno, _⟩⟩
      case inr => exact absurd HPL.out (hno _ _)
      obtain ⟨rfl, hl1'⟩ := HUN.out _ _ hy1
      have hb4 := hb3.trans (hw4.mono hb3.size)
      have hl4 := hl3.below hw4
      have hbk4 := hbk.below hw4 hbk.lt
      have hbr4 := hbk4.rdB HLL.out (by omega)
      have hlen1 : l1.length = l.length := by rw [← pcs_length l1, hl1', pcs_length]
      obtain ⟨C1, cc1, rfl⟩ := Own.slice hO1.own
      have hop := POpen_any _ b w4 hbr4
      have HL1 := Lib.hid hl1'
      have HN1 := Lib.hid hlen1
      clear hdec hbr hbk hb3 hl3 hy1 hl1' hlen1
      go_wp2_with fail
      refine hop.mono ?_
      rintro e w5 ⟨hw5, ⟨k2, l2, p, u2, hy2, rfl, hp, hPg⟩ | ⟨hno, _⟩⟩
      case inr => exact absurd HPL.out (hno _ _)
      obtain ⟨rfl, hl2'⟩ := HUN.out _ _ hy2
      have hb5 := hb4.trans (hw5.mono hb4.size)
      have hl5 := hl4.below hw5
      have hO5 := hO1.below hw5
      have hbk5 := hbk4.below hw5 hbk4.lt
      have hlen2 : l2.length = l.length := by rw [← pcs_length l2, hl2', pcs_length]
      rw [hl2'] at hPg
      have hsa := SameCells_eq _ _ l1 l w5 hO5.rd hl5 HL1.out
      rw [HN1.out] at hsa
      have HL2 := Lib.hid hl2'
      have HN2 := Lib.hid hlen2
      clear hop hbr4 hbk4 hb4 hl4 hO1 hy2 hl2' hlen2
      rw [HN1.out]
      go_wp2_with fail
      refine hsa.mono ?_
      rintro e w6 ⟨rfl, hw6⟩
      have hb6 := hb5.trans (hw6.mono hb5.size)
      have hPg6 := hPg.below hw6
      have hl6 := hl5.below hw6
      have hln := PLen_any hPg6
      have hus := fun W (hW : Below w6.heap.size w6 W) => PUsed_any (hPg6.below hW)
      have hsi := Size_any k2 _ l w6 hl6 hfit
      rw [HN2.out] at hln
      have i1 : (sizeF (pcs l) : Int) ≤ (Q : Int) := by omega
      have HU := Lib.hid hus
      clear hus hsa hPg hl5 hO5 hbk5 hfit hsz
      generalize sizeF (pcs l) = sz at *
      go_wp2_with (first
        | (go_at_call 23; refine hln.mono ?_; rintro e w8 ⟨rfl, rfl⟩)
        | (go_at_call 24; refine (HU.out w6 (Below.refl _ _)).mono ?_; rintro e w8 ⟨rfl, rfl⟩)
        | (go_at_call 16; refine hsi.mono ?_; rintro e w7 ⟨rfl, hw7⟩)
        | (go_at_call 24; refine (HU.out w7 hw7).mono ?_; rintro e w8 ⟨rfl, rfl⟩)
        | fail)
      go_ret
      exact ⟨rfl, hb6.trans (hw7.mono hb6.size)⟩
  · have hb2 := hw1.trans (hw2.mono hw1.size)
    go_wp2_with fail
    go_ret
    exact ⟨rfl, hb2⟩
end Go.Proofs.Ytonbcipofakpjaa
