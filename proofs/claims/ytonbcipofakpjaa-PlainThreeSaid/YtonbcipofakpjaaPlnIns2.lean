/- plain.Insert into a page that is empty, or beyond its end: walks. -/
import Derived.Test.YtonbcipofakpjaaPlnIns
namespace Go.Proofs.Ytonbcipofakpjaa
open Go.RowKit
set_option maxRecDepth 100000 in
set_option maxHeartbeats 4000000 in
/-- An empty page's refusal. -/
theorem refused_nil {w : World} {p : Nat} {kind : Int} {P : Nat} (h : PgAt w p kind P 8 (.slice none 0 0) []) (hP : P ≤ 65536) (x : CV) (hx : x.ok w) (hm : mayP kind P x.c = true) (hf : 10 + longF x.c ≤ P) :
    Calls Try.prog 69 #[.pointer (some ⟨p, 0, none⟩), .int .i64 0, .int .i64 0, cellV x, .int .i64 0] w fun e w' => e = .returned (.int .i64 0) ∧ Below w.heap.size w w' := by
  have hok := may_ok hm
  have hkv := okc_fit hok hP
  obtain ⟨A, ca, B, cb, key, ck, val, pg, ct, rfl, hk1, hk2⟩ := CV.form hx
  have hA : Below w.heap.size w (w.alloc (.cells #[.slice A key.length ca, .int .i64 ck, .slice B val.length cb, .int .i64 pg, .int .i64 ct] 32)) := (Below.refl _ _).alloc (Nat.le_refl _) _
  have hC := OBlk.new' w 32 [.slice A key.length ca, .int .i64 ck, .slice B val.length cb, .int .i64 pg, .int .i64 ct]
  have hB := h.blk.alloc (.cells #[.slice A key.length ca, .int .i64 ck, .slice B val.length cb, .int .i64 pg, .int .i64 ct] 32)
  have hx1 := hx.below hA
  have hma := fun W => may_any ⟨.slice A key.length ca, .slice B val.length cb, ⟨key, ck, val, pg, ct⟩⟩ kind P hP W
  have hlo := fun W => long_any ⟨.slice A key.length ca, .slice B val.length cb, ⟨key, ck, val, pg, ct⟩⟩ W
  have hkv' : key.length + val.length ≤ 9223372036854775000 := by have : key.length + val.length ≤ 131072 := hkv; omega
  rw [hm] at hma
  have hf' : 10 + longF ⟨key, ck, val, pg, ct⟩ ≤ P := hf
  unfold cellV at hma hlo ⊢
  have hlo2 : ∀ W, CV.ok W ⟨.slice A key.length ca, .slice B val.length cb, ⟨key, ck, val, pg, ct⟩⟩ → Calls Try.prog 53 #[.agg #[.slice A key.length ca, .int .i64 ck, .slice B val.length cb, .int .i64 pg, .int .i64 ct]] W fun e w' => e = .returned (.int .i64 (longF ⟨key, ck, val, pg, ct⟩ : Nat)) ∧ Below W.heap.size W w' := fun W hW => hlo W hW hkv'
  have HM := Lib.hid hma
  have HL := Lib.hid hlo2
  have HX := Lib.hid hx
  clear hlo hma hlo2 hm hok hkv hf h hx
  have hpl := hB.lt
  generalize longF ⟨key, ck, val, pg, ct⟩ = lo at *
  go_enter Try.func69, Try.ntmps69
  go_upto_region 1 with (fail)
  generalize (w.alloc (.cells #[.slice A key.length ca, .int .i64 ck, .slice B val.length cb, .int .i64 pg, .int .i64 ct] 32)) = w1 at *
  obtain ⟨c0, c1, c2, c3, c4⟩ := cells5 hC
  obtain ⟨b0, b1, b2, b3⟩ := cells4 hB
  have hcl := hC.lt
  go_cut [11] (fun s wx => s = .bool false ∧ Below w1.heap.size w1 wx)
  case first =>
    go_region_held3 (fun w' => w'.cell? ⟨w.heap.size, 0, none⟩ = some (.slice A key.length ca) ∧ w'.cell? ⟨w.heap.size, 1, none⟩ = some (.int .i64 ck) ∧ w'.cell? ⟨w.heap.size, 2, none⟩ = some (.slice B val.length cb) ∧ w'.cell? ⟨w.heap.size, 3, none⟩ = some (.int .i64 pg) ∧ w'.cell? ⟨w.heap.size, 4, none⟩ = some (.int .i64 ct) ∧ w'.cell? ⟨p, 0, none⟩ = some (.int .i64 kind) ∧ w'.cell? ⟨p, 1, none⟩ = some (.int .i64 (P : Int)))
      (first
        | exact ⟨c0, c1, c2, c3, c4, b0, b1⟩
        | (obtain ⟨d0, d1, d2, d3, d4⟩ := cells5 (hC.drew.below hw2 hcl); obtain ⟨f0, f1, _, _⟩ := cells4 (hB.drew.below hw2 hpl); exact ⟨d0, d1, d2, d3, d4, f0, f1⟩))
      (first
        | (go_at_call 50; refine (HM.out _ (hx1.below ((Below.refl _ _).drew))).mono ?_; rintro e w2 ⟨rfl, hw2⟩)
        | fail)
    go_wp2_with fail
    go_meet
    exact ⟨rfl, (Below.refl _ _).drew.trans hw2⟩
  case rest =>
    obtain ⟨rfl, hw2⟩ := hcut
    have hC2 := hC.below hw2 hcl
    have hB2 := hB.below hw2 hpl
    have hx2 := hx1.below hw2
    have hcl2 := hC2.lt
    have hpl2 := hB2.lt
    clear c0 c1 c2 c3 c4 b0 b1 b2 b3 hC hB hx1
    obtain ⟨c0, c1, c2, c3, c4⟩ := cells5 hC2
    obtain ⟨b0, b1, b2, b3⟩ := cells4 hB2
    have i1 : ¬ (P : Int) < (10 : Int) + (lo : Int) := by omega
    have i2 : IntKind.i64.wrap (IntKind.i64.wrap (IntKind.i64.wrap 8 + 2) + (lo : Int)) = (10 : Int) + (lo : Int) := by rw [IntKind.wrap_i64, IntKind.wrap_i64, IntKind.wrap_i64]; omega
    go_upto_region 3 with (fail)
    go_region
    go_upto_region 4 with (fail)
    go_region
    go_upto_region 6 with (fail)
    go_region_held3 (fun w' => w'.cell? ⟨w.heap.size, 0, none⟩ = some (.slice A key.length ca) ∧ w'.cell? ⟨w.heap.size, 1, none⟩ = some (.int .i64 ck) ∧ w'.cell? ⟨w.heap.size, 2, none⟩ = some (.slice B val.length cb) ∧ w'.cell? ⟨w.heap.size, 3, none⟩ = some (.int .i64 pg) ∧ w'.cell? ⟨w.heap.size, 4, none⟩ = some (.int .i64 ct) ∧ w'.cell? ⟨p, 1, none⟩ = some (.int .i64 (P : Int)) ∧ w'.cell? ⟨p, 2, none⟩ = some (.int .i64 8))
      (first
        | exact ⟨c0, c1, c2, c3, c4, b1, b2⟩
        | (obtain ⟨d0, d1, d2, d3, d4⟩ := cells5 (OBlk.below (w := wc.drew.drew.drew) hC2 hw3 hcl2); obtain ⟨_, f1, f2, _⟩ := cells4 (OBlk.below (w := wc.drew.drew.drew) hB2 hw3 hpl2); exact ⟨d0, d1, d2, d3, d4, f1, f2⟩))
      (first
        | (go_at_call 53; refine (HL.out _ (hx2.below (((Below.refl _ _).drew.drew).drew))).mono ?_; rintro e w3 ⟨rfl, hw3⟩)
        | fail)
    go_wp2_with fail
    go_ret
    exact ⟨rfl, (hA.trans (hw2.mono hA.size)).trans ((((Below.refl wc.heap.size wc).drew.drew).drew.trans hw3).mono (by have := hA.size; have := hw2.size; omega))⟩
/-- The one way of slices.Insert that is needed: behind the end. -/
theorem cs_elem : Try.prog.underlying 25 = some (.slice (Try.prog.elem 25)) := by kernel_rfl
set_option maxRecDepth 100000 in
set_option maxHeartbeats 4000000 in
theorem InsertS_nil (w : World) (y : CV) (b1 b2 : Nat) (hk : OwB w b1 y.kv y.c.key) (hv : OwB w b2 y.vv y.c.val) :
    Calls Try.prog 70 #[.slice none 0 0, .int .i64 0, .slice (some ⟨w.heap.size, 0, none⟩) 1 1] (w.alloc (.cells #[y.kv, .int .i64 y.c.kind, y.vv, .int .i64 y.c.page, .int .i64 y.c.count] 32)) fun e w' =>
      ∃ v, e = .returned v ∧ Own w' w.heap.size 32 5 v 1 y.cells ∧ Below w.heap.size w w' := by
  obtain ⟨i0, hi, hz0, hz1, hz2⟩ := info_parts cell_info
  have hsrc := Rd.five w y.kv (.int .i64 y.c.kind) y.vv (.int .i64 y.c.page) (.int .i64 y.c.count) 32
  have hone := cells_one hk hv
  have hA : Below w.heap.size w (w.alloc (.cells #[y.kv, .int .i64 y.c.kind, y.vv, .int .i64 y.c.page, .int .i64 y.c.count] 32)) := (Below.refl _ _).alloc (Nat.le_refl _) _
  go_enter Try.func70, Try.ntmps70
  go_wp2_with (first
    | (at_builtin; refine wp_append rfl (.tmp 23) (.tmp 24) _ _ rfl w.heap.size 32 i0 _ 5 72 Try.underlying25 hi hz0 hz1 hz2 rfl _ 0 [] rfl (Own.nil _ _ _ _) (.slice (some ⟨w.heap.size, 0, none⟩) 1 1) 1 _ rfl (Rd.src _ Try.underlying25 (by omega) hsrc hone) (by omega) (by omega) (by simp) ?_; intro v' w' ho' hg' hk'; obtain ⟨B', c', rfl⟩ := Own.slice ho')
    | fail)
  go_ret
  exact ⟨_, rfl, by simpa [CV.cells] using ho', hA.grown hg' (by simp) (fun k hk => by cases hk)⟩
end Go.Proofs.Ytonbcipofakpjaa
