/- plate.Start, act, place, settle: walks. -/
import Derived.Test.YtipjngoenklioaaPlaFns
namespace Go.Proofs.Ytipjngoenklioaa
open Go.RowKit Go.WideShapes Go.ChangeMaps Go.MapKept
def inc64 (x : Int) : Int := wrap64 (x + 1)
theorem inc64_range (x : Int) : -9223372036854775808 ≤ inc64 x ∧ inc64 x ≤ 9223372036854775807 := by
  unfold inc64 wrap64; omega
theorem grownBy_drew (w : World) (row : Option Nat) : w.grownBy w.drew row := ⟨rfl, rfl, rfl, Nat.le_refl _, fun _ _ _ => rfl⟩
set_option maxRecDepth 20000 in
theorem Start_any (w : World) (F : Nat → Prop) (r : Raw) (S : PS) (h : PlRaw w F r S) : Calls Try.prog 32 #[plPtr r] w fun e w' => (∃ v, e = .returned v) ∧ PlRaw w' F r { S with down := false } ∧ w.grownBy w' (some r.pb) := by
  have c4 := h.c4
  have f4 := h.fz (j := 4) (by decide)
  unfold plPtr
  go_enter Try.func32, Try.ntmps32
  go_wp2_with fail
  refine bodyPost_end (results_none rfl _ _ _) rfl ?_
  have hg := grownBy_setCell w ⟨r.pb, 4, none⟩ (.bool false)
  exact ⟨⟨_, rfl⟩, h.pb_write hg (h.blk.set 4 (.bool false)) { h.ok with } rfl rfl rfl, hg⟩
/-- An act of kind k. -/
def PS.cnt (S : PS) : Nat → PS
  | 1 => { S with cw := inc64 S.cw }
  | _ => { S with cs := inc64 S.cs }
def PS.acted (S : PS) (k : Nat) : PS := { S.cnt k with acts := if 0 < S.acts then S.acts - 1 else S.acts }
set_option maxRecDepth 20000 in
set_option maxHeartbeats 2000000 in
theorem act_any (w : World) (F : Nat → Prop) (r : Raw) (S : PS) (k : Nat) (hk : k = 1 ∨ k = 2) (h : PlRaw w F r S) : Calls Try.prog 35 #[plPtr r, .int .i64 (k : Int)] w fun e w' => e = .returned (.bool (S.acts == 0)) ∧ PlRaw w' F r (S.acted k) ∧ w.grownBy w' (some r.pb) := by
  have c5 := h.c5
  have f5 := h.fz (j := 5) (by decide)
  have c10 := h.c10
  have f10 := h.fz (j := 10) (by decide)
  have c11 := h.c11
  have f11 := h.fz (j := 11) (by decide)
  have a1 := h.ok.a1
  have a2 := h.ok.a2
  rcases hk with rfl | rfl
  · rcases (by omega : S.acts = 0 ∨ 0 < S.acts ∨ S.acts = -1) with h0 | h0 | h0
    · rw [h0] at c5
      have HB := Lib.hid (show (S.acts == 0) = true by simp [h0])
      have HS := Lib.hid (show S.acted 1 = S.cnt 1 by unfold PS.acted PS.cnt; simp [h0])
      clear h0
      unfold plPtr
      go_enter Try.func35, Try.ntmps35
      go_upto_region 1 with (fail)
      go_region
      go_wp2_with fail
      go_ret
      rw [HB.out, HS.out]
      have hg := (grownBy_setCell w ⟨r.pb, 10, none⟩ (.int .i64 (inc64 S.cw)))
      exact ⟨rfl, (h.pb_write (S' := S.cnt 1) hg (h.blk.set 10 (.int .i64 (inc64 S.cw))) { h.ok with c2 := inc64_range S.cw } rfl rfl rfl).drew, grownBy_trans hg (grownBy_drew _ _)⟩
    · have HB := Lib.hid (show (S.acts == 0) = false by simp; omega)
      have h0' := HB.out
      have HS := Lib.hid (show S.acted 1 = { S.cnt 1 with acts := S.acts - 1 } by unfold PS.acted PS.cnt; simp [h0])
      unfold plPtr
      go_enter Try.func35, Try.ntmps35
      go_upto_region 1 with (fail)
      go_region
      go_wp2_with fail
      go_ret
      rw [HS.out]
      have hg := grownBy_trans (grownBy_setCell w ⟨r.pb, 10, none⟩ (.int .i64 (inc64 S.cw))) (grownBy_setCell _ ⟨r.pb, 5, none⟩ (.int .i64 (S.acts - 1)))
      exact ⟨rfl, (h.pb_write (S' := { S.cnt 1 with acts := S.acts - 1 }) hg ((h.blk.set 10 (.int .i64 (inc64 S.cw))).set 5 (.int .i64 (S.acts - 1))) { h.ok with c2 := inc64_range S.cw, a1 := by show _ ≤ S.acts - 1; omega, a2 := by show S.acts - 1 ≤ _; omega } rfl rfl rfl).drew, grownBy_trans hg (grownBy_drew _ _)⟩
    · have HB := Lib.hid (show (S.acts == 0) = false by simp; omega)
      have h0' := HB.out
      have HS := Lib.hid (show S.acted 1 = { S.cnt 1 with acts := -1 } by unfold PS.acted PS.cnt; simp [h0])
      rw [h0] at c5
      clear h0
      unfold plPtr
      go_enter Try.func35, Try.ntmps35
      go_upto_region 1 with (fail)
      go_region
      go_wp2_with fail
      go_ret
      rw [HS.out]
      have hg := grownBy_trans (grownBy_setCell w ⟨r.pb, 10, none⟩ (.int .i64 (inc64 S.cw))) (grownBy_setCell _ ⟨r.pb, 5, none⟩ (.int .i64 (-1)))
      exact ⟨rfl, (h.pb_write (S' := { S.cnt 1 with acts := -1 }) hg ((h.blk.set 10 (.int .i64 (inc64 S.cw))).set 5 (.int .i64 (-1))) { h.ok with c2 := inc64_range S.cw, a1 := by show _ ≤ (-1 : Int); omega, a2 := by show (-1 : Int) ≤ _; omega } rfl rfl rfl).drew, grownBy_trans hg (grownBy_drew _ _)⟩
  · rcases (by omega : S.acts = 0 ∨ 0 < S.acts ∨ S.acts = -1) with h0 | h0 | h0
    · rw [h0] at c5
      have HB := Lib.hid (show (S.acts == 0) = true by simp [h0])
      have HS := Lib.hid (show S.acted 2 = S.cnt 2 by unfold PS.acted PS.cnt; simp [h0])
      clear h0
      unfold plPtr
      go_enter Try.func35, Try.ntmps35
      go_upto_region 1 with (fail)
      go_region
      go_wp2_with fail
      go_ret
      rw [HB.out, HS.out]
      have hg := (grownBy_setCell w ⟨r.pb, 11, none⟩ (.int .i64 (inc64 S.cs)))
      exact ⟨rfl, (h.pb_write (S' := S.cnt 2) hg (h.blk.set 11 (.int .i64 (inc64 S.cs))) { h.ok with c3 := inc64_range S.cs } rfl rfl rfl).drew, grownBy_trans hg (grownBy_drew _ _)⟩
    · have HB := Lib.hid (show (S.acts == 0) = false by simp; omega)
      have h0' := HB.out
      have HS := Lib.hid (show S.acted 2 = { S.cnt 2 with acts := S.acts - 1 } by unfold PS.acted PS.cnt; simp [h0])
      unfold plPtr
      go_enter Try.func35, Try.ntmps35
      go_upto_region 1 with (fail)
      go_region
      go_wp2_with fail
      go_ret
      rw [HS.out]
      have hg := grownBy_trans (grownBy_setCell w ⟨r.pb, 11, none⟩ (.int .i64 (inc64 S.cs))) (grownBy_setCell _ ⟨r.pb, 5, none⟩ (.int .i64 (S.acts - 1)))
      exact ⟨rfl, (h.pb_write (S' := { S.cnt 2 with acts := S.acts - 1 }) hg ((h.blk.set 11 (.int .i64 (inc64 S.cs))).set 5 (.int .i64 (S.acts - 1))) { h.ok with c3 := inc64_range S.cs, a1 := by show _ ≤ S.acts - 1; omega, a2 := by show S.acts - 1 ≤ _; omega } rfl rfl rfl).drew, grownBy_trans hg (grownBy_drew _ _)⟩
    · have HB := Lib.hid (show (S.acts == 0) = false by simp; omega)
      have h0' := HB.out
      have HS := Lib.hid (show S.acted 2 = { S.cnt 2 with acts := -1 } by unfold PS.acted PS.cnt; simp [h0])
      rw [h0] at c5
      clear h0
      unfold plPtr
      go_enter Try.func35, Try.ntmps35
      go_upto_region 1 with (fail)
      go_region
      go_wp2_with fail
      go_ret
      rw [HS.out]
      have hg := grownBy_trans (grownBy_setCell w ⟨r.pb, 11, none⟩ (.int .i64 (inc64 S.cs))) (grownBy_setCell _ ⟨r.pb, 5, none⟩ (.int .i64 (-1)))
      exact ⟨rfl, (h.pb_write (S' := { S.cnt 2 with acts := -1 }) hg ((h.blk.set 11 (.int .i64 (inc64 S.cs))).set 5 (.int .i64 (-1))) { h.ok with c3 := inc64_range S.cs, a1 := by show _ ≤ (-1 : Int); omega, a2 := by show (-1 : Int) ≤ _; omega } rfl rfl rfl).drew, grownBy_trans hg (grownBy_drew _ _)⟩
/-- Page n's place. -/
theorem run_place (w : World) (sb lo hi sz : Nat) (h1 : lo < hi) (h2 : hi ≤ sz) (h3 : sz ≤ 67108864) :
    (Instr.slice 28 (.slice (some ⟨sb, 0, none⟩) sz sz) (some (.int .i64 (lo : Int))) (some (.int .i64 (hi : Int))) none).run Try.prog w = .ok (.slice (some ⟨sb, lo, none⟩) (hi - lo) (sz - lo)) w := by
  have := run_slice_lh (P := Try.prog) w 28 (some ⟨sb, 0, none⟩) sz sz u8_elem .i64 .i64 lo hi (by omega) (by omega) (by omega)
  rw [this, u8_sizeOf]
  simp [Result.andThen, sliced, show ¬ sz = lo by omega, add_row]
set_option maxRecDepth 20000 in
set_option maxHeartbeats 2000000 in
theorem place_any (w : World) (F : Nat → Prop) (r : Raw) (S : PS) (n : Nat) (hn : n < S.np) (h : PlRaw w F r S) : Calls Try.prog 38 #[plPtr r, .int .i64 (n : Int)] w fun e w' => e = .returned (.slice (some ⟨r.sb, n * S.page, none⟩) S.page (S.sz - n * S.page)) ∧ ∃ m, w' = w.drewN m := by
  have c0 := h.c0
  have c1 := h.c1
  obtain ⟨lo, hlo⟩ : ∃ lo, lo = n * S.page := ⟨_, rfl⟩
  obtain ⟨hi, hhi⟩ : ∃ hi, hi = (n + 1) * S.page := ⟨_, rfl⟩
  have e1 : (n : Int) * (S.page : Int) = (lo : Int) := by rw [hlo]; push_cast; rfl
  have e2 : ((n : Int) + 1) * (S.page : Int) = (hi : Int) := by rw [hhi]; push_cast; rfl
  have hh : hi = lo + S.page := by rw [hhi, hlo, Nat.add_mul, Nat.one_mul]
  have hp1 := h.ok.p1
  have hp2 := h.ok.p2
  have hle : hi ≤ S.sz := by rw [hhi, h.ok.sn, Nat.mul_comm S.page]; exact Nat.mul_le_mul_right _ hn
  have hpn := h.ok.pn
  have q := fun w => run_place w r.sb lo hi S.sz (by omega) hle hpn
  have hnp := h.ok.n2
  have HH := Lib.hid hh
  rw [← hlo]
  have b1 : (lo : Int) ≤ 67108864 := by omega
  have b2 : (hi : Int) ≤ 67108864 := by omega
  clear hlo hhi hh
  unfold plPtr
  go_enter Try.func38, Try.ntmps38
  go_upto_region 1 with (fail)
  go_quiet (fail)
  go_wp2_with fail
  go_ret
  have := HH.out
  rw [show hi - lo = S.page by omega]
  exact ⟨rfl, _, rfl⟩
theorem run_clear {w : World} {mb : Nat} {ws : List (Nat × List UInt8)} (h : MapAt w mb ws) (ty : TypeId) : ∃ w', (Builtin.clear_ #[62] ty #[.map (some mb)]).run Try.prog w = .ok (.tuple #[]) w' ∧ MapAt w' mb [] ∧ w.grownBy w' (some mb) := by
  obtain ⟨D, ⟨es, clock, hb, F, hs, hD⟩, hl⟩ := h
  refine ⟨setBlock w mb (.map #[] clock), ?_, ⟨.map [], ⟨#[], clock, heap_setBlock_same hb _, ⟨by simp, stamped_empty _, by simp⟩, Nat.le_refl _, rfl⟩, LastD.nil⟩, ⟨rfl, rfl, rfl, by simp [setBlock], fun i _ hi => heap_setBlock_other hb _ (fun e => hi (by rw [e]))⟩⟩
  simp [Builtin.clear_, run_underlying Try.underlying62, MapKept.run_getObj_map hb, MapKept.run_setObj_map _ hb, Result.andThen]
  rfl
section
variable {w : World} {ops : Array Oper} {rest : List Oper} {o : Oper} {a : Act} {Q : Exit → Act → World → Prop}
theorem wp_clear (hgd : o.guard = none) (m : Operand) (ho : o.op = .call { callee := .builtin .clear, args := #[m], argTypes := #[62] }) (mb : Nat) (ws : List (Nat × List UInt8)) (hm : a.eval m = .map (some mb)) (hw : MapAt w mb ws)
    (h : ∀ w', MapAt w' mb [] → w.grownBy w' (some mb) → wpList Try.prog ops Q rest (a.put o.dst (.tuple #[])) w') : wpList Try.prog ops Q (o :: rest) a w := by
  refine wpList_plain hgd fun K hK => ?_
  obtain ⟨w', hr, h1, h2⟩ := run_clear hw o.type
  unfold Oper.wp
  simp [execOp, ho, resolve, invoke, builtin, hm, hr, Result.andThen]
  exact hK _ _ (h _ h1 h2)
theorem at_clear {d : Option Tmp} {x : Operand} {t ty : TypeId} {pos : String} {af : Array Edge} {gd : Option (Nat × Bool)}
    (h : wpList Try.prog ops Q ({ dst := d, op := Op.call { callee := Callee.builtin Builtin.clear, args := #[x], argTypes := #[t] }, type := ty, pos := pos, after := af, guard := gd } :: rest) a w) :
    wpList Try.prog ops Q ({ dst := d, op := Op.call { callee := Callee.builtin Builtin.clear, args := #[x], argTypes := #[t] }, type := ty, pos := pos, after := af, guard := gd } :: rest) a w := h
end
def Raw.settled (r : Raw) : Raw := { r with vl := .slice none 0 0, dv := [] }
theorem PlRaw.settle {w w1 w' : World} {F : Nat → Prop} {r : Raw} {S : PS} (h : PlRaw w F r S) (hb : OBlk w1 r.pb 66 (plCells r.settled { S with wild := [] })) (hg : w.grownBy w1 (some r.pb)) (hm : MapAt w' r.mb []) (hg2 : w1.grownBy w' (some r.mb)) : PlRaw w' F r.settled { S with wild := [] } := by
  have hmp : r.mb ≠ r.pb := h.map.ne h.blk
  have hm1 : MapAt w1 r.mb S.wild := h.map.heap (hg.block _ h.map.lt (fun e => hmp (Option.some.inj e)))
  have hs1 : OBlk w1 r.sb 5 (bvs S.pg.flatten) := h.safe.grown hg (fun e => h.safe.ne h.blk (by decide) (Option.some.inj e))
  have hk1 : Own w1 0 3 1 r.vk S.keep.length (S.keep.map (Value.int .i64)) := h.keep.grown hg (fun g hg' e => h.keep.ne_T h.blk (by decide) (by rw [hg', e]))
  exact { ok := { h.ok with we := by simp }
          blk := hb.grown hg2 (fun e => hmp (Option.some.inj e).symm)
          safe := hs1.grown hg2 (fun e => hm1.ne hs1 (Option.some.inj e).symm)
          loose := Own.nil _ _ _ _
          dlen := rfl
          data := fun i hi => by simp at hi
          map := hm
          keep := hk1.grown hg2 (fun g hg' e => hk1.ne_map hm1 (by rw [hg', e]))
          fp := h.fp, fs := h.fs, fm := h.fm, fl := fun g hg' => by simp [Raw.settled, Value.ownBlock] at hg', fk := h.fk
          lt := fun k hk => Nat.lt_of_lt_of_le (h.lt k hk) (Nat.le_trans hg.size hg2.size) }
set_option maxRecDepth 20000 in
set_option maxHeartbeats 2000000 in
theorem settle_any (w : World) (F : Nat → Prop) (r : Raw) (S : PS) (h : PlRaw w F r S) : Calls Try.prog 39 #[plPtr r] w fun e w' => (∃ v, e = .returned v) ∧ PlRaw w' F r.settled { S with wild := [] } ∧ Turn F w w' := by
  have c2 := h.c2
  have f2 := h.fz (j := 2) (by decide)
  have c3 := h.c3
  have hmp : r.mb ≠ r.pb := h.map.ne h.blk
  have hg := grownBy_setCell w ⟨r.pb, 2, none⟩ (.slice none 0 0)
  have hm1 : MapAt (w.setCell ⟨r.pb, 2, none⟩ (.slice none 0 0)) r.mb S.wild := h.map.heap (hg.block _ h.map.lt (fun e => hmp (Option.some.inj e)))
  have hb1 : OBlk (w.setCell ⟨r.pb, 2, none⟩ (.slice none 0 0)) r.pb 66 (plCells r.settled { S with wild := [] }) := h.blk.set 2 _
  unfold plPtr
  go_enter Try.func39, Try.ntmps39
  go_wp2_with (first
    | ((with_reducible refine at_clear ?_); refine wp_clear rfl (.tmp 8) rfl r.mb _ rfl hm1 ?_; intro w2 hm2 hg2)
    | fail)
  refine bodyPost_end (results_none rfl _ _ _) rfl ?_
  exact ⟨⟨_, rfl⟩, h.settle hb1 hg hm2 hg2, (Turn.of_grown hg (fun k e => by cases e; exact h.fp)).grown hg2 (fun k e => by cases e; exact .inl h.fm)⟩
end Go.Proofs.Ytipjngoenklioaa
