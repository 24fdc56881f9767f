/- Texts joined: espalierlaw03.pair.load; espalierlaw03.pair.play -/
import Derived.Test.YtipjngoenklioaaG8
import Derived.Test.YtipjngoenklioaaG9
-- espalierlaw03.pair.load: the walk.
namespace Go.Proofs.Ytipjngoenklioaa
open Go.RowKit
/-- Other devices come into the pair. -/
theorem PairAt.swap {w w' : World} {T : Nat → Prop} {xb : Nat} {r r' : Raw} {q q' : RRaw} {S S2 S' : PS} {D R D' R' : Nat → Prop} {cv wv : Value} {cs : List Value} {ls : List LW} (h : PairAt w T xb r q S S2 D R cv cs wv ls)
    (ht : Turn (fun b => b = xb) w w') (hd : PlRaw w' D' r' S') (hr : RfAt w' R' q' S') (hD : ∀ b, D' b → w.heap.size ≤ b) (hR : ∀ b, R' b → w.heap.size ≤ b) (hDR : ∀ b, D' b → ¬ R' b) (hb : OBlk w' xb 55 [plPtr r', rfPtr q', cv, wv]) :
    PairAt w' (fun b => T b ∨ D' b ∨ R' b) xb r' q' S' S' D' R' cv cs wv ls ∧ Step T w (fun b => T b ∨ D' b ∨ R' b) w' := by
  have hO : ∀ b, OO xb cv wv cs b → b < w.heap.size := fun b hb => h.lt b (h.tO b hb)
  have key : ∀ {b0 : Nat} {A : TypeId} {size n : Nat} {v : Value} {xs : List Value}, Own w b0 A size v n xs → A ≠ 55 → Own w' b0 A size v n xs := fun {b0 A size n v xs} hv hA => Own.heap hv fun g hg => ht.block g (Own.lt hv g hg).2 (fun e => by
    have e' : g = xb := e
    subst e'
    exact hv.ne_Tb h.blk hA (by rw [hg]))
  refine ⟨⟨hd, hr, hb, key h.came (by decide), key h.want (by decide), h.len, fun j u hj => key (h.each j u hj) (by decide), h.apart, fun b hb => ⟨hDR b hb, fun ho => ?_⟩, fun b hb ho => ?_, fun b hb => .inr (.inl hb), fun b hb => .inr (.inr hb), fun b hb => .inl (h.tO b hb), fun b hb => ?_⟩, ht.mono (fun b hb => ?_), fun b hb => ?_⟩
  · have := hO b ho; have := hD b hb; omega
  · have := hO b ho; have := hR b hb; omega
  · rcases hb with hb | hb | hb
    · exact Nat.lt_of_lt_of_le (h.lt b hb) ht.size
    · exact hd.lt b hb
    · exact hr.lt b hb
  · have : b = xb := hb
    subst this
    exact h.tO _ (.inl rfl)
  · rcases hb with hb | hb | hb
    · exact .inl hb
    · exact .inr (hD b hb)
    · exact .inr (hR b hb)
theorem lent_rd {w : World} {b0 g m : Nat} {bl : List UInt8} (h : OwB w b0 (.slice (some ⟨g, 0, none⟩) (m + 9) (m + 9)) (bl ++ marks9)) (hl : bl.length = m) : RdB w (.slice (some ⟨g, 0, none⟩) m (m + 9)) bl := by
  have h1 := OwB.take h (m := m) (by omega)
  rw [List.take_left' hl] at h1
  exact h1.rd
def LoadS (S S' : PS) : Prop := S' = S ∨ S'.wild = []
def LoadMid (w : World) (u : Value) (wx : World) : Prop := ∃ (g m c : Nat) (bl : List UInt8), u = .slice (some ⟨g, 0, none⟩) m c ∧ bl.length = m ∧ m ≤ 200000000 ∧ RdB wx (.slice (some ⟨g, 0, none⟩) m c) bl ∧ g < wx.heap.size ∧ Below w.heap.size w wx
set_option maxRecDepth 100000 in
set_option maxHeartbeats 8000000 in
theorem load_any (w : World) (T : Nat → Prop) (xb : Nat) (r : Raw) (q : RRaw) (S : PS) (D R : Nat → Prop) (cv : Value) (cs : List Value) (wv : Value) (ls : List LW) (n : Int) (hn : i64r n) (h : PairAt w T xb r q S S D R cv cs wv ls) :
    Calls Try.prog 51 #[pairV xb, .int .i64 n] w fun e w' => e = .returned (.bool true) ∧ ∃ S', LoadS S S' ∧ PairStep w T xb S' cv cs wv ls w' := by
  have hp1 := h.ref.ok.p1
  have hp2 := h.ref.ok.p2
  have hpn := h.ref.ok.pn
  have hsn := h.ref.ok.sn
  have hn1 := h.ref.ok.n1
  have hfl : S.pg.flatten.length = S.sz := by rw [flat_len h.ref.ok.pe, h.ref.ok.pl, h.ref.ok.sn]
  have hsz : 2048 ≤ S.sz := by
    rw [hsn]
    exact Nat.mul_le_mul hp1 hn1
  obtain ⟨hn3, hn4⟩ : -9223372036854775808 ≤ n ∧ n ≤ 9223372036854775807 := hn
  have HFL := Lib.hid hfl
  have HH := Lib.hid h
  have hsf := RSafe_any w R q S h.ref
  have c1 := h.blk.cell' (j := 1) rfl
  unfold rfPtr at hsf
  have hxb := h.blk.lt
  clear h hfl
  have hHq : ∀ W, Below w.heap.size w W → (Calls Try.prog 29 #[.pointer (some ⟨q.pb, 0, none⟩)] W fun e w' => e = .returned (.int .i64 (S.page : Int)) ∧ W = w') ∧ W.cell? ⟨xb, 1, none⟩ = some (.pointer (some ⟨q.pb, 0, none⟩)) := fun W hW => ⟨RPage_any W R q S (HH.out.ref.below hW), (HH.out.blk.below hW hxb).cell' (j := 1) rfl⟩
  have hHq : ∀ W, Below w.heap.size w W → (Calls Try.prog 29 #[.pointer (some ⟨q.pb, 0, none⟩)] W fun e w' => e = .returned (.int .i64 (S.page : Int)) ∧ W = w') ∧ W.cell? ⟨xb, 1, none⟩ = some (.pointer (some ⟨q.pb, 0, none⟩)) := fun W hW => ⟨RPage_any W R q S (HH.out.ref.below hW), (HH.out.blk.below hW hxb).cell' (j := 1) rfl⟩
  have hHq : ∀ W, Below w.heap.size w W → (Calls Try.prog 29 #[.pointer (some ⟨q.pb, 0, none⟩)] W fun e w' => e = .returned (.int .i64 (S.page : Int)) ∧ W = w') ∧ W.cell? ⟨xb, 1, none⟩ = some (.pointer (some ⟨q.pb, 0, none⟩)) := fun W hW => ⟨RPage_any W R q S (HH.out.ref.below hW), (HH.out.blk.below hW hxb).cell' (j := 1) rfl⟩
  have hHq : ∀ W, Below w.heap.size w W → (Calls Try.prog 29 #[.pointer (some ⟨q.pb, 0, none⟩)] W fun e w' => e = .returned (.int .i64 (S.page : Int)) ∧ W = w') ∧ W.cell? ⟨xb, 1, none⟩ = some (.pointer (some ⟨q.pb, 0, none⟩)) := fun W hW => ⟨RPage_any W R q S (HH.out.ref.below hW), (HH.out.blk.below hW hxb).cell' (j := 1) rfl⟩
  have hHq : ∀ W, Below w.heap.size w W → (Calls Try.prog 29 #[.pointer (some ⟨q.pb, 0, none⟩)] W fun e w' => e = .returned (.int .i64 (S.page : Int)) ∧ W = w') ∧ W.cell? ⟨xb, 1, none⟩ = some (.pointer (some ⟨q.pb, 0, none⟩)) := fun W hW => ⟨RPage_any W R q S (HH.out.ref.below hW), (HH.out.blk.below hW hxb).cell' (j := 1) rfl⟩
  unfold pairV
  go_enter Try.func51, Try.ntmps51
  rcases Int.lt_trichotomy n 0 with hneg | rfl | hpos
  · by_cases h4 : -4 < n
    · obtain ⟨k, hk⟩ := Int.eq_ofNat_of_zero_le (show 0 ≤ -n by omega)
      obtain rfl : n = -(k : Int) := by omega
      obtain ⟨z, hz⟩ : ∃ z, z = k * S.page := ⟨_, rfl⟩
      have e1 : (k : Int) * (S.page : Int) = (z : Int) := by rw [hz]; push_cast; rfl
      have e2 : -(k : Int) * (S.page : Int) = -(z : Int) := by rw [Int.neg_mul, e1]
      have hz4 : z ≤ S.sz := by rw [hz, hsn, Nat.mul_comm]; exact Nat.mul_le_mul_left _ (by omega)
      obtain ⟨y, hy⟩ : ∃ y, S.sz = z + y := ⟨S.sz - z, by omega⟩
      have e3 : (S.sz : Int) + -(z : Int) = (y : Int) := by omega
      have e4 : (z : Int) ≤ (S.sz : Int) := by omega
      have hyl : y ≤ S.pg.flatten.length := by rw [HFL.out]; omega
      have hyl2 : y ≤ S.sz := by omega
      have HHQ := Lib.hid hHq
      have j1 : (0 : Int) < (k : Int) := by omega
      have j2 : (k : Int) < 4 := by omega
      clear hz hHq hk hy hneg h4 hn3 hn4 hsn
      go_upto_region 4 with (first
        | (go_at_call 50; refine hsf.mono ?_; rintro e w1 ⟨v1, rfl, ho1, hb1⟩; obtain ⟨g1, cp1, hv1⟩ := ho1.some' HFL.out (by omega); subst hv1)
        | fail)
      obtain ⟨hpgq, c1q⟩ := HHQ.out _ hb1
      have hrd := (OwB.take ho1 hyl2).rd
      obtain ⟨-, ocap1, ocap2⟩ := ho1.rd.cap
      rw [HFL.out] at ocap1
      have oc3 : y ≤ cp1 := by omega
      have oc4 : (y : Int) ≤ (cp1 : Int) := by omega
      clear c1 hsf
      go_upto_region 6 with (first
        | (go_at_call 29; refine hpgq.mono ?_; rintro e w2 ⟨rfl, rfl⟩)
        | fail)
      have hlz : (S.pg.flatten.take y).length = y := by rw [List.length_take, HFL.out]; omega
      have hrb := hrd
      have hgl := (Own.lt ho1 g1 rfl).2
      have HLN := Lib.hid hlz
      have hbm := hb1
      have hmb : y ≤ 200000000 := by omega
      clear ho1 hb1 hlz e1 e2 e3 hpgq c1q hrd
      generalize S.pg.flatten.take y = bl at *
      generalize y = m at *
      generalize w1 = wm at *
      have hRm := HH.out.ref.below hbm
      have hPm := HH.out.below hbm
      have c1 := hPm.blk.cell' (j := 1) rfl
      have hxm := hPm.blk.lt
      have hT1 := HH.out.tO xb (.inl rfl)
      obtain ⟨lb, hlb⟩ : ∃ lb, lb = bl.length := ⟨_, rfl⟩
      have hln := Lent_any _ bl wm hrb (by rw [HLN.out]; omega)
      rw [HLN.out] at hln
      have HRB := Lib.hid hrb
      clear hlb
      go_wp2_with fail
      refine hln.mono ?_
      rintro e w2 ⟨g2, rfl, ho2, hb2⟩
      have hB2 := hbm.trans (hb2.mono hbm.size)
      have hPg := fun W (hW : Below wm.heap.size wm W) => RPage_any W R q S (hRm.below hW)
      unfold rfPtr at hPg
      have HPG := Lib.hid hPg
      have c1' := (hPm.below hb2).blk.cell' (j := 1) rfl
      have hr2 : RdB w2 (.slice (some ⟨g2, 0, none⟩) m (m + 9)) bl := lent_rd ho2 HLN.out
      have hg2 := (Own.lt ho2 g2 rfl)
      have hrb2 := hrb.below hb2 (Nat.le_refl _)
      clear hln hPg c1
      by_cases hlo : LoadOk (S.page : Int) bl
      · obtain ⟨s, j, hs, hlj, hdv⟩ := hlo.nat
        obtain rfl : s = S.page := by omega
        have HDV := Lib.hid hdv
        have HLJ := Lib.hid hlj
        clear hlo hs hdv hlj
        go_wp2_with (first
          | (go_at_call 29; refine (HPG.out _ hb2).mono ?_; rintro e w3 ⟨rfl, rfl⟩)
          | (go_at_call 22; refine (Load_ok S.page j HDV.out _ bl HLJ.out _ hr2).mono ?_; rintro e w4 ⟨r4, D4, rfl, hP4, hD4, hb4⟩)
          | fail)
        unfold plPtr
        have ho4 := ho2.below2 hb4
        have hrb4 := hrb2.below hb4 (Nat.le_refl _)
        go_wp2_with fail
        refine (AsLent_any g2 m _ bl wm.heap.size _ HLN.out ho4 hrb4 (by omega)).mono ?_
        rintro e w5 ⟨rfl, hg5⟩
        have hP5 : PlRaw w5 D4 r4 (SL S.page j bl) := hP4.turn (Turn.of_grown (F := fun k => k = g2) hg5 (fun k e => (Option.some.inj e).symm)) (fun k hf e => by have := hD4 k hf; have : k = g2 := e; omega)
        have hb25 : Below wm.heap.size wm w5 := ((hb2.trans (hb4.mono hb2.size))).grown hg5 (Nat.le_trans hb2.size hb4.size) (fun k e => by cases e; exact hg2.1)
        have hrb5 := HRB.out.below hb25 (Nat.le_refl _)
        have hPm5 := hPm.below hb25
        have hz25 := hb2.size
        have hz45 := hb4.size
        have hz55 := hg5.size
        have c5 := hPm5.blk.cell' (j := 1) rfl
        clear hr2 hrb2 ho2 hrb4 ho4 hP4 c1' hb4 hg5
        go_upto_region 10 with (first
          | (go_at_call 29; refine (HPG.out _ hb25).mono ?_; rintro e w6 ⟨rfl, rfl⟩)
          | (go_at_call 24; refine (RLoad_ok S.page j HDV.out _ bl HLJ.out _ hrb5).mono ?_; rintro e w7 ⟨q7, R7, rfl, hR7, hR7w, hb7⟩)
          | fail)
        unfold rfPtr
        have hP7 := hP5.below hb7
        have hPm7 := hPm5.below hb7
        have f0 := hPm7.blk.frozen (j := 0) (by simp)
        have f1 := hPm7.blk.frozen (j := 1) (by simp)
        have c0 := hPm7.blk.cell' (j := 0) rfl
        have c1 := hPm7.blk.cell' (j := 1) rfl
        have hset := (hPm7.blk.set 0 (plPtr r4)).set 1 (rfPtr q7)
        have hb57 := hb25.trans (hb7.mono hb25.size)
        have hg1' := grownBy_setCell w7 ⟨xb, 0, none⟩ (plPtr r4)
        have hg2' := grownBy_setCell (w7.setCell ⟨xb, 0, none⟩ (plPtr r4)) ⟨xb, 1, none⟩ (rfPtr q7)
        have hBw := hbm.trans (hb57.mono hbm.size)
        have hTx : Turn (fun b => b = xb) w ((w7.setCell ⟨xb, 0, none⟩ (plPtr r4)).setCell ⟨xb, 1, none⟩ (rfPtr q7)) := ((Turn.of_below hBw).grown hg1' (fun b e => by cases e; exact .inl rfl)).grown hg2' (fun b e => by cases e; exact .inl rfl)
        have hTx' : Turn (fun b => b = xb) w7 ((w7.setCell ⟨xb, 0, none⟩ (plPtr r4)).setCell ⟨xb, 1, none⟩ (rfPtr q7)) := (Turn.of_grown hg1' (fun b e => by cases e; rfl)).grown hg2' (fun b e => by cases e; exact .inl rfl)
        have hxw : xb < w.heap.size := HH.out.blk.lt
        have hzm := hbm.size
        have hz7 := hb7.size
        have hPf := hP7.turn hTx' (fun k hk e => by have := hD4 k hk; have : k = xb := e; omega)
        have hRf := hR7.turn hTx' (fun k hk e => by have := hR7w k hk; have : k = xb := e; omega)
        have hsw := HH.out.swap hTx hPf hRf (fun b hb => by have := hD4 b hb; omega) (fun b hb => by have := hR7w b hb; omega) (fun b hb hb' => by have := hP5.lt b hb; have := hR7w b hb'; omega) hset
        have HSW := Lib.hid hsw
        clear hsw hset hPf hRf hTx hTx' hg1' hg2' hPm7 hPm5 hP7 hP5 hR7 hBw hb57 hb7 hb25 hrb5 c5 hRm hPm
        unfold plPtr rfPtr at HSW
        go_wp2_with fail
        go_ret
        exact ⟨rfl, SL S.page j bl, .inr rfl, _, r4, q7, D4, R7, HSW.out.1, HSW.out.2⟩
      · have hno := LoadOk.not hlo
        have HNO := Lib.hid hno
        have hpi : -9223372036854775808 ≤ (S.page : Int) ∧ (S.page : Int) ≤ 9223372036854775807 := by omega
        clear hlo hno
        go_wp2_with (first
          | (go_at_call 29; refine (HPG.out _ hb2).mono ?_; rintro e w3 ⟨rfl, rfl⟩)
          | (go_at_call 22; refine (Load_bad (S.page : Int) hpi _ bl HNO.out _ hr2).mono ?_; rintro e w4 ⟨rfl, rfl⟩)
          | fail)
        go_wp2_with fail
        refine (AsLent_any g2 m _ bl wm.heap.size _ HLN.out ho2 hrb2 (by omega)).mono ?_
        rintro e w5 ⟨rfl, hg5⟩
        have hb25 : Below wm.heap.size wm w5 := hb2.grown hg5 hb2.size (fun k e => by cases e; exact hg2.1)
        have hrb5 := HRB.out.below hb25 (Nat.le_refl _)
        have hPm5 := hPm.below hb25
        have c5 := hPm5.blk.cell' (j := 1) rfl
        have hb5w := hbm.trans (hb25.mono hbm.size)
        clear hr2 hrb2 ho2 c1' hg5
        go_wp2_with (first
          | (go_at_call 29; refine (HPG.out _ hb25).mono ?_; rintro e w6 ⟨rfl, rfl⟩)
          | (go_at_call 24; refine (RLoad_bad (S.page : Int) hpi _ bl HNO.out _ hrb5).mono ?_; rintro e w7 ⟨rfl, rfl⟩)
          | fail)
        go_ret
        exact ⟨rfl, S, .inl rfl, T, r, q, D, R, hPm5, Turn.of_below hb5w, fun b hb => .inl hb⟩
    · clear hHq hsn
      go_upto_region 6 with (first
        | (go_at_call 50; refine hsf.mono ?_; rintro e w1 ⟨v1, rfl, ho1, hb1⟩; obtain ⟨g1, cp1, hv1⟩ := ho1.some' HFL.out (by omega); subst hv1)
        | fail)
      have hrb := OwB.rd ho1
      have hgl := (Own.lt ho1 g1 rfl).2
      have HLN := HFL
      have hbm := hb1
      have hmb : S.sz ≤ 200000000 := by omega
      clear hsf c1 ho1 hb1
      generalize S.pg.flatten = bl at *
      generalize hm : S.sz = m at *
      clear hm
      generalize w1 = wm at *
      have hRm := HH.out.ref.below hbm
      have hPm := HH.out.below hbm
      have c1 := hPm.blk.cell' (j := 1) rfl
      have hxm := hPm.blk.lt
      have hT1 := HH.out.tO xb (.inl rfl)
      obtain ⟨lb, hlb⟩ : ∃ lb, lb = bl.length := ⟨_, rfl⟩
      have hln := Lent_any _ bl wm hrb (by rw [HLN.out]; omega)
      rw [HLN.out] at hln
      have HRB := Lib.hid hrb
      clear hlb
      go_wp2_with fail
      refine hln.mono ?_
      rintro e w2 ⟨g2, rfl, ho2, hb2⟩
      have hB2 := hbm.trans (hb2.mono hbm.size)
      have hPg := fun W (hW : Below wm.heap.size wm W) => RPage_any W R q S (hRm.below hW)
      unfold rfPtr at hPg
      have HPG := Lib.hid hPg
      have c1' := (hPm.below hb2).blk.cell' (j := 1) rfl
      have hr2 : RdB w2 (.slice (some ⟨g2, 0, none⟩) m (m + 9)) bl := lent_rd ho2 HLN.out
      have hg2 := (Own.lt ho2 g2 rfl)
      have hrb2 := hrb.below hb2 (Nat.le_refl _)
      clear hln hPg c1
      by_cases hlo : LoadOk (S.page : Int) bl
      · obtain ⟨s, j, hs, hlj, hdv⟩ := hlo.nat
        obtain rfl : s = S.page := by omega
        have HDV := Lib.hid hdv
        have HLJ := Lib.hid hlj
        clear hlo hs hdv hlj
        go_wp2_with (first
          | (go_at_call 29; refine (HPG.out _ hb2).mono ?_; rintro e w3 ⟨rfl, rfl⟩)
          | (go_at_call 22; refine (Load_ok S.page j HDV.out _ bl HLJ.out _ hr2).mono ?_; rintro e w4 ⟨r4, D4, rfl, hP4, hD4, hb4⟩)
          | fail)
        unfold plPtr
        have ho4 := ho2.below2 hb4
        have hrb4 := hrb2.below hb4 (Nat.le_refl _)
        go_wp2_with fail
        refine (AsLent_any g2 m _ bl wm.heap.size _ HLN.out ho4 hrb4 (by omega)).mono ?_
        rintro e w5 ⟨rfl, hg5⟩
        have hP5 : PlRaw w5 D4 r4 (SL S.page j bl) := hP4.turn (Turn.of_grown (F := fun k => k = g2) hg5 (fun k e => (Option.some.inj e).symm)) (fun k hf e => by have := hD4 k hf; have : k = g2 := e; omega)
        have hb25 : Below wm.heap.size wm w5 := ((hb2.trans (hb4.mono hb2.size))).grown hg5 (Nat.le_trans hb2.size hb4.size) (fun k e => by cases e; exact hg2.1)
        have hrb5 := HRB.out.below hb25 (Nat.le_refl _)
        have hPm5 := hPm.below hb25
        have hz25 := hb2.size
        have hz45 := hb4.size
        have hz55 := hg5.size
        have c5 := hPm5.blk.cell' (j := 1) rfl
        clear hr2 hrb2 ho2 hrb4 ho4 hP4 c1' hb4 hg5
        go_upto_region 10 with (first
          | (go_at_call 29; refine (HPG.out _ hb25).mono ?_; rintro e w6 ⟨rfl, rfl⟩)
          | (go_at_call 24; refine (RLoad_ok S.page j HDV.out _ bl HLJ.out _ hrb5).mono ?_; rintro e w7 ⟨q7, R7, rfl, hR7, hR7w, hb7⟩)
          | fail)
        unfold rfPtr
        have hP7 := hP5.below hb7
        have hPm7 := hPm5.below hb7
        have f0 := hPm7.blk.frozen (j := 0) (by simp)
        have f1 := hPm7.blk.frozen (j := 1) (by simp)
        have c0 := hPm7.blk.cell' (j := 0) rfl
        have c1 := hPm7.blk.cell' (j := 1) rfl
        have hset := (hPm7.blk.set 0 (plPtr r4)).set 1 (rfPtr q7)
        have hb57 := hb25.trans (hb7.mono hb25.size)
        have hg1' := grownBy_setCell w7 ⟨xb, 0, none⟩ (plPtr r4)
        have hg2' := grownBy_setCell (w7.setCell ⟨xb, 0, none⟩ (plPtr r4)) ⟨xb, 1, none⟩ (rfPtr q7)
        have hBw := hbm.trans (hb57.mono hbm.size)
        have hTx : Turn (fun b => b = xb) w ((w7.setCell ⟨xb, 0, none⟩ (plPtr r4)).setCell ⟨xb, 1, none⟩ (rfPtr q7)) := ((Turn.of_below hBw).grown hg1' (fun b e => by cases e; exact .inl rfl)).grown hg2' (fun b e => by cases e; exact .inl rfl)
        have hTx' : Turn (fun b => b = xb) w7 ((w7.setCell ⟨xb, 0, none⟩ (plPtr r4)).setCell ⟨xb, 1, none⟩ (rfPtr q7)) := (Turn.of_grown hg1' (fun b e => by cases e; rfl)).grown hg2' (fun b e => by cases e; exact .inl rfl)
        have hxw : xb < w.heap.size := HH.out.blk.lt
        have hzm := hbm.size
        have hz7 := hb7.size
        have hPf := hP7.turn hTx' (fun k hk e => by have := hD4 k hk; have : k = xb := e; omega)
        have hRf := hR7.turn hTx' (fun k hk e => by have := hR7w k hk; have : k = xb := e; omega)
        have hsw := HH.out.swap hTx hPf hRf (fun b hb => by have := hD4 b hb; omega) (fun b hb => by have := hR7w b hb; omega) (fun b hb hb' => by have := hP5.lt b hb; have := hR7w b hb'; omega) hset
        have HSW := Lib.hid hsw
        clear hsw hset hPf hRf hTx hTx' hg1' hg2' hPm7 hPm5 hP7 hP5 hR7 hBw hb57 hb7 hb25 hrb5 c5 hRm hPm
        unfold plPtr rfPtr at HSW
        go_wp2_with fail
        go_ret
        exact ⟨rfl, SL S.page j bl, .inr rfl, _, r4, q7, D4, R7, HSW.out.1, HSW.out.2⟩
      · have hno := LoadOk.not hlo
        have HNO := Lib.hid hno
        have hpi : -9223372036854775808 ≤ (S.page : Int) ∧ (S.page : Int) ≤ 9223372036854775807 := by omega
        clear hlo hno
        go_wp2_with (first
          | (go_at_call 29; refine (HPG.out _ hb2).mono ?_; rintro e w3 ⟨rfl, rfl⟩)
          | (go_at_call 22; refine (Load_bad (S.page : Int) hpi _ bl HNO.out _ hr2).mono ?_; rintro e w4 ⟨rfl, rfl⟩)
          | fail)
        go_wp2_with fail
        refine (AsLent_any g2 m _ bl wm.heap.size _ HLN.out ho2 hrb2 (by omega)).mono ?_
        rintro e w5 ⟨rfl, hg5⟩
        have hb25 : Below wm.heap.size wm w5 := hb2.grown hg5 hb2.size (fun k e => by cases e; exact hg2.1)
        have hrb5 := HRB.out.below hb25 (Nat.le_refl _)
        have hPm5 := hPm.below hb25
        have c5 := hPm5.blk.cell' (j := 1) rfl
        have hb5w := hbm.trans (hb25.mono hbm.size)
        clear hr2 hrb2 ho2 c1' hg5
        go_wp2_with (first
          | (go_at_call 29; refine (HPG.out _ hb25).mono ?_; rintro e w6 ⟨rfl, rfl⟩)
          | (go_at_call 24; refine (RLoad_bad (S.page : Int) hpi _ bl HNO.out _ hrb5).mono ?_; rintro e w7 ⟨rfl, rfl⟩)
          | fail)
        go_ret
        exact ⟨rfl, S, .inl rfl, T, r, q, D, R, hPm5, Turn.of_below hb5w, fun b hb => .inl hb⟩
  · clear hHq hsn
    go_upto_region 6 with (first
      | (go_at_call 50; refine hsf.mono ?_; rintro e w1 ⟨v1, rfl, ho1, hb1⟩; obtain ⟨g1, cp1, hv1⟩ := ho1.some' HFL.out (by omega); subst hv1)
      | fail)
    have hrb := OwB.rd ho1
    have hgl := (Own.lt ho1 g1 rfl).2
    have HLN := HFL
    have hbm := hb1
    have hmb : S.sz ≤ 200000000 := by omega
    clear hsf c1 ho1 hb1
    generalize S.pg.flatten = bl at *
    generalize hm : S.sz = m at *
    clear hm
    generalize w1 = wm at *
    have hRm := HH.out.ref.below hbm
    have hPm := HH.out.below hbm
    have c1 := hPm.blk.cell' (j := 1) rfl
    have hxm := hPm.blk.lt
    have hT1 := HH.out.tO xb (.inl rfl)
    obtain ⟨lb, hlb⟩ : ∃ lb, lb = bl.length := ⟨_, rfl⟩
    have hln := Lent_any _ bl wm hrb (by rw [HLN.out]; omega)
    rw [HLN.out] at hln
    have HRB := Lib.hid hrb
    clear hlb
    go_wp2_with fail
    refine hln.mono ?_
    rintro e w2 ⟨g2, rfl, ho2, hb2⟩
    have hB2 := hbm.trans (hb2.mono hbm.size)
    have hPg := fun W (hW : Below wm.heap.size wm W) => RPage_any W R q S (hRm.below hW)
    unfold rfPtr at hPg
    have HPG := Lib.hid hPg
    have c1' := (hPm.below hb2).blk.cell' (j := 1) rfl
    have hr2 : RdB w2 (.slice (some ⟨g2, 0, none⟩) m (m + 9)) bl := lent_rd ho2 HLN.out
    have hg2 := (Own.lt ho2 g2 rfl)
    have hrb2 := hrb.below hb2 (Nat.le_refl _)
    clear hln hPg c1
    by_cases hlo : LoadOk (S.page : Int) bl
    · obtain ⟨s, j, hs, hlj, hdv⟩ := hlo.nat
      obtain rfl : s = S.page := by omega
      have HDV := Lib.hid hdv
      have HLJ := Lib.hid hlj
      clear hlo hs hdv hlj
      go_wp2_with (first
        | (go_at_call 29; refine (HPG.out _ hb2).mono ?_; rintro e w3 ⟨rfl, rfl⟩)
        | (go_at_call 22; refine (Load_ok S.page j HDV.out _ bl HLJ.out _ hr2).mono ?_; rintro e w4 ⟨r4, D4, rfl, hP4, hD4, hb4⟩)
        | fail)
      unfold plPtr
      have ho4 := ho2.below2 hb4
      have hrb4 := hrb2.below hb4 (Nat.le_refl _)
      go_wp2_with fail
      refine (AsLent_any g2 m _ bl wm.heap.size _ HLN.out ho4 hrb4 (by omega)).mono ?_
      rintro e w5 ⟨rfl, hg5⟩
      have hP5 : PlRaw w5 D4 r4 (SL S.page j bl) := hP4.turn (Turn.of_grown (F := fun k => k = g2) hg5 (fun k e => (Option.some.inj e).symm)) (fun k hf e => by have := hD4 k hf; have : k = g2 := e; omega)
      have hb25 : Below wm.heap.size wm w5 := ((hb2.trans (hb4.mono hb2.size))).grown hg5 (Nat.le_trans hb2.size hb4.size) (fun k e => by cases e; exact hg2.1)
      have hrb5 := HRB.out.below hb25 (Nat.le_refl _)
      have hPm5 := hPm.below hb25
      have hz25 := hb2.size
      have hz45 := hb4.size
      have hz55 := hg5.size
      have c5 := hPm5.blk.cell' (j := 1) rfl
      clear hr2 hrb2 ho2 hrb4 ho4 hP4 c1' hb4 hg5
      go_upto_region 10 with (first
        | (go_at_call 29; refine (HPG.out _ hb25).mono ?_; rintro e w6 ⟨rfl, rfl⟩)
        | (go_at_call 24; refine (RLoad_ok S.page j HDV.out _ bl HLJ.out _ hrb5).mono ?_; rintro e w7 ⟨q7, R7, rfl, hR7, hR7w, hb7⟩)
        | fail)
      unfold rfPtr
      have hP7 := hP5.below hb7
      have hPm7 := hPm5.below hb7
      have f0 := hPm7.blk.frozen (j := 0) (by simp)
      have f1 := hPm7.blk.frozen (j := 1) (by simp)
      have c0 := hPm7.blk.cell' (j := 0) rfl
      have c1 := hPm7.blk.cell' (j := 1) rfl
      have hset := (hPm7.blk.set 0 (plPtr r4)).set 1 (rfPtr q7)
      have hb57 := hb25.trans (hb7.mono hb25.size)
      have hg1' := grownBy_setCell w7 ⟨xb, 0, none⟩ (plPtr r4)
      have hg2' := grownBy_setCell (w7.setCell ⟨xb, 0, none⟩ (plPtr r4)) ⟨xb, 1, none⟩ (rfPtr q7)
      have hBw := hbm.trans (hb57.mono hbm.size)
      have hTx : Turn (fun b => b = xb) w ((w7.setCell ⟨xb, 0, none⟩ (plPtr r4)).setCell ⟨xb, 1, none⟩ (rfPtr q7)) := ((Turn.of_below hBw).grown hg1' (fun b e => by cases e; exact .inl rfl)).grown hg2' (fun b e => by cases e; exact .inl rfl)
      have hTx' : Turn (fun b => b = xb) w7 ((w7.setCell ⟨xb, 0, none⟩ (plPtr r4)).setCell ⟨xb, 1, none⟩ (rfPtr q7)) := (Turn.of_grown hg1' (fun b e => by cases e; rfl)).grown hg2' (fun b e => by cases e; exact .inl rfl)
      have hxw : xb < w.heap.size := HH.out.blk.lt
      have hzm := hbm.size
      have hz7 := hb7.size
      have hPf := hP7.turn hTx' (fun k hk e => by have := hD4 k hk; have : k = xb := e; omega)
      have hRf := hR7.turn hTx' (fun k hk e => by have := hR7w k hk; have : k = xb := e; omega)
      have hsw := HH.out.swap hTx hPf hRf (fun b hb => by have := hD4 b hb; omega) (fun b hb => by have := hR7w b hb; omega) (fun b hb hb' => by have := hP5.lt b hb; have := hR7w b hb'; omega) hset
      have HSW := Lib.hid hsw
      clear hsw hset hPf hRf hTx hTx' hg1' hg2' hPm7 hPm5 hP7 hP5 hR7 hBw hb57 hb7 hb25 hrb5 c5 hRm hPm
      unfold plPtr rfPtr at HSW
      go_wp2_with fail
      go_ret
      exact ⟨rfl, SL S.page j bl, .inr rfl, _, r4, q7, D4, R7, HSW.out.1, HSW.out.2⟩
    · have hno := LoadOk.not hlo
      have HNO := Lib.hid hno
      have hpi : -9223372036854775808 ≤ (S.page : Int) ∧ (S.page : Int) ≤ 9223372036854775807 := by omega
      clear hlo hno
      go_wp2_with (first
        | (go_at_call 29; refine (HPG.out _ hb2).mono ?_; rintro e w3 ⟨rfl, rfl⟩)
        | (go_at_call 22; refine (Load_bad (S.page : Int) hpi _ bl HNO.out _ hr2).mono ?_; rintro e w4 ⟨rfl, rfl⟩)
        | fail)
      go_wp2_with fail
      refine (AsLent_any g2 m _ bl wm.heap.size _ HLN.out ho2 hrb2 (by omega)).mono ?_
      rintro e w5 ⟨rfl, hg5⟩
      have hb25 : Below wm.heap.size wm w5 := hb2.grown hg5 hb2.size (fun k e => by cases e; exact hg2.1)
      have hrb5 := HRB.out.below hb25 (Nat.le_refl _)
      have hPm5 := hPm.below hb25
      have c5 := hPm5.blk.cell' (j := 1) rfl
      have hb5w := hbm.trans (hb25.mono hbm.size)
      clear hr2 hrb2 ho2 c1' hg5
      go_wp2_with (first
        | (go_at_call 29; refine (HPG.out _ hb25).mono ?_; rintro e w6 ⟨rfl, rfl⟩)
        | (go_at_call 24; refine (RLoad_bad (S.page : Int) hpi _ bl HNO.out _ hrb5).mono ?_; rintro e w7 ⟨rfl, rfl⟩)
        | fail)
      go_ret
      exact ⟨rfl, S, .inl rfl, T, r, q, D, R, hPm5, Turn.of_below hb5w, fun b hb => .inl hb⟩
  · by_cases h5 : n < 5
    · obtain ⟨k, rfl⟩ := Int.eq_ofNat_of_zero_le (show 0 ≤ n by omega)
      obtain ⟨z, hz⟩ : ∃ z, z = k * S.page := ⟨_, rfl⟩
      have e1 : (k : Int) * (S.page : Int) = (z : Int) := by rw [hz]; push_cast; rfl
      have hz1 : z ≤ 4 * 65536 := by rw [hz]; exact Nat.mul_le_mul (by omega) (by omega)
      have hz0 : ¬ z = 0 := by rw [hz]; exact Nat.mul_ne_zero (by omega) (by omega)
      have wz : IntKind.i64.wrap (z : Int) = (z : Int) := IntWalk.i64_in _ (by omega)
      have HHQ := Lib.hid hHq
      clear hz hHq hsn
      go_upto_region 3 with (first
        | (go_at_call 50; refine hsf.mono ?_; rintro e w1 ⟨v1, rfl, ho1, hb1⟩; obtain ⟨g1, cp1, hv1⟩ := ho1.some' HFL.out (by omega); subst hv1)
        | fail)
      obtain ⟨hpgq, c1q⟩ := HHQ.out _ hb1
      clear c1 hsf
      go_upto_region 4 with (first
        | (go_at_call 29; refine hpgq.mono ?_; rintro e w2 ⟨rfl, rfl⟩)
        | (at_builtin; refine wp_append_Z rfl (.tmp 23) (.tmp 30) rfl w.heap.size _ _ rfl ho1 z hz0 _ rfl rfl (by rw [HFL.out]; omega) hb1.size ?_; intro v2 w2 ho2 hg2 hk2)
        | fail)
      have hlz : (S.pg.flatten ++ List.replicate z 0).length = S.sz + z := by rw [List.length_append, HFL.out, List.length_replicate]
      obtain ⟨g2', cp2, hv2⟩ := ho2.some' hlz (by omega)
      subst hv2
      have hb2' := hb1.grown hg2 hb1.size (fun k e => by cases e; exact (Own.lt ho1 g1 rfl).1)
      have hrb := OwB.rd ho2
      have hgl := (Own.lt ho2 g2' rfl).2
      have HLN := Lib.hid hlz
      have hbm := hb2'
      have hmb : S.sz + z ≤ 200000000 := by omega
      clear ho1 hb1 hb2' ho2 hg2 hk2 hlz e1 wz hpgq c1q
      generalize S.pg.flatten ++ List.replicate z 0 = bl at *
      generalize hm : S.sz + z = m at *
      clear hm
      generalize w2 = wm at *
      have hRm := HH.out.ref.below hbm
      have hPm := HH.out.below hbm
      have c1 := hPm.blk.cell' (j := 1) rfl
      have hxm := hPm.blk.lt
      have hT1 := HH.out.tO xb (.inl rfl)
      obtain ⟨lb, hlb⟩ : ∃ lb, lb = bl.length := ⟨_, rfl⟩
      have hln := Lent_any _ bl wm hrb (by rw [HLN.out]; omega)
      rw [HLN.out] at hln
      have HRB := Lib.hid hrb
      clear hlb
      go_wp2_with fail
      refine hln.mono ?_
      rintro e w2 ⟨g2, rfl, ho2, hb2⟩
      have hB2 := hbm.trans (hb2.mono hbm.size)
      have hPg := fun W (hW : Below wm.heap.size wm W) => RPage_any W R q S (hRm.below hW)
      unfold rfPtr at hPg
      have HPG := Lib.hid hPg
      have c1' := (hPm.below hb2).blk.cell' (j := 1) rfl
      have hr2 : RdB w2 (.slice (some ⟨g2, 0, none⟩) m (m + 9)) bl := lent_rd ho2 HLN.out
      have hg2 := (Own.lt ho2 g2 rfl)
      have hrb2 := hrb.below hb2 (Nat.le_refl _)
      clear hln hPg c1
      by_cases hlo : LoadOk (S.page : Int) bl
      · obtain ⟨s, j, hs, hlj, hdv⟩ := hlo.nat
        obtain rfl : s = S.page := by omega
        have HDV := Lib.hid hdv
        have HLJ := Lib.hid hlj
        clear hlo hs hdv hlj
        go_wp2_with (first
          | (go_at_call 29; refine (HPG.out _ hb2).mono ?_; rintro e w3 ⟨rfl, rfl⟩)
          | (go_at_call 22; refine (Load_ok S.page j HDV.out _ bl HLJ.out _ hr2).mono ?_; rintro e w4 ⟨r4, D4, rfl, hP4, hD4, hb4⟩)
          | fail)
        unfold plPtr
        have ho4 := ho2.below2 hb4
        have hrb4 := hrb2.below hb4 (Nat.le_refl _)
        go_wp2_with fail
        refine (AsLent_any g2 m _ bl wm.heap.size _ HLN.out ho4 hrb4 (by omega)).mono ?_
        rintro e w5 ⟨rfl, hg5⟩
        have hP5 : PlRaw w5 D4 r4 (SL S.page j bl) := hP4.turn (Turn.of_grown (F := fun k => k = g2) hg5 (fun k e => (Option.some.inj e).symm)) (fun k hf e => by have := hD4 k hf; have : k = g2 := e; omega)
        have hb25 : Below wm.heap.size wm w5 := ((hb2.trans (hb4.mono hb2.size))).grown hg5 (Nat.le_trans hb2.size hb4.size) (fun k e => by cases e; exact hg2.1)
        have hrb5 := HRB.out.below hb25 (Nat.le_refl _)
        have hPm5 := hPm.below hb25
        have hz25 := hb2.size
        have hz45 := hb4.size
        have hz55 := hg5.size
        have c5 := hPm5.blk.cell' (j := 1) rfl
        clear hr2 hrb2 ho2 hrb4 ho4 hP4 c1' hb4 hg5
        go_upto_region 10 with (first
          | (go_at_call 29; refine (HPG.out _ hb25).mono ?_; rintro e w6 ⟨rfl, rfl⟩)
          | (go_at_call 24; refine (RLoad_ok S.page j HDV.out _ bl HLJ.out _ hrb5).mono ?_; rintro e w7 ⟨q7, R7, rfl, hR7, hR7w, hb7⟩)
          | fail)
        unfold rfPtr
        have hP7 := hP5.below hb7
        have hPm7 := hPm5.below hb7
        have f0 := hPm7.blk.frozen (j := 0) (by simp)
        have f1 := hPm7.blk.frozen (j := 1) (by simp)
        have c0 := hPm7.blk.cell' (j := 0) rfl
        have c1 := hPm7.blk.cell' (j := 1) rfl
        have hset := (hPm7.blk.set 0 (plPtr r4)).set 1 (rfPtr q7)
        have hb57 := hb25.trans (hb7.mono hb25.size)
        have hg1' := grownBy_setCell w7 ⟨xb, 0, none⟩ (plPtr r4)
        have hg2' := grownBy_setCell (w7.setCell ⟨xb, 0, none⟩ (plPtr r4)) ⟨xb, 1, none⟩ (rfPtr q7)
        have hBw := hbm.trans (hb57.mono hbm.size)
        have hTx : Turn (fun b => b = xb) w ((w7.setCell ⟨xb, 0, none⟩ (plPtr r4)).setCell ⟨xb, 1, none⟩ (rfPtr q7)) := ((Turn.of_below hBw).grown hg1' (fun b e => by cases e; exact .inl rfl)).grown hg2' (fun b e => by cases e; exact .inl rfl)
        have hTx' : Turn (fun b => b = xb) w7 ((w7.setCell ⟨xb, 0, none⟩ (plPtr r4)).setCell ⟨xb, 1, none⟩ (rfPtr q7)) := (Turn.of_grown hg1' (fun b e => by cases e; rfl)).grown hg2' (fun b e => by cases e; exact .inl rfl)
        have hxw : xb < w.heap.size := HH.out.blk.lt
        have hzm := hbm.size
        have hz7 := hb7.size
        have hPf := hP7.turn hTx' (fun k hk e => by have := hD4 k hk; have : k = xb := e; omega)
        have hRf := hR7.turn hTx' (fun k hk e => by have := hR7w k hk; have : k = xb := e; omega)
        have hsw := HH.out.swap hTx hPf hRf (fun b hb => by have := hD4 b hb; omega) (fun b hb => by have := hR7w b hb; omega) (fun b hb hb' => by have := hP5.lt b hb; have := hR7w b hb'; omega) hset
        have HSW := Lib.hid hsw
        clear hsw hset hPf hRf hTx hTx' hg1' hg2' hPm7 hPm5 hP7 hP5 hR7 hBw hb57 hb7 hb25 hrb5 c5 hRm hPm
        unfold plPtr rfPtr at HSW
        go_wp2_with fail
        go_ret
        exact ⟨rfl, SL S.page j bl, .inr rfl, _, r4, q7, D4, R7, HSW.out.1, HSW.out.2⟩
      · have hno := LoadOk.not hlo
        have HNO := Lib.hid hno
        have hpi : -9223372036854775808 ≤ (S.page : Int) ∧ (S.page : Int) ≤ 9223372036854775807 := by omega
        clear hlo hno
        go_wp2_with (first
          | (go_at_call 29; refine (HPG.out _ hb2).mono ?_; rintro e w3 ⟨rfl, rfl⟩)
          | (go_at_call 22; refine (Load_bad (S.page : Int) hpi _ bl HNO.out _ hr2).mono ?_; rintro e w4 ⟨rfl, rfl⟩)
          | fail)
        go_wp2_with fail
        refine (AsLent_any g2 m _ bl wm.heap.size _ HLN.out ho2 hrb2 (by omega)).mono ?_
        rintro e w5 ⟨rfl, hg5⟩
        have hb25 : Below wm.heap.size wm w5 := hb2.grown hg5 hb2.size (fun k e => by cases e; exact hg2.1)
        have hrb5 := HRB.out.below hb25 (Nat.le_refl _)
        have hPm5 := hPm.below hb25
        have c5 := hPm5.blk.cell' (j := 1) rfl
        have hb5w := hbm.trans (hb25.mono hbm.size)
        clear hr2 hrb2 ho2 c1' hg5
        go_wp2_with (first
          | (go_at_call 29; refine (HPG.out _ hb25).mono ?_; rintro e w6 ⟨rfl, rfl⟩)
          | (go_at_call 24; refine (RLoad_bad (S.page : Int) hpi _ bl HNO.out _ hrb5).mono ?_; rintro e w7 ⟨rfl, rfl⟩)
          | fail)
        go_ret
        exact ⟨rfl, S, .inl rfl, T, r, q, D, R, hPm5, Turn.of_below hb5w, fun b hb => .inl hb⟩
    · clear hHq hsn
      go_upto_region 6 with (first
        | (go_at_call 50; refine hsf.mono ?_; rintro e w1 ⟨v1, rfl, ho1, hb1⟩; obtain ⟨g1, cp1, hv1⟩ := ho1.some' HFL.out (by omega); subst hv1)
        | fail)
      have hrb := OwB.rd ho1
      have hgl := (Own.lt ho1 g1 rfl).2
      have HLN := HFL
      have hbm := hb1
      have hmb : S.sz ≤ 200000000 := by omega
      clear hsf c1 ho1 hb1
      generalize S.pg.flatten = bl at *
      generalize hm : S.sz = m at *
      clear hm
      generalize w1 = wm at *
      have hRm := HH.out.ref.below hbm
      have hPm := HH.out.below hbm
      have c1 := hPm.blk.cell' (j := 1) rfl
      have hxm := hPm.blk.lt
      have hT1 := HH.out.tO xb (.inl rfl)
      obtain ⟨lb, hlb⟩ : ∃ lb, lb = bl.length := ⟨_, rfl⟩
      have hln := Lent_any _ bl wm hrb (by rw [HLN.out]; omega)
      rw [HLN.out] at hln
      have HRB := Lib.hid hrb
      clear hlb
      go_wp2_with fail
      refine hln.mono ?_
      rintro e w2 ⟨g2, rfl, ho2, hb2⟩
      have hB2 := hbm.trans (hb2.mono hbm.size)
      have hPg := fun W (hW : Below wm.heap.size wm W) => RPage_any W R q S (hRm.below hW)
      unfold rfPtr at hPg
      have HPG := Lib.hid hPg
      have c1' := (hPm.below hb2).blk.cell' (j := 1) rfl
      have hr2 : RdB w2 (.slice (some ⟨g2, 0, none⟩) m (m + 9)) bl := lent_rd ho2 HLN.out
      have hg2 := (Own.lt ho2 g2 rfl)
      have hrb2 := hrb.below hb2 (Nat.le_refl _)
      clear hln hPg c1
      by_cases hlo : LoadOk (S.page : Int) bl
      · obtain ⟨s, j, hs, hlj, hdv⟩ := hlo.nat
        obtain rfl : s = S.page := by omega
        have HDV := Lib.hid hdv
        have HLJ := Lib.hid hlj
        clear hlo hs hdv hlj
        go_wp2_with (first
          | (go_at_call 29; refine (HPG.out _ hb2).mono ?_; rintro e w3 ⟨rfl, rfl⟩)
          | (go_at_call 22; refine (Load_ok S.page j HDV.out _ bl HLJ.out _ hr2).mono ?_; rintro e w4 ⟨r4, D4, rfl, hP4, hD4, hb4⟩)
          | fail)
        unfold plPtr
        have ho4 := ho2.below2 hb4
        have hrb4 := hrb2.below hb4 (Nat.le_refl _)
        go_wp2_with fail
        refine (AsLent_any g2 m _ bl wm.heap.size _ HLN.out ho4 hrb4 (by omega)).mono ?_
        rintro e w5 ⟨rfl, hg5⟩
        have hP5 : PlRaw w5 D4 r4 (SL S.page j bl) := hP4.turn (Turn.of_grown (F := fun k => k = g2) hg5 (fun k e => (Option.some.inj e).symm)) (fun k hf e => by have := hD4 k hf; have : k = g2 := e; omega)
        have hb25 : Below wm.heap.size wm w5 := ((hb2.trans (hb4.mono hb2.size))).grown hg5 (Nat.le_trans hb2.size hb4.size) (fun k e => by cases e; exact hg2.1)
        have hrb5 := HRB.out.below hb25 (Nat.le_refl _)
        have hPm5 := hPm.below hb25
        have hz25 := hb2.size
        have hz45 := hb4.size
        have hz55 := hg5.size
        have c5 := hPm5.blk.cell' (j := 1) rfl
        clear hr2 hrb2 ho2 hrb4 ho4 hP4 c1' hb4 hg5
        go_upto_region 10 with (first
          | (go_at_call 29; refine (HPG.out _ hb25).mono ?_; rintro e w6 ⟨rfl, rfl⟩)
          | (go_at_call 24; refine (RLoad_ok S.page j HDV.out _ bl HLJ.out _ hrb5).mono ?_; rintro e w7 ⟨q7, R7, rfl, hR7, hR7w, hb7⟩)
          | fail)
        unfold rfPtr
        have hP7 := hP5.below hb7
        have hPm7 := hPm5.below hb7
        have f0 := hPm7.blk.frozen (j := 0) (by simp)
        have f1 := hPm7.blk.frozen (j := 1) (by simp)
        have c0 := hPm7.blk.cell' (j := 0) rfl
        have c1 := hPm7.blk.cell' (j := 1) rfl
        have hset := (hPm7.blk.set 0 (plPtr r4)).set 1 (rfPtr q7)
        have hb57 := hb25.trans (hb7.mono hb25.size)
        have hg1' := grownBy_setCell w7 ⟨xb, 0, none⟩ (plPtr r4)
        have hg2' := grownBy_setCell (w7.setCell ⟨xb, 0, none⟩ (plPtr r4)) ⟨xb, 1, none⟩ (rfPtr q7)
        have hBw := hbm.trans (hb57.mono hbm.size)
        have hTx : Turn (fun b => b = xb) w ((w7.setCell ⟨xb, 0, none⟩ (plPtr r4)).setCell ⟨xb, 1, none⟩ (rfPtr q7)) := ((Turn.of_below hBw).grown hg1' (fun b e => by cases e; exact .inl rfl)).grown hg2' (fun b e => by cases e; exact .inl rfl)
        have hTx' : Turn (fun b => b = xb) w7 ((w7.setCell ⟨xb, 0, none⟩ (plPtr r4)).setCell ⟨xb, 1, none⟩ (rfPtr q7)) := (Turn.of_grown hg1' (fun b e => by cases e; rfl)).grown hg2' (fun b e => by cases e; exact .inl rfl)
        have hxw : xb < w.heap.size := HH.out.blk.lt
        have hzm := hbm.size
        have hz7 := hb7.size
        have hPf := hP7.turn hTx' (fun k hk e => by have := hD4 k hk; have : k = xb := e; omega)
        have hRf := hR7.turn hTx' (fun k hk e => by have := hR7w k hk; have : k = xb := e; omega)
        have hsw := HH.out.swap hTx hPf hRf (fun b hb => by have := hD4 b hb; omega) (fun b hb => by have := hR7w b hb; omega) (fun b hb hb' => by have := hP5.lt b hb; have := hR7w b hb'; omega) hset
        have HSW := Lib.hid hsw
        clear hsw hset hPf hRf hTx hTx' hg1' hg2' hPm7 hPm5 hP7 hP5 hR7 hBw hb57 hb7 hb25 hrb5 c5 hRm hPm
        unfold plPtr rfPtr at HSW
        go_wp2_with fail
        go_ret
        exact ⟨rfl, SL S.page j bl, .inr rfl, _, r4, q7, D4, R7, HSW.out.1, HSW.out.2⟩
      · have hno := LoadOk.not hlo
        have HNO := Lib.hid hno
        have hpi : -9223372036854775808 ≤ (S.page : Int) ∧ (S.page : Int) ≤ 9223372036854775807 := by omega
        clear hlo hno
        go_wp2_with (first
          | (go_at_call 29; refine (HPG.out _ hb2).mono ?_; rintro e w3 ⟨rfl, rfl⟩)
          | (go_at_call 22; refine (Load_bad (S.page : Int) hpi _ bl HNO.out _ hr2).mono ?_; rintro e w4 ⟨rfl, rfl⟩)
          | fail)
        go_wp2_with fail
        refine (AsLent_any g2 m _ bl wm.heap.size _ HLN.out ho2 hrb2 (by omega)).mono ?_
        rintro e w5 ⟨rfl, hg5⟩
        have hb25 : Below wm.heap.size wm w5 := hb2.grown hg5 hb2.size (fun k e => by cases e; exact hg2.1)
        have hrb5 := HRB.out.below hb25 (Nat.le_refl _)
        have hPm5 := hPm.below hb25
        have c5 := hPm5.blk.cell' (j := 1) rfl
        have hb5w := hbm.trans (hb25.mono hbm.size)
        clear hr2 hrb2 ho2 c1' hg5
        go_wp2_with (first
          | (go_at_call 29; refine (HPG.out _ hb25).mono ?_; rintro e w6 ⟨rfl, rfl⟩)
          | (go_at_call 24; refine (RLoad_bad (S.page : Int) hpi _ bl HNO.out _ hrb5).mono ?_; rintro e w7 ⟨rfl, rfl⟩)
          | fail)
        go_ret
        exact ⟨rfl, S, .inl rfl, T, r, q, D, R, hPm5, Turn.of_below hb5w, fun b hb => .inl hb⟩
end Go.Proofs.Ytipjngoenklioaa

-- espalierlaw03.pair.play: walks, by the kind of the step (sync, start, falls, load, others).
namespace Go.Proofs.Ytipjngoenklioaa
open Go.RowKit
def Pair (b : Prop) (w : World) (T : Nat → Prop) (xb n : Nat) : Prop :=
  ∃ r q S D R cv cs wv ls, PairAt w T xb r q S S D R cv cs wv ls ∧ cs.length ≤ 2 * n ∧ S.wild.length ≤ n ∧ ∀ l ∈ ls, l.2.length ≤ 67108864 ∧ (b → l.1 = l.2)
def PlayAt (b : Prop) (w : World) (T : Nat → Prop) (xb n : Nat) (e : Ending) (w' : World) : Prop := e = .returned (.bool true) ∧ ∃ T', Pair b w' T' xb (n + 1) ∧ Step T w T' w'
theorem sync_wild (S : PS) : S.sync.wild.length ≤ S.wild.length := by
  unfold PS.sync
  split
  · exact Nat.le_refl _
  · split
    · exact Nat.zero_le _
    · exact Nat.zero_le _
theorem fall_wild (S : PS) (o : OpV) : (fallS S o).wild.length ≤ S.wild.length := by
  unfold fallS PS.arm PS.crash
  split
  · split <;> exact Nat.le_refl _
  · split
    · exact Nat.le_refl _
    · exact Nat.zero_le _
theorem write_wild (S : PS) (n : Nat) (l : List UInt8) : (S.write n l).wild.length ≤ S.wild.length + 1 := by
  unfold PS.write
  split
  · exact Nat.zero_le _
  · show (S.wild ++ [(n, l)]).length ≤ _
    simp
theorem Step.mk0 {w w' : World} {D : Nat → Prop} (ht : Turn D w w') : Step D w D w' := ⟨ht, fun b hb => .inl hb⟩
set_option maxRecDepth 100000 in
set_option maxHeartbeats 8000000 in
theorem play_sync (b0 : Prop) (W w : World) (T : Nat → Prop) (xb N : Nat) (o : OpV) (hk : o.kind = 3) (h : Pair b0 w T xb N) (hN : N ≤ 10000000) (ho : o.ok W) (hB : Below W.heap.size W w) (hT : ∀ b, T b → W.heap.size ≤ b) (hkl : o.keep.length ≤ 10000000) (hdl : o.data.length ≤ 10000000) :
    Calls Try.prog 27 #[pairV xb, opV o] w (PlayAt b0 w T xb N) := by
  obtain ⟨r, q, S, D, R, cv, cs, wv, ls, h, hcn, hwn, hll⟩ := h
  have HWF := Lib.hid ho
  obtain ⟨kind, on, n, byte, dv, data, kv, ks, torn, at_⟩ := o
  obtain ⟨A, c, hkv, hkc1, hkc2⟩ := ho.k.form
  obtain ⟨Dv, dc, hdv, hdc⟩ := ho.d.form
  simp only at hkv hdv hkl hdl hdc hk
  subst hkv hdv
  subst hk
  have HO := Lib.hid ho
  have HB := Lib.hid hB
  have HT := Lib.hid hT
  have HLL := Lib.hid hll
  have hob := OBlk.new' w 33 [.int .i64 3, .int .i64 on, .int .i64 n, .int .u8 (byte.toNat : Int), .slice Dv data.length dc, .slice A ks.length c, .int .i64 torn, .int .i64 at_]
  have hbA : Below w.heap.size w (w.alloc (.cells #[.int .i64 3, .int .i64 on, .int .i64 n, .int .u8 (byte.toNat : Int), .slice Dv data.length dc, .slice A ks.length c, .int .i64 torn, .int .i64 at_] 33)) := (Below.refl _ _).alloc (Nat.le_refl _) _
  have hzA : w.heap.size < (w.alloc (.cells #[.int .i64 3, .int .i64 on, .int .i64 n, .int .u8 (byte.toNat : Int), .slice Dv data.length dc, .slice A ks.length c, .int .i64 torn, .int .i64 at_] 33)).heap.size := by simp
  have hP := h.below hbA
  have hWs := hB.size
  have hcl := h.came
  have HH := Lib.hid h
  clear h ho hB hT hcl hll
  unfold opV pairV
  go_enter Try.func27, Try.ntmps27
  go_upto_region 1 with (fail)
  generalize w.alloc (.cells #[.int .i64 3, .int .i64 on, .int .i64 n, .int .u8 (byte.toNat : Int), .slice Dv data.length dc, .slice A ks.length c, .int .i64 torn, .int .i64 at_] 33) = w0 at *
  have hS0 : Step T w T w0 := ⟨Turn.of_below hbA, fun b hb => .inl hb⟩
  have hBw := HB.out.trans (hbA.mono hWs)
  have k0 := hob.cell' (j := 0) rfl
  have c0 := hP.blk.cell' (j := 0) rfl
  have hsy := Sync_any w0 D r S hP.dev
  unfold plPtr at hsy
  clear hob
  go_upto_region 18 with (first
    | (go_at_call 11; refine hsy.mono ?_; rintro e w1 ⟨rfl, r1, D1, e1, _, hD1, hS1⟩)
    | fail)
  obtain ⟨hPA, hSA⟩ := hP.devStep hD1 e1 hS1
  have hS01 := hS0.trans hSA
  have c1 := hPA.blk.cell' (j := 1) rfl
  have hrs := RSync_any w1 R q S hPA.ref
  unfold rfPtr at hrs
  clear hsy hP hSA hS0 c0 k0 e1 hD1 hS1
  generalize SyncE S = z at *
  go_wp2_with (first
    | (go_at_call 46; refine hrs.mono ?_; rintro e w2 ⟨rfl, q1, R1, e2, hR1, hS2⟩)
    | fail)
  obtain ⟨hPB, hSB⟩ := hPA.refStep hR1 e2 hS2
  have hsw := sync_wild S
  go_ret
  exact ⟨rfl, _, ⟨r1, q1, S.sync, D1, R1, cv, cs, wv, ls, hPB, by omega, by omega, HLL.out⟩, hS01.trans hSB⟩
set_option maxRecDepth 100000 in
set_option maxHeartbeats 8000000 in
theorem play_start (b0 : Prop) (W w : World) (T : Nat → Prop) (xb N : Nat) (o : OpV) (hk : o.kind = 6) (h : Pair b0 w T xb N) (hN : N ≤ 10000000) (ho : o.ok W) (hB : Below W.heap.size W w) (hT : ∀ b, T b → W.heap.size ≤ b) (hkl : o.keep.length ≤ 10000000) (hdl : o.data.length ≤ 10000000) :
    Calls Try.prog 27 #[pairV xb, opV o] w (PlayAt b0 w T xb N) := by
  obtain ⟨r, q, S, D, R, cv, cs, wv, ls, h, hcn, hwn, hll⟩ := h
  have HWF := Lib.hid ho
  obtain ⟨kind, on, n, byte, dv, data, kv, ks, torn, at_⟩ := o
  obtain ⟨A, c, hkv, hkc1, hkc2⟩ := ho.k.form
  obtain ⟨Dv, dc, hdv, hdc⟩ := ho.d.form
  simp only at hkv hdv hkl hdl hdc hk
  subst hkv hdv
  subst hk
  have HO := Lib.hid ho
  have HB := Lib.hid hB
  have HT := Lib.hid hT
  have HLL := Lib.hid hll
  have hob := OBlk.new' w 33 [.int .i64 6, .int .i64 on, .int .i64 n, .int .u8 (byte.toNat : Int), .slice Dv data.length dc, .slice A ks.length c, .int .i64 torn, .int .i64 at_]
  have hbA : Below w.heap.size w (w.alloc (.cells #[.int .i64 6, .int .i64 on, .int .i64 n, .int .u8 (byte.toNat : Int), .slice Dv data.length dc, .slice A ks.length c, .int .i64 torn, .int .i64 at_] 33)) := (Below.refl _ _).alloc (Nat.le_refl _) _
  have hzA : w.heap.size < (w.alloc (.cells #[.int .i64 6, .int .i64 on, .int .i64 n, .int .u8 (byte.toNat : Int), .slice Dv data.length dc, .slice A ks.length c, .int .i64 torn, .int .i64 at_] 33)).heap.size := by simp
  have hP := h.below hbA
  have hWs := hB.size
  have hcl := h.came
  have HH := Lib.hid h
  clear h ho hB hT hcl hll
  unfold opV pairV
  go_enter Try.func27, Try.ntmps27
  go_upto_region 1 with (fail)
  generalize w.alloc (.cells #[.int .i64 6, .int .i64 on, .int .i64 n, .int .u8 (byte.toNat : Int), .slice Dv data.length dc, .slice A ks.length c, .int .i64 torn, .int .i64 at_] 33) = w0 at *
  have hS0 : Step T w T w0 := ⟨Turn.of_below hbA, fun b hb => .inl hb⟩
  have hBw := HB.out.trans (hbA.mono hWs)
  have k0 := hob.cell' (j := 0) rfl
  have c0 := hP.blk.cell' (j := 0) rfl
  have hsy := Start_any w0 D r S hP.dev
  unfold plPtr at hsy
  clear hob
  go_upto_region 25 with (first
    | (go_at_call 32; refine hsy.mono ?_; rintro e w1 ⟨⟨v1, rfl⟩, hD1, hg1⟩)
    | fail)
  have hS1 : Step D w0 D w1 := Step.mk0 (Turn.of_grown hg1 (fun k e => by cases e; exact hP.dev.fp))
  obtain ⟨hPA, hSA⟩ := hP.devStep hD1 rfl hS1
  have hS01 := hS0.trans hSA
  have c1 := hPA.blk.cell' (j := 1) rfl
  have hrs := RStart_any w1 R q S hPA.ref
  unfold rfPtr at hrs
  clear hsy hSA hS0 c0 k0 hD1 hS1
  go_wp2_with (first
    | (go_at_call 48; refine hrs.mono ?_; rintro e w2 ⟨⟨v2, rfl⟩, hR1, hg2⟩)
    | fail)
  have hS2 : Step R w1 R w2 := Step.mk0 (Turn.of_grown hg2 (fun k e => by cases e; exact hPA.ref.fp))
  obtain ⟨hPB, hSB⟩ := hPA.refStep hR1 rfl hS2
  go_ret
  exact ⟨rfl, _, ⟨r, q, { S with down := false }, D, R, cv, cs, wv, ls, hPB, by omega, (show S.wild.length ≤ N + 1 by omega), HLL.out⟩, hS01.trans hSB⟩
set_option maxRecDepth 100000 in
set_option maxHeartbeats 8000000 in
theorem play_arm (b0 : Prop) (W w : World) (T : Nat → Prop) (xb N : Nat) (o : OpV) (hk : o.kind = 4) (h : Pair b0 w T xb N) (hN : N ≤ 10000000) (ho : o.ok W) (hB : Below W.heap.size W w) (hT : ∀ b, T b → W.heap.size ≤ b) (hkl : o.keep.length ≤ 10000000) (hdl : o.data.length ≤ 10000000) :
    Calls Try.prog 27 #[pairV xb, opV o] w (PlayAt b0 w T xb N) := by
  obtain ⟨r, q, S, D, R, cv, cs, wv, ls, h, hcn, hwn, hll⟩ := h
  have HWF := Lib.hid ho
  obtain ⟨kind, on, n, byte, dv, data, kv, ks, torn, at_⟩ := o
  obtain ⟨A, c, hkv, hkc1, hkc2⟩ := ho.k.form
  obtain ⟨Dv, dc, hdv, hdc⟩ := ho.d.form
  simp only at hkv hdv hkl hdl hdc hk
  subst hkv hdv
  subst hk
  have HO := Lib.hid ho
  have HB := Lib.hid hB
  have HT := Lib.hid hT
  have HLL := Lib.hid hll
  have hob := OBlk.new' w 33 [.int .i64 4, .int .i64 on, .int .i64 n, .int .u8 (byte.toNat : Int), .slice Dv data.length dc, .slice A ks.length c, .int .i64 torn, .int .i64 at_]
  have hbA : Below w.heap.size w (w.alloc (.cells #[.int .i64 4, .int .i64 on, .int .i64 n, .int .u8 (byte.toNat : Int), .slice Dv data.length dc, .slice A ks.length c, .int .i64 torn, .int .i64 at_] 33)) := (Below.refl _ _).alloc (Nat.le_refl _) _
  have hzA : w.heap.size < (w.alloc (.cells #[.int .i64 4, .int .i64 on, .int .i64 n, .int .u8 (byte.toNat : Int), .slice Dv data.length dc, .slice A ks.length c, .int .i64 torn, .int .i64 at_] 33)).heap.size := by simp
  have hP := h.below hbA
  have hWs := hB.size
  have hcl := h.came
  have HH := Lib.hid h
  clear h ho hB hT hcl hll
  unfold opV pairV
  go_enter Try.func27, Try.ntmps27
  go_upto_region 1 with (fail)
  generalize w.alloc (.cells #[.int .i64 4, .int .i64 on, .int .i64 n, .int .u8 (byte.toNat : Int), .slice Dv data.length dc, .slice A ks.length c, .int .i64 torn, .int .i64 at_] 33) = w0 at *
  have hS0 : Step T w T w0 := ⟨Turn.of_below hbA, fun b hb => .inl hb⟩
  have hBw := HB.out.trans (hbA.mono hWs)
  have k0 := hob.cell' (j := 0) rfl
  have c0 := hP.blk.cell' (j := 0) rfl
  have hfa := fall_any W w0 T xb r q S D R cv cs wv ls ⟨4, on, n, byte, .slice Dv data.length dc, data, .slice A ks.length c, ks, torn, at_⟩ hP HO.out hBw HT.out hkl
  unfold opV pairV at hfa
  have k1 := hob.cell' (j := 1) rfl
  have k2 := hob.cell' (j := 2) rfl
  have k3 := hob.cell' (j := 3) rfl
  have k4 := hob.cell' (j := 4) rfl
  have k5 := hob.cell' (j := 5) rfl
  have k6 := hob.cell' (j := 6) rfl
  have k7 := hob.cell' (j := 7) rfl
  clear c0
  go_wp2_with (first
    | (go_at_call 47; refine hfa.mono ?_; rintro e w1 ⟨rfl, T1, r1, q1, D1, R1, hPA, hSA⟩)
    | fail)
  have hw := fall_wild S ⟨4, on, n, byte, .slice Dv data.length dc, data, .slice A ks.length c, ks, torn, at_⟩
  go_ret
  exact ⟨rfl, T1, ⟨r1, q1, _, D1, R1, cv, cs, wv, ls, hPA, by omega, by omega, HLL.out⟩, hS0.trans hSA⟩
set_option maxRecDepth 100000 in
set_option maxHeartbeats 8000000 in
theorem play_crash (b0 : Prop) (W w : World) (T : Nat → Prop) (xb N : Nat) (o : OpV) (hk : o.kind = 5) (h : Pair b0 w T xb N) (hN : N ≤ 10000000) (ho : o.ok W) (hB : Below W.heap.size W w) (hT : ∀ b, T b → W.heap.size ≤ b) (hkl : o.keep.length ≤ 10000000) (hdl : o.data.length ≤ 10000000) :
    Calls Try.prog 27 #[pairV xb, opV o] w (PlayAt b0 w T xb N) := by
  obtain ⟨r, q, S, D, R, cv, cs, wv, ls, h, hcn, hwn, hll⟩ := h
  have HWF := Lib.hid ho
  obtain ⟨kind, on, n, byte, dv, data, kv, ks, torn, at_⟩ := o
  obtain ⟨A, c, hkv, hkc1, hkc2⟩ := ho.k.form
  obtain ⟨Dv, dc, hdv, hdc⟩ := ho.d.form
  simp only at hkv hdv hkl hdl hdc hk
  subst hkv hdv
  subst hk
  have HO := Lib.hid ho
  have HB := Lib.hid hB
  have HT := Lib.hid hT
  have HLL := Lib.hid hll
  have hob := OBlk.new' w 33 [.int .i64 5, .int .i64 on, .int .i64 n, .int .u8 (byte.toNat : Int), .slice Dv data.length dc, .slice A ks.length c, .int .i64 torn, .int .i64 at_]
  have hbA : Below w.heap.size w (w.alloc (.cells #[.int .i64 5, .int .i64 on, .int .i64 n, .int .u8 (byte.toNat : Int), .slice Dv data.length dc, .slice A ks.length c, .int .i64 torn, .int .i64 at_] 33)) := (Below.refl _ _).alloc (Nat.le_refl _) _
  have hzA : w.heap.size < (w.alloc (.cells #[.int .i64 5, .int .i64 on, .int .i64 n, .int .u8 (byte.toNat : Int), .slice Dv data.length dc, .slice A ks.length c, .int .i64 torn, .int .i64 at_] 33)).heap.size := by simp
  have hP := h.below hbA
  have hWs := hB.size
  have hcl := h.came
  have HH := Lib.hid h
  clear h ho hB hT hcl hll
  unfold opV pairV
  go_enter Try.func27, Try.ntmps27
  go_upto_region 1 with (fail)
  generalize w.alloc (.cells #[.int .i64 5, .int .i64 on, .int .i64 n, .int .u8 (byte.toNat : Int), .slice Dv data.length dc, .slice A ks.length c, .int .i64 torn, .int .i64 at_] 33) = w0 at *
  have hS0 : Step T w T w0 := ⟨Turn.of_below hbA, fun b hb => .inl hb⟩
  have hBw := HB.out.trans (hbA.mono hWs)
  have k0 := hob.cell' (j := 0) rfl
  have c0 := hP.blk.cell' (j := 0) rfl
  have hfa := fall_any W w0 T xb r q S D R cv cs wv ls ⟨5, on, n, byte, .slice Dv data.length dc, data, .slice A ks.length c, ks, torn, at_⟩ hP HO.out hBw HT.out hkl
  unfold opV pairV at hfa
  have k1 := hob.cell' (j := 1) rfl
  have k2 := hob.cell' (j := 2) rfl
  have k3 := hob.cell' (j := 3) rfl
  have k4 := hob.cell' (j := 4) rfl
  have k5 := hob.cell' (j := 5) rfl
  have k6 := hob.cell' (j := 6) rfl
  have k7 := hob.cell' (j := 7) rfl
  clear c0
  go_wp2_with (first
    | (go_at_call 47; refine hfa.mono ?_; rintro e w1 ⟨rfl, T1, r1, q1, D1, R1, hPA, hSA⟩)
    | fail)
  have hw := fall_wild S ⟨5, on, n, byte, .slice Dv data.length dc, data, .slice A ks.length c, ks, torn, at_⟩
  go_ret
  exact ⟨rfl, T1, ⟨r1, q1, _, D1, R1, cv, cs, wv, ls, hPA, by omega, by omega, HLL.out⟩, hS0.trans hSA⟩
set_option maxRecDepth 100000 in
set_option maxHeartbeats 8000000 in
theorem play_load (b0 : Prop) (W w : World) (T : Nat → Prop) (xb N : Nat) (o : OpV) (hk : o.kind = 8) (h : Pair b0 w T xb N) (hN : N ≤ 10000000) (ho : o.ok W) (hB : Below W.heap.size W w) (hT : ∀ b, T b → W.heap.size ≤ b) (hkl : o.keep.length ≤ 10000000) (hdl : o.data.length ≤ 10000000) :
    Calls Try.prog 27 #[pairV xb, opV o] w (PlayAt b0 w T xb N) := by
  obtain ⟨r, q, S, D, R, cv, cs, wv, ls, h, hcn, hwn, hll⟩ := h
  have HWF := Lib.hid ho
  obtain ⟨kind, on, n, byte, dv, data, kv, ks, torn, at_⟩ := o
  obtain ⟨A, c, hkv, hkc1, hkc2⟩ := ho.k.form
  obtain ⟨Dv, dc, hdv, hdc⟩ := ho.d.form
  simp only at hkv hdv hkl hdl hdc hk
  subst hkv hdv
  subst hk
  have HO := Lib.hid ho
  have HB := Lib.hid hB
  have HT := Lib.hid hT
  have HLL := Lib.hid hll
  have hob := OBlk.new' w 33 [.int .i64 8, .int .i64 on, .int .i64 n, .int .u8 (byte.toNat : Int), .slice Dv data.length dc, .slice A ks.length c, .int .i64 torn, .int .i64 at_]
  have hbA : Below w.heap.size w (w.alloc (.cells #[.int .i64 8, .int .i64 on, .int .i64 n, .int .u8 (byte.toNat : Int), .slice Dv data.length dc, .slice A ks.length c, .int .i64 torn, .int .i64 at_] 33)) := (Below.refl _ _).alloc (Nat.le_refl _) _
  have hzA : w.heap.size < (w.alloc (.cells #[.int .i64 8, .int .i64 on, .int .i64 n, .int .u8 (byte.toNat : Int), .slice Dv data.length dc, .slice A ks.length c, .int .i64 torn, .int .i64 at_] 33)).heap.size := by simp
  have hP := h.below hbA
  have hWs := hB.size
  have hcl := h.came
  have HH := Lib.hid h
  clear h ho hB hT hcl hll
  unfold opV pairV
  go_enter Try.func27, Try.ntmps27
  go_upto_region 1 with (fail)
  generalize w.alloc (.cells #[.int .i64 8, .int .i64 on, .int .i64 n, .int .u8 (byte.toNat : Int), .slice Dv data.length dc, .slice A ks.length c, .int .i64 torn, .int .i64 at_] 33) = w0 at *
  have hS0 : Step T w T w0 := ⟨Turn.of_below hbA, fun b hb => .inl hb⟩
  have hBw := HB.out.trans (hbA.mono hWs)
  have k0 := hob.cell' (j := 0) rfl
  have c0 := hP.blk.cell' (j := 0) rfl
  have hfa := load_any w0 T xb r q S D R cv cs wv ls n HO.out.r2 hP
  unfold pairV at hfa
  have k2 := hob.cell' (j := 2) rfl
  clear c0
  go_wp2_with (first
    | (go_at_call 51; refine hfa.mono ?_; rintro e w1 ⟨rfl, S1, hLS, T1, r1, q1, D1, R1, hPA, hSA⟩)
    | fail)
  have hw : S1.wild.length ≤ S.wild.length := by
    rcases hLS with rfl | h
    · exact Nat.le_refl _
    · rw [h]; exact Nat.zero_le _
  go_ret
  exact ⟨rfl, T1, ⟨r1, q1, S1, D1, R1, cv, cs, wv, ls, hPA, by omega, by omega, HLL.out⟩, hS0.trans hSA⟩
set_option maxRecDepth 100000 in
set_option maxHeartbeats 8000000 in
theorem play_other (b0 : Prop) (W w : World) (T : Nat → Prop) (xb N : Nat) (o : OpV) (hk : o.kind ≠ 1 ∧ o.kind ≠ 2 ∧ o.kind ≠ 3 ∧ o.kind ≠ 4 ∧ o.kind ≠ 5 ∧ o.kind ≠ 6 ∧ o.kind ≠ 7 ∧ o.kind ≠ 8 ∧ o.kind ≠ 9) (h : Pair b0 w T xb N) (hN : N ≤ 10000000) (ho : o.ok W) (hB : Below W.heap.size W w) (hT : ∀ b, T b → W.heap.size ≤ b) (hkl : o.keep.length ≤ 10000000) (hdl : o.data.length ≤ 10000000) :
    Calls Try.prog 27 #[pairV xb, opV o] w (PlayAt b0 w T xb N) := by
  obtain ⟨r, q, S, D, R, cv, cs, wv, ls, h, hcn, hwn, hll⟩ := h
  have HWF := Lib.hid ho
  obtain ⟨kind, on, n, byte, dv, data, kv, ks, torn, at_⟩ := o
  obtain ⟨A, c, hkv, hkc1, hkc2⟩ := ho.k.form
  obtain ⟨Dv, dc, hdv, hdc⟩ := ho.d.form
  simp only at hkv hdv hkl hdl hdc hk
  subst hkv hdv
  obtain ⟨h1, h2, h3, h4, h5, h6, h7, h8, h9⟩ := hk
  have j1 : (kind == 1) = false := beq_eq_false_iff_ne.2 h1
  have j2 : (kind == 2) = false := beq_eq_false_iff_ne.2 h2
  have j3 : (kind == 3) = false := beq_eq_false_iff_ne.2 h3
  have j4 : (kind == 4) = false := beq_eq_false_iff_ne.2 h4
  have j5 : (kind == 5) = false := beq_eq_false_iff_ne.2 h5
  have j6 : (kind == 6) = false := beq_eq_false_iff_ne.2 h6
  have j7 : (kind == 7) = false := beq_eq_false_iff_ne.2 h7
  have j8 : (kind == 8) = false := beq_eq_false_iff_ne.2 h8
  have j9 : (kind == 9) = false := beq_eq_false_iff_ne.2 h9
  clear h1 h2 h3 h4 h5 h6 h7 h8 h9
  have HO := Lib.hid ho
  have HB := Lib.hid hB
  have HT := Lib.hid hT
  have HLL := Lib.hid hll
  have hob := OBlk.new' w 33 [.int .i64 kind, .int .i64 on, .int .i64 n, .int .u8 (byte.toNat : Int), .slice Dv data.length dc, .slice A ks.length c, .int .i64 torn, .int .i64 at_]
  have hbA : Below w.heap.size w (w.alloc (.cells #[.int .i64 kind, .int .i64 on, .int .i64 n, .int .u8 (byte.toNat : Int), .slice Dv data.length dc, .slice A ks.length c, .int .i64 torn, .int .i64 at_] 33)) := (Below.refl _ _).alloc (Nat.le_refl _) _
  have hzA : w.heap.size < (w.alloc (.cells #[.int .i64 kind, .int .i64 on, .int .i64 n, .int .u8 (byte.toNat : Int), .slice Dv data.length dc, .slice A ks.length c, .int .i64 torn, .int .i64 at_] 33)).heap.size := by simp
  have hP := h.below hbA
  have hWs := hB.size
  have hcl := h.came
  have HH := Lib.hid h
  clear h ho hB hT hcl hll
  unfold opV pairV
  go_enter Try.func27, Try.ntmps27
  go_upto_region 1 with (fail)
  generalize w.alloc (.cells #[.int .i64 kind, .int .i64 on, .int .i64 n, .int .u8 (byte.toNat : Int), .slice Dv data.length dc, .slice A ks.length c, .int .i64 torn, .int .i64 at_] 33) = w0 at *
  have hS0 : Step T w T w0 := ⟨Turn.of_below hbA, fun b hb => .inl hb⟩
  have hBw := HB.out.trans (hbA.mono hWs)
  have k0 := hob.cell' (j := 0) rfl
  have c0 := hP.blk.cell' (j := 0) rfl
  go_wp2_with fail
  go_ret
  exact ⟨rfl, T, ⟨r, q, S, D, R, cv, cs, wv, ls, hP, by omega, by omega, HLL.out⟩, hS0⟩
end Go.Proofs.Ytipjngoenklioaa
