/- espalierlaw05.owned: the walk. -/
import Derived.Test.YtdnfbjmapdgnnaaLawOwnedA
import Derived.Test.YtdnfbjmapdgnnaaInkFixed
namespace Go.Proofs.Ytdnfbjmapdgnnaa
open Go.RowKit

def markF (f : Nat → List UInt8) (k : Nat) (j : Nat) : List UInt8 := bif decide (j < k) then List.replicate (f j).length (mkB j) else f j
def markQ (f : Nat → List UInt8) (k q : Nat) (j : Nat) : List UInt8 := bif decide (j = k) then List.replicate q (mkB k) ++ (f k).drop q else markF f k j
theorem markQ_0 (f : Nat → List UInt8) (k j : Nat) : markQ f k 0 j = markF f k j := by
  unfold markQ markF
  by_cases h : j = k <;> simp [h]
theorem markQ_n (f : Nat → List UInt8) (k j : Nat) : markQ f k (f k).length j = markF f (k + 1) j := by
  unfold markQ markF
  by_cases h : j = k
  · simp [h]
  · by_cases h2 : j < k
    · have : j < k + 1 := by omega
      simp [h, h2, this]
    · have : ¬ j < k + 1 := by omega
      simp [h, h2, this]
theorem markQ_set (f : Nat → List UInt8) (k q : Nat) (hq : q < (f k).length) : markQ f k (q + 1) k = (markQ f k q k).set q (mkB k) := by
  unfold markQ
  simp only [decide_true, cond_true]
  rw [List.set_append_right _ _ (by simp)]
  simp only [List.length_replicate, Nat.sub_self]
  rw [List.drop_eq_getElem_cons hq, List.set_cons_zero, List.replicate_succ', List.append_assoc]
  rfl
theorem markQ_ne (f : Nat → List UInt8) (k q j : Nat) (h : j ≠ k) : markQ f k (q + 1) j = markQ f k q j := by
  unfold markQ; simp [h]
theorem mkB_val (k : Nat) : ((k : Int) + 1) % 256 = ((mkB k).toNat : Int) := by
  unfold mkB; rw [u8_byte]; omega

set_option maxRecDepth 100000 in
set_option maxHeartbeats 2000000 in
theorem owned_any (v : Value) (vs : List Value) (f : Nat → List UInt8) (base : Nat) (w : World) (hbase : base ≤ w.heap.size) (hv : Own w base 29 1 v vs.length vs) (hl : OwLs w base vs f) (ha : ApartL vs)
    (hn : vs.length ≤ 1000) (hsz : ∀ j, (f j).length ≤ 1000000) :
    Calls Try.prog 14 #[v] w fun e w' => e = .returned (.bool true) ∧ Below base w w' := by
  obtain ⟨A, cv, rfl⟩ := hv.slice
  go_enter Try.func14, Try.ntmps14
  go_wp2_with fail
  go_loopw [3] (fun i wr => ∃ k : Nat, i = .int .i64 (k : Int) ∧ k ≤ vs.length ∧ Own wr base 29 1 (.slice A vs.length cv) vs.length vs ∧ OwLs wr base vs (markF f k) ∧ Below base w wr)
    (fun i _ => vs.length - (intOf i).toNat)
  case atStart => exact ⟨0, rfl, Nat.zero_le _, hv, fun j u hj => by simpa [markF] using hl j u hj, Below.refl _ _⟩
  case round =>
    clear hv hl
    obtain ⟨k, rfl, hk, hv, hl, hb⟩ := hrel
    by_cases hlt : k < vs.length
    · obtain ⟨gL, rfl⟩ : ∃ gL, A = some ⟨gL, 0, none⟩ := by
        rcases hv.form with ⟨h, h0⟩ | ⟨g, c, h, _⟩
        · omega
        · injection h with h; exact ⟨g, h⟩
      have hku : vs[k]? = some vs[k] := List.getElem?_eq_getElem hlt
      have how := hl k _ hku
      have hcell := hv.cells k _ hku
      have hlen : (markF f k k) = f k := by simp [markF]
      rw [hlen] at how
      obtain ⟨B, c, hform⟩ := how.slice
      rw [hform] at hku hcell
      have HU := Lib.hid hku
      have hm1 := hsz k
      clear hlen how hform hku
      go_wp2_with fail
      go_loopw [4] (fun i wi => ∃ q : Nat, i = .int .i64 (q : Int) ∧ q ≤ (f k).length ∧ Own wi base 29 1 (.slice (some ⟨gL, 0, none⟩) vs.length cv) vs.length vs ∧ OwLs wi base vs (markQ f k q) ∧ Below base w wi)
        (fun i _ => (f k).length - (intOf i).toNat)
      case atStart => exact ⟨0, rfl, Nat.zero_le _, hv, fun j u hj => by rw [markQ_0]; exact hl j u hj, hb⟩
      case round =>
        clear hv hl hb hcell
        obtain ⟨q, rfl, hq, hv, hl, hb⟩ := hrel
        have hcell := hv.cells k _ HU.out
        by_cases hql : q < (f k).length
        · have how := hl k _ HU.out
          have hlen : (markQ f k q k).length = (f k).length := by simp [markQ]; omega
          obtain ⟨g, rfl⟩ : ∃ g, B = some ⟨g, 0, none⟩ := by
            rcases how.form with ⟨_, h0⟩ | ⟨g, c, h, _⟩
            · rw [h0] at hlen; simp at hlen; omega
            · injection h with h; exact ⟨g, h⟩
          have hc2 := how.cell (j := q) (by omega)
          have hf2 := how.frozen (j := q) (by omega)
          have hgb := how.lt g rfl
          have hne := how.ne_own hv rfl
          generalize ((markQ f k q k)[q]'(by omega)).toNat = y at hc2
          clear how hlen
          go_wp2_with fail
          go_roundw
          case rel =>
            refine ⟨q + 1, by go_num, by omega, ?_, ?_, hb.setCell (by show base ≤ g; omega) _⟩
            · exact hv.far (p := ⟨g, q, none⟩) hne _
            · rw [mkB_val]
              exact hl.set ha HU.out q (mkB k) (markQ_set f k q hql) (fun j hj => markQ_ne f k q j hj)
          case measure => simp [intOf]; omega
        · obtain rfl : q = (f k).length := by omega
          go_wp2_with fail
          go_roundw
          case rel => exact ⟨k + 1, by go_num, by omega, hv, fun j u hj => by rw [← markQ_n]; exact hl j u hj, hb⟩
          case measure => simp [intOf]; omega
    · obtain rfl : k = vs.length := by omega
      have hl2 : ∀ (j : Nat) (u : Value), vs[j]? = some u → OwB wr base u (List.replicate (f j).length (mkB j)) := fun j u hj => by
        have hjl := (List.getElem?_eq_some_iff.mp hj).1
        have := hl j u hj
        simpa [markF, hjl] using this
      clear hl
      go_wp2_with fail
      obtain ⟨w2, rfl⟩ : ∃ w2, w2 = wr := ⟨_, rfl⟩
      have hw2 := hb.size
      go_loopw [5, 6] (fun gr i wr => ∃ (k : Nat) (es : List Value), i = .int .i64 (k : Int) ∧ k ≤ vs.length ∧ es.length = 16 * k ∧ Own wr w2.heap.size 29 1 gr es.length es ∧
          (∀ (j : Nat) (e : Value), es[j]? = some e → EOk wr base (.slice none 0 0) 0 0 e (mkB (j / 16)) ∧ ∀ (i : Nat) (u : Value), k ≤ i → vs[i]? = some u → ∀ g, e.ownBlock = some g → u.ownBlock ≠ some g) ∧
          Own wr base 29 1 (.slice A vs.length cv) vs.length vs ∧ (∀ (j : Nat) (u : Value), k ≤ j → vs[j]? = some u → OwB wr base u (List.replicate (f j).length (mkB j)) ∧ ∀ g, u.ownBlock = some g → g < w2.heap.size) ∧ Below base w wr ∧ w2.heap.size ≤ wr.heap.size)
        (fun _ i _ => vs.length - (intOf i).toNat)
      case atStart => exact ⟨0, [], rfl, Nat.zero_le _, rfl, Own.nil _ _ _ _, fun j e h => by simp at h, hv, fun j u _ hj => ⟨hl2 j u hj, fun g hg => ((hl2 j u hj).lt g hg).2⟩, hb, Nat.le_refl _⟩
      case round =>
        have hvlt := fun g h => (hv.lt g h).2
        have HV := Lib.hid hvlt
        clear hvlt hv hl2 hb
        obtain ⟨k, es, rfl, hk, hes, hgr, hE, hv, hl, hb, hsz2⟩ := hrel
        by_cases hlt : k < vs.length
        · obtain ⟨gL, rfl⟩ : ∃ gL, A = some ⟨gL, 0, none⟩ := by
            rcases hv.form with ⟨h, h0⟩ | ⟨g, c, h, _⟩
            · omega
            · injection h with h; exact ⟨g, h⟩
          have hku : vs[k]? = some vs[k] := List.getElem?_eq_getElem hlt
          have how := (hl k _ (Nat.le_refl _) hku).1
          have hul := (hl k _ (Nat.le_refl _) hku).2
          have hcell := hv.cells k _ hku
          generalize vs[k] = u at *
          have hm1 := hsz k
          have hmk := mkB_val k
          have HMK := Lib.hid hmk
          have HU := Lib.hid hku
          have HES := Lib.hid hes
          clear hmk hku
          obtain ⟨G, cG, rfl⟩ := hgr.slice
          rw [hes]
          go_wp2_with fail
          go_loopw [5, 7, 8] (fun gr x j wi => ∃ (q : Nat) (es : List Value), j = .int .i64 (q : Int) ∧ q ≤ 16 ∧ InvQ w w2.heap.size base vs f (.slice (some ⟨gL, 0, none⟩) vs.length cv) k q gr x es wi)
            (fun _ _ j _ => 16 - (intOf j).toNat)
          case atStart =>
            refine ⟨0, es, rfl, by omega, HES.out, ?_, how, ?_, ?_, hv, fun j u hj hu => hl j u (Nat.le_of_lt hj) hu, hb, hsz2⟩
            · rw [HES.out]; rw [HES.out] at hgr; exact hgr
            · exact fun j e hj => ⟨(hE j e hj).1.fresh (fun g hg => (hE j e hj).2 k u (Nat.le_refl _) HU.out g hg), fun i u' hi hu' => (hE j e hj).2 i u' (Nat.le_of_lt hi) hu'⟩
            · exact fun i u' hi hu' g hg hg' => ha k i u u' (by omega) HU.out hu' g hg hg'.symm
          case round =>
            clear hgr hE hv hl hb hsz2 how hul hcell hes
            obtain ⟨q, es, rfl, hq, hI⟩ := hrel
            by_cases hql : q < 16
            · have hsz3 := hI.hb.size
              have hlen3 := hI.len
              have HL := Lib.hid hlen3
              have hgr3 := hI.gr3
              have hs2 := hI.size
              clear hlen3
              go_wp2_with (first
                | (at_builtin; refine wp_append_keep_B1 rfl (.tmp 49) (.tmp 53) rfl base _ _ rfl hI.ox (mkB k) _ (congrArg (Value.int .u8) HMK.out) 5 rfl (by simp; omega) (by omega) ?_; intro x3 w3 ho3 hg3 hb3 hk3; obtain ⟨B3, c3, rfl⟩ := ho3.slice' (n := (f k).length + q + 1) (by simp))
                | (at_builtin; refine wp_append_L1 rfl (.tmp 55) (.tmp 57) rfl w2.heap.size _ es rfl (hgr3 _ hg3) _ rfl 29 rfl (by rw [HL.out]; omega) (Nat.le_trans hs2 hg3.size) ?_; intro gr4 w4 hgr4 hg4 _)
                | fail)
              go_roundw
              case rel => exact ⟨q + 1, _, by go_num, by omega, hI.step hql HV.out hbase (by omega) ho3 hg3 hb3 hk3 hgr4 hg4⟩
              case measure => simp [intOf]; omega
            · obtain rfl : q = 16 := by omega
              go_wp2_with fail
              go_roundw
              case rel =>
                refine ⟨k + 1, es, by go_num, by omega, by rw [hI.len]; omega, hI.own, fun j e hj => ⟨(hI.hE j e hj).1.fresh (fun g _ h => by cases h), fun i u' hi hu' => (hI.hE j e hj).2 i u' (by omega) hu'⟩, hI.hv, fun j u' hj hu' => hI.hl j u' (by omega) hu', hI.hb, hI.size⟩
              case measure => simp [intOf]; omega
        · obtain rfl : k = vs.length := by omega
          clear hl hsz2
          have hE2 : ∀ (j : Nat) (e : Value), es[j]? = some e → ∃ m, OwB wr base e (List.replicate m (mkB (j / 16))) := fun j e hj => by
            obtain ⟨m, h1, _⟩ := (hE j e hj).1
            exact ⟨m, h1⟩
          clear hE
          obtain ⟨G, cG, rfl⟩ := hgr.slice
          have hsm : es.length ≤ 16000 := by omega
          have HE := Lib.hid hE2
          clear hE2 hes hv
          go_wp2_with fail
          obtain ⟨w5, rfl⟩ : ∃ w5, w5 = wr := ⟨_, rfl⟩
          go_loopw [9] (fun i wr => ∃ j : Nat, i = .int .i64 (j : Int) ∧ j ≤ es.length ∧ wr = w5)
            (fun i _ => es.length - (intOf i).toNat)
          case atStart => exact ⟨0, rfl, Nat.zero_le _, rfl⟩
          case round =>
            obtain ⟨j, rfl, hj, rfl⟩ := hrel
            by_cases hjl : j < es.length
            · have hju : es[j]? = some es[j] := List.getElem?_eq_getElem hjl
              obtain ⟨m, how⟩ := HE.out j _ hju
              obtain ⟨gG, rfl⟩ : ∃ gG, G = some ⟨gG, 0, none⟩ := by
                rcases hgr.form with ⟨h, h0⟩ | ⟨g, c, h, _⟩
                · omega
                · injection h with h; exact ⟨g, h⟩
              have hcell := hgr.cells j _ hju
              obtain ⟨B, c, hB⟩ := how.slice' (n := m) (by simp)
              rw [hB] at how hcell
              have hmm := how.len_le
              simp only [List.length_replicate] at hmm
              have hbv := mkB_val (j / 16)
              have HB := Lib.hid hbv
              clear hB hju hbv
              go_wp2_with fail
              obtain ⟨w6, rfl⟩ : ∃ w6, w6 = wr := ⟨_, rfl⟩
              go_loopw [10] (fun i wr => ∃ q : Nat, i = .int .i64 (q : Int) ∧ q ≤ m ∧ wr = w6)
                (fun i _ => m - (intOf i).toNat)
              case atStart => exact ⟨0, rfl, Nat.zero_le _, rfl⟩
              case round =>
                obtain ⟨q, rfl, hq, rfl⟩ := hrel
                by_cases hql : q < m
                · obtain ⟨ad, rfl, hc2⟩ := how.rd.at_ (j := q) (by simpa using hql)
                  rw [List.getElem_replicate, ← HB.out, show ((j / 16 : Nat) : Int) = (j : Int) / 16 by omega] at hc2
                  go_wp2_with fail
                  exact ⟨⟨q + 1, by go_num, by omega, trivial⟩, by simp [intOf]; omega⟩
                · obtain rfl : q = m := by omega
                  go_wp2_with fail
                  go_roundw
                  case rel => exact ⟨j + 1, by go_num, by omega, trivial⟩
                  case measure => simp [intOf]; omega
            · obtain rfl : j = es.length := by omega
              go_wp2_with fail
              go_ret
              exact ⟨rfl, hb⟩
end Go.Proofs.Ytdnfbjmapdgnnaa
