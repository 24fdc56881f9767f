/- plain.lay: the walk. -/
import Derived.Test.YtonbcipofakpjaaPlnSz
import Derived.Test.YtonbcipofakpjaaFoot
import Derived.Deep.RegionHeld3
namespace Go.Proofs.Ytonbcipofakpjaa
open Go.RowKit
/-- What has changed: one block, beside what is new. -/
theorem splice_splice (L a b : List UInt8) (o : Nat) (h : o + a.length + b.length ≤ L.length) : splice (splice L o a) (o + a.length) b = splice L o (a ++ b) := by
  have h1 : (L.take o ++ a).length = o + a.length := by simp; omega
  have e0 : splice L o a = (L.take o ++ a) ++ L.drop (o + a.length) := by unfold splice; rw [List.append_assoc]
  have e1 : (splice L o a).take (o + a.length) = L.take o ++ a := by rw [e0, List.take_left' h1]
  have e2 : (splice L o a).drop (o + a.length + b.length) = L.drop (o + a.length + b.length) := by
    rw [e0, List.drop_append, h1, List.drop_of_length_le (by omega), List.nil_append, List.drop_drop]
    congr 1; omega
  show (splice L o a).take (o + a.length) ++ (b ++ (splice L o a).drop (o + a.length + b.length)) = _
  rw [e1, e2]
  unfold splice
  rw [List.length_append, Nat.add_assoc]
  simp only [List.append_assoc]
theorem splice_length {L a : List UInt8} {o : Nat} (h : o + a.length ≤ L.length) : (splice L o a).length = L.length := by
  unfold splice; simp; omega
theorem splice_next (L a b : List UInt8) (o d n : Nat) (hd : d = o + a.length) (hn : b.length ≤ n) (h : o + a.length + b.length ≤ L.length) : splice (splice L o a) d (b.take (min b.length n)) = splice L o (a ++ b) := by
  rw [Nat.min_eq_left hn, List.take_length, hd, splice_splice L a b o h]
/-- Between the steps of lay. -/
structure LaySt (w0 w : World) (g : Nat) (cs : List Value) (L : List UInt8) (wx : World) : Prop where
  c : OBlk wx w.heap.size 32 cs
  b : OBlk wx g 5 (bvs L)
  lo : Below w0.heap.size w0 wx
  t : Turn (fun k => k = g) w wx
theorem LaySt.step {w0 w : World} {g : Nat} {cs : List Value} {L M : List UInt8} {wx wa wb : World} (h : LaySt w0 w g cs L wx) (hg : w0.heap.size ≤ g) (hgw : g < w.heap.size) (h1 : Below wx.heap.size wx wa) (h2 : wa.grownBy wb (some g)) (hb : OBlk wb g 5 (bvs M)) : LaySt w0 w g cs M wb where
  c := (h.c.below h1 h.c.lt).grown h2 (by simp only [ne_eq, Option.some.injEq]; omega)
  b := hb
  lo := (h.lo.trans (h1.mono h.lo.size)).grown h2 (Nat.le_trans h.lo.size h1.size) (fun k hk => by injection hk with hk; omega)
  t := (h.t.trans (Turn.of_below (F := fun k => k = g) h1) (fun b e => .inl e)).grown h2 (fun b e => by injection e with e; exact .inl e.symm)
theorem Fixed_2 (n : Nat) (hn : n < 18446744073709551616) (w : World) : Calls Try.prog 77 #[.int .u64 n, .int .i64 2] w fun e w' => e = .returned (.slice (some ⟨w.heap.size, 0, none⟩) 2 2) ∧ OBlk w' w.heap.size 5 (bvs (fixedF n 2)) ∧ Below w.heap.size w w' ∧ w'.heap.size = w.heap.size + 1 := Fixed_any n hn 2 (by omega) (by omega) w
set_option maxRecDepth 100000 in
set_option maxHeartbeats 4000000 in
theorem lay_any (x : CV) (P : Nat) (hP : P ≤ 65536) (hc : OkC P x.c) (w0 w : World) (hx : x.ok w0) (hB : Below w0.heap.size w0 w) (g o m cap : Nat) (L : List UInt8) (hg : w0.heap.size ≤ g) (hL : OBlk w g 5 (bvs L)) (hm : o + m ≤ L.length) (hcap : m ≤ cap) (hcp : cap ≤ 140737488355328) (hfit : longF x.c ≤ m) (hcx : longF x.c < cap) :
    Calls Try.prog 78 #[.slice (some ⟨g, o, none⟩) m cap, cellV x] w fun e w' => (∃ v, e = .returned v) ∧ OBlk w' g 5 (bvs (splice L o (cellF x.c))) ∧ Below w0.heap.size w0 w' ∧ Turn (fun k => k = g) w w' := by
  have hxw := hx.below hB
  obtain ⟨A, ca, B, cb, key, ck, val, pg, ct, rfl, hk1, hk2⟩ := CV.form hx
  have hlen := cellF_length ⟨key, ck, val, pg, ct⟩
  have hA : Below w.heap.size w (w.alloc (.cells #[.slice A key.length ca, .int .i64 ck, .slice B val.length cb, .int .i64 pg, .int .i64 ct] 32)) := (Below.refl _ _).alloc (Nat.le_refl _) _
  have hb := OBlk.new' w 32 [.slice A key.length ca, .int .i64 ck, .slice B val.length cb, .int .i64 pg, .int .i64 ct]
  obtain ⟨c0, c1, c2, c3, c4⟩ := cells5 hb
  have hL1 := hL.alloc (.cells #[.slice A key.length ca, .int .i64 ck, .slice B val.length cb, .int .i64 pg, .int .i64 ct] 32)
  have hgl := hL.lt
  have hl5 := longF_pos ⟨key, ck, val, pg, ct⟩
  have hfit' : longF ⟨key, ck, val, pg, ct⟩ ≤ m := hfit
  have hcx' : longF ⟨key, ck, val, pg, ct⟩ < cap := hcx
  clear hfit hcx
  have i1 : (0 : Int) < (m : Int) := by omega
  have f0 := hL1.frozen (j := o) (by rw [bvs_length]; omega)
  obtain ⟨y, hy⟩ : ∃ y, L[o]? = some y := ⟨_, List.getElem?_eq_getElem (by omega)⟩
  have z0 := hL1.cell' (j := o) (u := .int .u8 (y.toNat : Int)) (by simp [bvs, hy]; rfl)
  unfold cellV
  have hkd := hc.kd
  simp only at hkd
  have hck : Value.int .u8 ck = bv (UInt8.ofNat ck.toNat) := by show _ = Value.int .u8 ((UInt8.ofNat ck.toNat).toNat : Int); rw [UInt8.toNat_ofNat']; congr 1; omega
  have hkl : key.length ≤ 8192 := by have := hc.k0; simp only at this; omega
  have hlo : longF ⟨key, ck, val, pg, ct⟩ = if ck = 1 then 5 + key.length + val.length else 11 + key.length := rfl
  have hlo2 : 5 + key.length ≤ longF ⟨key, ck, val, pg, ct⟩ := by rw [hlo]; split <;> omega
  have HK := Lib.hid hck
  clear hck hlo
  go_enter Try.func78, Try.ntmps78
  go_upto_region 1 with (fail)
  go_cut [] (fun wx => LaySt w0 w g [.slice A key.length ca, .int .i64 ck, .slice B val.length cb, .int .i64 pg, .int .i64 ct] (splice L o [UInt8.ofNat ck.toNat]) wx)
  case first =>
    go_wp2_with fail
    go_meet
    rw [HK.out]
    have h2 := (hL.set o (bv (UInt8.ofNat ck.toNat))).alloc (.cells #[.slice A key.length ca, .int .i64 ck, .slice B val.length cb, .int .i64 pg, .int .i64 ct] 32)
    rw [show bv (UInt8.ofNat ck.toNat) = Value.int .u8 ((UInt8.ofNat ck.toNat).toNat : Int) from rfl, ← bvs_set] at h2
    have e : L.set o (UInt8.ofNat ck.toNat) = splice L o [UInt8.ofNat ck.toNat] := by
      rw [List.set_eq_take_append_cons_drop, if_pos (by omega)]
      unfold splice; simp
    rw [e] at h2
    have h3 := OBlk.new' (w.setCell ⟨g, o, none⟩ (bv (UInt8.ofNat ck.toNat))) 32 [.slice A key.length ca, .int .i64 ck, .slice B val.length cb, .int .i64 pg, .int .i64 ct]
    simp only [World.size_setCell] at h3
    exact ⟨h3, h2, (hB.setCell hg _).alloc (by simp only [World.size_setCell]; exact hB.size) _, ((Turn.refl (fun k => k = g) w).setCell ⟨g, o, none⟩ _ (.inl rfl)).alloc _⟩
  case rest =>
    clear z0 f0 c0 c1 c2 c3 c4 hb hL1 hL hy HK
    have hs1 : (splice L o [UInt8.ofNat ck.toNat]).length = L.length := splice_length (by simp; omega)
    have n1 : ¬ cap = 1 := by omega
    have n2 : (1 : Int) ≤ (m : Int) := by omega
    have hwn : IntKind.u64.wrap (key.length : Int) = (key.length : Int) := IntWalk.u64_in _ (by omega)
    go_upto_region 2 with (fail)
    go_cut [] (fun wx => LaySt w0 w g [.slice A key.length ca, .int .i64 ck, .slice B val.length cb, .int .i64 pg, .int .i64 ct] (splice L o (UInt8.ofNat ck.toNat :: fixedF key.length 2)) wx)
    case first =>
      obtain ⟨c0, c1, c2, c3, c4⟩ := cells5 hcut.c
      have hz := hcut.c.lt
      go_region_held3 (fun w' => w'.cell? ⟨w.heap.size, 0, none⟩ = some (.slice A key.length ca))
        (first
          | exact c0
          | exact (hw7.cell (by simpa using hz)).trans c0
          | exact hg8.cell ((hw7.cell (by simpa using hz)).trans c0) (by simp; omega))
        (first
          | (go_at_call 77; (with_reducible refine (Fixed_2 key.length (by omega) _).mono ?_); rintro e w7 ⟨rfl, hf7, hw7, hs7⟩)
          | (refine step_copy_B (by rfl) (.tmp 10) (.tmp 15) (by rfl) _ (m - 1) (cap - 1) g (o + 1) (by rfl) _ ((hcut.b.drew).below hw7 (by have := hcut.b.lt; simpa using this)) (fun _ => rfl) (by rw [hs1]; omega) _ (fixedF key.length 2) (by rfl) (hf7.rdB (fixedF_length _ 2) (by omega)) ?_; intro w8 hb8 hg8)
          | fail)
      go_wp2_with fail
      go_meet
      rw [splice_next L [UInt8.ofNat ck.toNat] (fixedF key.length 2) o (o + 1) (m - 1) rfl (by rw [fixedF_length]; omega) (by rw [fixedF_length]; simp; omega)] at hb8
      exact hcut.step hg hgl ((Below.refl _ _).drew.trans hw7) hg8 hb8
    case rest =>
      have hs3 : (splice L o (UInt8.ofNat ck.toNat :: fixedF key.length 2)).length = L.length := splice_length (by simp [fixedF_length]; omega)
      have n3 : ¬ cap = 3 := by omega
      have n4 : (3 : Int) ≤ (m : Int) := by omega
      have n5 : ¬ cap = 3 + key.length := by omega
      have n6 : ((3 : Int) + (key.length : Int)) ≤ (m : Int) := by omega
      have n7 : min key.length (m - 3) = key.length := by omega
      have n8 : IntKind.i64.wrap ((3 : Int) + (key.length : Int)) = (3 : Int) + (key.length : Int) := by rw [IntKind.wrap_i64]; omega
      have n9 : (0 : Int) ≤ (3 : Int) + (key.length : Int) := by omega
      have n10 : ((3 : Int) + (key.length : Int)).toNat = 3 + key.length := by omega
      have n11 : ¬ cap = ((3 : Int) + (key.length : Int)).toNat := by omega
      go_upto_region 3 with (fail)
      go_cut [0] (fun s wx => s = .slice (some ⟨g, o + (3 + key.length), none⟩) (m - (3 + key.length)) (cap - (3 + key.length)) ∧ LaySt w0 w g [.slice A key.length ca, .int .i64 ck, .slice B val.length cb, .int .i64 pg, .int .i64 ct] (splice L o (UInt8.ofNat ck.toNat :: (fixedF key.length 2 ++ key))) wx)
      case first =>
        obtain ⟨c0, c1, c2, c3, c4⟩ := cells5 hcut.c
        have hz := hcut.c.lt
        have hrd := (hx.k.below hcut.lo (Nat.le_refl _)).drew
        go_region_held3 (fun w' => w'.cell? ⟨w.heap.size, 0, none⟩ = some (.slice A key.length ca))
          (first
            | exact c0
            | exact hg8.cell c0 (by simp; omega))
          (first
            | (refine step_copy_B (by rfl) (.tmp 19) (.tmp 21) (by rfl) _ (m - 3) (cap - 3) g (o + 3) (by rfl) _ (hcut.b.drew) (fun _ => rfl) (by rw [hs3]; omega) _ key (by rfl) hrd ?_; intro w8 hb8 hg8)
            | fail)
        go_wp2_with fail
        go_meet
        rw [splice_next L (UInt8.ofNat ck.toNat :: fixedF key.length 2) key o (o + 3) (m - 3) (by simp [fixedF_length]) (by omega) (by simp [fixedF_length]; omega)] at hb8
        exact ⟨rfl, hcut.step hg hgl (Below.refl _ _).drew hg8 hb8⟩
      case rest =>
        obtain ⟨rfl, hst⟩ := hcut
        have hs4 : (splice L o (UInt8.ofNat ck.toNat :: (fixedF key.length 2 ++ key))).length = L.length := splice_length (by simp [fixedF_length]; omega)
        obtain ⟨c0, c1, c2, c3, c4⟩ := cells5 hst.c
        have hz := hst.c.lt
        have hlen4 : (UInt8.ofNat ck.toNat :: (fixedF key.length 2 ++ key)).length = 3 + key.length := by simp [fixedF_length]; omega
        clear n1 n2 n3 n4 n5 n6 n7 n8 n9 n10 n11 hs1 hs3
        by_cases h1 : ck = 1
        · subst h1
          have hlo : longF ⟨key, 1, val, pg, ct⟩ = 5 + key.length + val.length := rfl
          have hvl : val.length ≤ 65536 := by have := (hc.v0 rfl).1; simp only at this; omega
          have hwv : IntKind.u64.wrap (val.length : Int) = (val.length : Int) := IntWalk.u64_in _ (by omega)
          have n1 : ¬ cap - (3 + key.length) = 2 := by omega
          have n2 : (2 : Int) ≤ ((m - (3 + key.length) : Nat) : Int) := by omega
          go_upto_region 6 with (first
            | (go_at_call 77; (with_reducible refine (Fixed_2 val.length (by omega) _).mono ?_); rintro e w7 ⟨rfl, hf7, hw7, hs7⟩)
            | ((with_reducible refine at_copy ?_); refine wp_copy_B rfl (.tmp 28) (.tmp 33) rfl _ (m - (3 + key.length)) (cap - (3 + key.length)) g (o + (3 + key.length)) rfl _ (hst.b.below hw7 hst.b.lt) (fun _ => rfl) (by rw [hs4]; omega) _ (fixedF val.length 2) rfl (hf7.rdB (fixedF_length _ 2) (by omega)) ?_; intro w8 hb8 hg8)
            | fail)
          rw [splice_next L (UInt8.ofNat (1 : Int).toNat :: (fixedF key.length 2 ++ key)) (fixedF val.length 2) o (o + (3 + key.length)) _ (by rw [hlen4]) (by rw [fixedF_length]; omega) (by rw [fixedF_length, hlen4]; omega)] at hb8
          have hst8 := hst.step hg hgl hw7 hg8 hb8
          clear c0 c1 c2 c3 c4 hb8
          obtain ⟨c0, c1, c2, c3, c4⟩ := cells5 hst8.c
          have hlen5 : ((UInt8.ofNat (1 : Int).toNat :: (fixedF key.length 2 ++ key)) ++ fixedF val.length 2).length = 3 + key.length + 2 := by rw [List.length_append, hlen4, fixedF_length]
          have hs5 : (splice L o ((UInt8.ofNat (1 : Int).toNat :: (fixedF key.length 2 ++ key)) ++ fixedF val.length 2)).length = L.length := splice_length (by rw [hlen5]; omega)
          have hrd := (hx.v.below hst8.lo (Nat.le_refl _)).drew
          clear hst hg8 hw7 hf7 hs7
          go_region_held3 (fun w' => w'.cell? ⟨w.heap.size, 2, none⟩ = some (.slice B val.length cb))
            (first
              | exact c2
              | exact hg9.cell c2 (by simp; omega))
            (first
              | (refine step_copy_B (by rfl) (.tmp 36) (.tmp 38) (by rfl) _ (m - (3 + key.length) - 2) (cap - (3 + key.length) - 2) g (o + (3 + key.length) + 2) (by rfl) _ (hst8.b.drew) (fun _ => rfl) (by rw [hs5]; omega) _ val (by rfl) hrd ?_; intro w9 hb9 hg9)
              | fail)
          go_wp2_with fail
          refine bodyPost_ret (results_none rfl _ _ _) rfl ?_
          rw [splice_next L ((UInt8.ofNat (1 : Int).toNat :: (fixedF key.length 2 ++ key)) ++ fixedF val.length 2) val o (o + (3 + key.length) + 2) _ (by rw [hlen5]; omega) (by omega) (by rw [hlen5]; omega)] at hb9
          have hst9 := hst8.step hg hgl (Below.refl _ _).drew hg9 hb9
          have e : (UInt8.ofNat (1 : Int).toNat :: (fixedF key.length 2 ++ key)) ++ fixedF val.length 2 ++ val = cellF ⟨key, 1, val, pg, ct⟩ := by simp [cellF, tailF]
          rw [e] at hst9
          exact ⟨⟨_, rfl⟩, hst9.b, hst9.lo, hst9.t⟩
        · have hb1 : (ck == 1) = false := beq_eq_false_iff_ne.2 h1
          have hlo : longF ⟨key, ck, val, pg, ct⟩ = 11 + key.length := if_neg h1
          have hv1 := hc.v1 h1
          simp only at hv1
          obtain ⟨hv0, hp0, hp1, hc0, hc1⟩ := hv1
          obtain ⟨pn, rfl⟩ : ∃ pn : Nat, pg = (pn : Int) := ⟨pg.toNat, by omega⟩
          obtain ⟨cn, rfl⟩ : ∃ cn : Nat, ct = (cn : Int) := ⟨ct.toNat, by omega⟩
          have hpw : IntKind.u64.wrap (pn : Int) = (pn : Int) := IntWalk.u64_in _ (by omega)
          have hcw : IntKind.u64.wrap (cn : Int) = (cn : Int) := IntWalk.u64_in _ (by omega)
          have e : (UInt8.ofNat ck.toNat :: (fixedF key.length 2 ++ key)) ++ fixedF pn 4 ++ fixedF cn 4 = cellF ⟨key, ck, val, (pn : Int), (cn : Int)⟩ := by simp [cellF, tailF, h1]
          have HE := Lib.hid e
          have n1 : ¬ cap - (3 + key.length) = 4 := by omega
          have n2 : (4 : Int) ≤ ((m - (3 + key.length) : Nat) : Int) := by omega
          clear hv0 h1 e
          go_upto_region 8 with (first
            | (go_at_call 77; (with_reducible refine (Fixed_4 pn (by omega) _).mono ?_); rintro e w7 ⟨rfl, hf7, hw7, hs7⟩)
            | ((with_reducible refine at_copy ?_); refine wp_copy_B rfl (.tmp 40) (.tmp 44) rfl _ (m - (3 + key.length)) (cap - (3 + key.length)) g (o + (3 + key.length)) rfl _ (hst.b.below hw7 hst.b.lt) (fun _ => rfl) (by rw [hs4]; omega) _ (fixedF pn 4) rfl (hf7.rdB (fixedF_length _ 4) (by omega)) ?_; intro w8 hb8 hg8)
            | fail)
          rw [splice_next L (UInt8.ofNat ck.toNat :: (fixedF key.length 2 ++ key)) (fixedF pn 4) o (o + (3 + key.length)) _ (by rw [hlen4]) (by rw [fixedF_length]; omega) (by rw [fixedF_length, hlen4]; omega)] at hb8
          have hst8 := hst.step hg hgl hw7 hg8 hb8
          clear c0 c1 c2 c3 c4 hb8
          obtain ⟨c0, c1, c2, c3, c4⟩ := cells5 hst8.c
          have hlen5 : ((UInt8.ofNat ck.toNat :: (fixedF key.length 2 ++ key)) ++ fixedF pn 4).length = 3 + key.length + 4 := by rw [List.length_append, hlen4, fixedF_length]
          have hs5 : (splice L o ((UInt8.ofNat ck.toNat :: (fixedF key.length 2 ++ key)) ++ fixedF pn 4)).length = L.length := splice_length (by rw [hlen5]; omega)
          clear hst hg8 hw7 hf7 hs7
          have hz8 := hst8.c.lt
          go_region_held3 (fun w' => w'.cell? ⟨w.heap.size, 4, none⟩ = some (.int .i64 (cn : Int)))
            (first
              | exact c4
              | exact (hw9.cell (by simpa using hz8)).trans c4
              | exact hg10.cell ((hw9.cell (by simpa using hz8)).trans c4) (by simp; omega))
            (first
              | (go_at_call 77; (with_reducible refine (Fixed_4 cn (by omega) _).mono ?_); rintro e w9 ⟨rfl, hf9, hw9, hs9⟩)
              | (refine step_copy_B (by rfl) (.tmp 47) (.tmp 51) (by rfl) _ (m - (3 + key.length) - 4) (cap - (3 + key.length) - 4) g (o + (3 + key.length) + 4) (by rfl) _ ((hst8.b.drew).below hw9 (by have := hst8.b.lt; simpa using this)) (fun _ => rfl) (by rw [hs5]; omega) _ (fixedF cn 4) (by rfl) (hf9.rdB (fixedF_length _ 4) (by omega)) ?_; intro w10 hb10 hg10)
              | fail)
          go_wp2_with fail
          refine bodyPost_end (results_none rfl _ _ _) rfl ?_
          rw [splice_next L ((UInt8.ofNat ck.toNat :: (fixedF key.length 2 ++ key)) ++ fixedF pn 4) (fixedF cn 4) o (o + (3 + key.length) + 4) _ (by rw [hlen5]; omega) (by rw [fixedF_length]; omega) (by rw [fixedF_length, hlen5]; omega)] at hb10
          have hst10 := hst8.step hg hgl ((Below.refl _ _).drew.trans hw9) hg10 hb10
          rw [HE.out] at hst10
          exact ⟨⟨_, rfl⟩, hst10.b, hst10.lo, hst10.t⟩
end Go.Proofs.Ytonbcipofakpjaa
