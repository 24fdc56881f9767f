/- Texts joined: espalierref03.Plate; espalierref03.Plate; espalierref03.Plate; espalierref03.Plate; espalierref03.Plate; espalierref03.Plate; espalierref03.Plate; espalierref03.Plate; espalierref03.Plate -/
import Derived.Test.YtipjngoenklioaaG4
import Derived.Deep.DeepCutAuto
import Derived.Deep.CutBlock
import Derived.Outline
import Derived.Deep.RegionLaw
-- espalierref03.Plate: Reading: the walk.
namespace Go.Proofs.Ytipjngoenklioaa
open Go.RowKit
theorem RfAt.looseAt {w : World} {F : Nat → Prop} {r : RRaw} {S : PS} (h : RfAt w F r S) {i : Nat} (hi : i < S.wild.length) :
    ∃ A c ad B d, r.wl = .slice A S.wild.length c ∧ A = some ad ∧ w.cell? (ad.add (i * 2)) = some (.int .i64 (S.wild[i].1 : Int)) ∧ w.cell? ⟨(ad.add (i * 2)).block, (ad.add (i * 2)).off + 1, none⟩ = some (.slice B S.wild[i].2.length d) ∧ RdB w (.slice B S.wild[i].2.length d) S.wild[i].2 := by
  obtain ⟨_, A, c, hv, _, _, h3⟩ := h.loose.rd
  have hip : i < r.dv.length := by rw [h.dlen]; exact hi
  obtain ⟨ad, rfl, hc⟩ := h3 (i * 2) _ (wcells_page S.wild r.dv i h.dlen hi)
  obtain ⟨_, e, hd⟩ := h3 (i * 2 + 1) _ ((wcells_data S.wild r.dv i h.dlen hi).trans (List.getElem?_eq_getElem hip))
  cases e
  obtain ⟨ho, _⟩ := h.data i hi _ (List.getElem?_eq_getElem hip)
  obtain ⟨B, d, hs⟩ := Own.slice ho
  rw [← add_of_add] at hd
  refine ⟨_, c, ad, B, d, hv, rfl, hc, ?_, ?_⟩
  · rw [hs] at hd; exact hd
  · have := OwB.rd ho
    rw [hs] at this
    exact this
set_option maxRecDepth 20000 in
set_option maxHeartbeats 4000000 in
theorem Reading_any (w : World) (F : Nat → Prop) (r : RRaw) (S : PS) (n : Nat) (hn : n < S.pg.length) (h : RfAt w F r S) : Calls Try.prog 58 #[rfPtr r, .int .i64 (n : Int)] w fun e w' => ∃ v l, e = .returned v ∧ readPg S.wild S.pg n = some l ∧ OwB w' w.heap.size v l ∧ Below w.heap.size w w' := by
  obtain ⟨A, c, ad, B, d, hv, rfl, hcell, hrd⟩ := h.pageRd hn
  obtain ⟨W, wc, hwv⟩ := h.loose.slice
  have c1 := h.c1
  have c2 := h.c2
  rw [hv] at c1
  rw [hwv] at c2
  have hpn := h.ok.pn
  have hp2 := h.ok.p2
  have hpl := h.ok.pl
  have hn2 := h.ok.n2
  have hwn := h.ok.we
  have hpe := h.ok.pe _ (List.getElem_mem hn)
  have hlb := h.blk.lt
  have HWV := Lib.hid hwv
  have hnI : (n : Int) < (S.pg.length : Int) := by omega
  have hwlen : S.wild.length ≤ 9223372036854775807 := by
    obtain ⟨_, A', c', hv', q1, q2, _⟩ := h.loose.rd
    simp only [maxLen] at q2
    omega
  have hsy : (syncPg (S.wild.take 0) S.pg)[n]? = some S.pg[n] := by
    show S.pg[n]? = _
    exact List.getElem?_eq_getElem hn
  have HFIN : ∀ l, (syncPg S.wild S.pg)[n]? = some l → Hid (readPg S.wild S.pg n = some l) := fun l hl => Lib.hid ((syncPg_get S.pg n hn S.wild).symm.trans hl)
  have hl0 : S.pg[n].length ≤ 65536 := by omega
  have HWE := Lib.hid hwn
  have HSY := Lib.hid hsy
  clear hv hwv hwn hsy hpe hpl
  generalize S.pg[n] = pg0 at *
  unfold rfPtr
  go_enter Try.func58, Try.ntmps58
  go_wp2_with (first
    | (at_builtin; refine wp_append_B rfl (.const (.slice none 0 0)) (.tmp 13) rfl w.heap.size _ [] rfl (OwB.nil _ _) _ pg0 rfl hrd (by simp; omega) (Nat.le_refl _) ?_; intro v' w' ho' hg' hk'; obtain ⟨nA, nc, hns⟩ := Own.slice ho'; subst hns)
    | fail)
  have hw1 : Below w.heap.size w w' := by
    refine (Below.refl _ _).grown hg' (Nat.le_refl _) (fun k hk => by cases hk)
  go_loopw [5, 6] (fun out i wr => ∃ (k : Nat) (cur : List UInt8), k ≤ S.wild.length ∧ i = .int .i64 (k : Int) ∧ Hid ((syncPg (S.wild.take k) S.pg)[n]? = some cur) ∧ OwB wr w.heap.size out cur ∧ Below w.heap.size w wr) (fun _ i _ => S.wild.length - (intOf i).toNat)
  case atStart => exact ⟨0, pg0, Nat.zero_le _, rfl, HSY, ho', hw1⟩
  case round =>
    clear ho' hg' hk' hw1
    obtain ⟨k, cur, hk, rfl, HS, ho, hB⟩ := hrel
    obtain ⟨oA, oc, hos⟩ := Own.slice ho
    subst hos
    have d2 : wr.cell? ⟨r.pb, 2, none⟩ = some (.slice W S.wild.length wc) := (hB.cell hlb).trans c2
    by_cases hlt : k < S.wild.length
    · have ik : (k : Int) < (S.wild.length : Int) := by omega
      obtain ⟨A2, c2', ad2, B2, d2', hv2, hA2, hp, hd, hrd2⟩ := (h.below hB).looseAt hlt
      have hAA := HWV.out.symm.trans hv2
      injection hAA with hAA _ _
      subst hAA
      subst hA2
      have hwx := HWE.out _ (List.getElem_mem hlt)
      have hst : syncPg (S.wild.take (k + 1)) S.pg = (syncPg (S.wild.take k) S.pg).set S.wild[k].1 S.wild[k].2 := by
        rw [List.take_succ_eq_append_getElem hlt, syncPg_snoc]
      have hsl : n < (syncPg (S.wild.take k) S.pg).length := by rw [syncPg_length]; exact hn
      have hx2 : S.wild[k].2.length ≤ 65536 := by omega
      have hyes : S.wild[k].1 = n → Hid ((syncPg (S.wild.take (k + 1)) S.pg)[n]? = some S.wild[k].2) := fun e => Lib.hid (by rw [hst, e, List.getElem?_set_self hsl])
      have hnot : S.wild[k].1 ≠ n → Hid ((syncPg (S.wild.take (k + 1)) S.pg)[n]? = some cur) := fun e => Lib.hid (by rw [hst, List.getElem?_set_ne e]; exact HS.out)
      clear hst hsl hwx hv2
      generalize S.wild[k].2 = dat at *
      generalize S.wild[k].1 = pn at *
      by_cases he : pn = n
      · have HY := hyes he
        subst he
        clear hyes hnot
        go_wp2_with (first
          | (at_builtin; refine wp_append_B rfl (.const (.slice none 0 0)) (.tmp 41) rfl w.heap.size _ [] rfl (OwB.nil _ _) _ dat rfl hrd2 (by simp; omega) hB.size ?_; intro v2 w2 ho2 hg2 hk2; obtain ⟨nA2, nc2, hns2⟩ := Own.slice ho2; subst hns2)
          | fail)
        exact ⟨⟨k + 1, dat, by omega, by go_num, HY, ho2, hB.grown hg2 hB.size (fun j hj => by cases hj)⟩, by simp only [intOf, IntKind.wrap_i64]; omega⟩
      · have HY := hnot he
        have hne : ((pn : Int) == (n : Int)) = false := beq_eq_false_iff_ne.2 (by omega)
        clear hyes hnot he
        go_wp2_with fail
        exact ⟨⟨k + 1, cur, by omega, by go_num, HY, ho, hB⟩, by simp only [intOf, IntKind.wrap_i64]; omega⟩
    · obtain rfl : k = S.wild.length := by omega
      have HY := HFIN cur (by have := HS.out; rwa [List.take_length] at this)
      go_wp2_with fail
      go_ret
      exact ⟨_, cur, rfl, HY.out, ho, hB⟩
end Go.Proofs.Ytipjngoenklioaa

-- espalierref03.Plate: Image: the walk.
namespace Go.Proofs.Ytipjngoenklioaa
open Go.RowKit
set_option maxRecDepth 20000 in
set_option maxHeartbeats 4000000 in
theorem RImage_any (w : World) (F : Nat → Prop) (r : RRaw) (S : PS) (h : RfAt w F r S) : Calls Try.prog 49 #[rfPtr r] w fun e w' => ∃ v, e = .returned v ∧ OwB w' w.heap.size v (syncPg S.wild S.pg).flatten ∧ Below w.heap.size w w' := by
  obtain ⟨A, c, hv⟩ := h.own.slice
  have c1 := h.c1
  rw [hv] at c1
  have hpl := h.ok.pl
  have hpn := h.ok.pn
  have hpg : S.pg.length ≤ 65536 := by rw [hpl]; exact h.ok.n2
  have hfl : S.pg.flatten.length = S.sz := by rw [flat_len h.ok.pe, h.ok.pl, h.ok.sn]
  have HV := Lib.hid hv
  have HFL := Lib.hid hfl
  have hlb := h.blk.lt
  clear hv hfl
  unfold rfPtr
  go_enter Try.func49, Try.ntmps49
  go_wp2_with fail
  go_loopw [3, 4] (fun out i wr => ∃ k : Nat, k ≤ S.pg.length ∧ i = .int .i64 (k : Int) ∧ OwB wr w.heap.size out (S.pg.take k).flatten ∧ Below w.heap.size w wr) (fun _ i _ => S.pg.length - (intOf i).toNat)
  case atStart => exact ⟨0, Nat.zero_le _, rfl, OwB.nil _ _, Below.refl _ _⟩
  case round =>
    obtain ⟨k, hk, rfl, ho, hB⟩ := hrel
    have hc1 : wr.cell? ⟨r.pb, 1, none⟩ = some (.slice A S.pg.length c) := (hB.cell hlb).trans c1
    obtain ⟨oA, oc, hos⟩ := Own.slice ho
    subst hos
    by_cases hlt : k < S.pg.length
    · have ik : (k : Int) < (S.pg.length : Int) := by omega
      obtain ⟨A2, c2, ad, B, d, hv2, hA2, hcell, hrd⟩ := (h.below hB).pageRd hlt
      have hAA := HV.out.symm.trans hv2
      injection hAA with hAA _ _
      subst hAA
      subst hA2
      have hfs : (S.pg.take (k + 1)).flatten = (S.pg.take k).flatten ++ S.pg[k] := by
        rw [List.take_succ_eq_append_getElem hlt, List.flatten_append]; simp only [List.flatten_cons, List.flatten_nil, List.append_nil]
      have hsz : ((S.pg.take k).flatten ++ S.pg[k]).length ≤ 67108864 := by
        rw [← hfs]
        have : S.pg.flatten = (S.pg.take (k + 1)).flatten ++ (S.pg.drop (k + 1)).flatten := by rw [← List.flatten_append, List.take_append_drop]
        have h2 := HFL.out
        rw [this, List.length_append] at h2
        omega
      rw [List.length_append] at hsz
      have HFS := Lib.hid hfs
      clear hfs hv2
      generalize S.pg[k] = pgk at *
      generalize (S.pg.take k).flatten = acc at *
      go_wp2_with (first
        | (at_builtin; refine wp_append_B rfl (.tmp 15) (.tmp 22) rfl w.heap.size _ acc rfl ho _ pgk rfl hrd (by omega) hB.size ?_; intro v' w' ho' hg' hk'; obtain ⟨nA, nc, hns⟩ := Own.slice ho'; subst hns)
        | fail)
      exact ⟨⟨k + 1, by omega, by go_num, by rw [HFS.out]; have h2 := ho'; rw [List.length_append] at h2; exact h2, hB.grown hg' hB.size (fun j hj => (Own.lt ho j hj).1)⟩, by simp only [intOf, IntKind.wrap_i64]; omega⟩
    · obtain rfl : k = S.pg.length := by omega
      rw [List.take_length, HFL.out] at ho
      rw [List.take_length, HFL.out]
      have hsz0 : 0 < S.sz := by rw [h.ok.sn]; exact Nat.mul_pos (by have := h.ok.p1; omega) (by have := h.ok.n1; omega)
      obtain ⟨g, cg, hog⟩ := ho.some' HFL.out hsz0
      injection hog with hoA _ hoc
      subst hoA hoc
      have c2 := h.c2
      obtain ⟨W, wc, hwv⟩ := h.loose.slice
      rw [hwv] at c2
      have c0 := h.c0
      have hgb : w.heap.size ≤ g ∧ g < wr.heap.size := Own.lt ho g rfl
      have hwlen : S.wild.length ≤ 9223372036854775807 := by
        obtain ⟨_, A', c', hv', q1, q2, _⟩ := h.loose.rd
        simp only [maxLen] at q2
        omega
      have HWV := Lib.hid hwv
      clear hwv
      have hp1 := h.ok.p1
      have hp2 := h.ok.p2
      have HSN := Lib.hid h.ok.sn
      have HPL2 := Lib.hid hpl
      have hcg : S.sz ≤ oc ∧ oc ≤ 9223372036854775807 := by
        obtain ⟨_, h2, h3⟩ := ho.rd.cap
        have hl' := HFL.out
        omega
      have hg0 : r.pb ≠ g := by omega
      clear hpl
      go_wp2_with fail

      go_loopw [5] (fun i wr => ∃ k : Nat, k ≤ S.wild.length ∧ i = .int .i64 (k : Int) ∧ OwB wr w.heap.size (.slice (some ⟨g, 0, none⟩) S.sz oc) (syncPg (S.wild.take k) S.pg).flatten ∧ Below w.heap.size w wr) (fun i _ => S.wild.length - (intOf i).toNat)
      case atStart => exact ⟨0, Nat.zero_le _, rfl, ho, hB⟩
      case round =>
        clear ho hB hgb
        obtain ⟨k, hk, rfl, ho, hB⟩ := hrel
        have d2 : wr.cell? ⟨r.pb, 2, none⟩ = some (.slice W S.wild.length wc) := (hB.cell hlb).trans c2
        have d0 : wr.cell? ⟨r.pb, 0, none⟩ = some (.int .i64 (S.page : Int)) := (hB.cell hlb).trans c0
        by_cases hlt : k < S.wild.length
        · have ik : (k : Int) < (S.wild.length : Int) := by omega
          obtain ⟨A2, c2', ad2, B2, d2', hv2, hA2, hp, hd, hrd2⟩ := (h.below hB).looseAt hlt
          have hAA := HWV.out.symm.trans hv2
          injection hAA with hAA _ _
          subst hAA
          subst hA2
          have hwx := h.ok.we _ (List.getElem_mem hlt)
          have hst : syncPg (S.wild.take (k + 1)) S.pg = (syncPg (S.wild.take k) S.pg).set S.wild[k].1 S.wild[k].2 := by
            rw [List.take_succ_eq_append_getElem hlt, syncPg_snoc]
          have hsl : (syncPg (S.wild.take k) S.pg).length = S.np := by rw [syncPg_length]; exact h.ok.pl
          have hse : ∀ x ∈ syncPg (S.wild.take k) S.pg, x.length = S.page := by
            intro x hx
            obtain ⟨i, hi, rfl⟩ := List.getElem_of_mem hx
            have hin : i < S.pg.length := by rw [h.ok.pl, ← hsl]; exact hi
            have hgi := syncPg_get S.pg i hin (S.wild.take k)
            rw [List.getElem?_eq_getElem hi] at hgi
            unfold readPg at hgi
            split at hgi
            · rename_i j hj
              obtain ⟨hjl, _⟩ := lastI_some hj
              rw [List.getElem?_eq_getElem hjl] at hgi
              simp only [Option.map_some, Option.some.injEq] at hgi
              rw [hgi]
              exact (h.ok.we _ (List.mem_of_mem_take (List.getElem_mem hjl))).2
            · rw [List.getElem?_eq_getElem hin] at hgi
              rw [Option.some.inj hgi]
              exact h.ok.pe _ (List.getElem_mem hin)
          have hcl : (syncPg (S.wild.take k) S.pg).flatten.length = S.sz := by rw [flat_len hse, hsl, h.ok.sn]
          obtain ⟨hpn, hpl⟩ := hwx
          have HST := Lib.hid hst
          have HSL := Lib.hid hsl
          have HSE := Lib.hid hse
          have HCL := Lib.hid hcl
          generalize S.wild[k].2 = dat at *
          generalize S.wild[k].1 = pn at *
          obtain ⟨lo, hlo⟩ : ∃ lo, lo = pn * S.page := ⟨_, rfl⟩
          have e1 : (pn : Int) * (S.page : Int) = (lo : Int) := by rw [hlo]; push_cast; rfl
          have hle : lo + S.page ≤ S.sz := by
            rw [HSN.out, hlo, Nat.mul_comm S.page, ← Nat.succ_mul]
            exact Nat.mul_le_mul_right _ hpn
          have q4 := fun w => run_tail w g S.sz oc lo (lo : Int) rfl (by omega) hcg.1 (by omega) hcg.2
          have wlo : IntKind.i64.wrap (lo : Int) = (lo : Int) := IntWalk.i64_in _ (by omega)
          have HLO := Lib.hid hlo
          have HPL := Lib.hid hpl
          clear hst hsl hse hcl hv2 hlo hpl
          go_upto_region 9 with (fail)
          refine wp_region_dtail 23 (by kernel_rfl) (by kernel_rfl) ?_
          simp only [List.take_succ_cons, List.take_zero, List.drop_succ_cons, List.drop_zero]
          repeat (quiet_step (fail))
          refine wpQuiet_nil ?_
          rintro _ ⟨nq, rfl⟩
          have ho3 : OwB (wr.drewN nq) w.heap.size (.slice (some ⟨g, 0, none⟩) S.sz oc) (syncPg (S.wild.take k) S.pg).flatten := ho
          go_wp2_with (first
            | ((with_reducible refine at_copy ?_); refine wp_copy_At rfl (.tmp 47) (.tmp 55) rfl w.heap.size g S.sz oc lo (some ⟨g, lo, none⟩) (S.sz - lo) (oc - lo) rfl (fun _ => rfl) _ ho3 HCL.out (by omega) _ dat rfl hrd2 ?_; intro w5 hb5 hg5)
            | fail)
          go_goals
          have hpl2 := HPL.out
          rw [Nat.min_eq_left (by omega), List.take_length, HLO.out, flat_splice _ pn dat HSE.out (by rw [HSL.out]; exact hpn) (Nat.le_of_eq hpl2), putPg_full HSE.out hpl2, ← HST.out] at hb5
          exact ⟨⟨k + 1, by omega, by go_num, hb5, (below_drewN hB nq).grown hg5 hB.size (fun j e => by cases e; exact (Own.lt ho g rfl).1)⟩, by simp only [intOf, IntKind.wrap_i64]; omega⟩
        · obtain rfl : k = S.wild.length := by omega
          rw [List.take_length] at ho
          go_wp2_with fail
          go_ret
          exact ⟨_, rfl, ho, hB⟩
end Go.Proofs.Ytipjngoenklioaa

-- espalierref03.Plate: Read: walks.
namespace Go.Proofs.Ytipjngoenklioaa
open Go.RowKit
set_option maxRecDepth 20000 in
set_option maxHeartbeats 2000000 in
theorem RRead_bad (w : World) (F : Nat → Prop) (r : RRaw) (S : PS) (n : Int) (h : RfAt w F r S) (hr : S.ref n ≠ 0) : Calls Try.prog 43 #[rfPtr r, .int .i64 n] w fun e w' => e = .returned (.tuple #[.slice none 0 0, .int .i64 (S.ref n)]) ∧ w = w' := by
  obtain ⟨A, c, hv⟩ := h.own.slice
  have c1 := h.c1
  have c3 := h.c3
  have hpl := h.ok.pl
  rw [hv, hpl] at c1
  cases hd : S.down
  · have hb : n < 0 ∨ (S.np : Int) ≤ n := by
      unfold PS.ref at hr
      rw [hd, if_neg (by simp)] at hr
      by_cases h : n < 0 ∨ (S.np : Int) ≤ n
      · exact h
      · rw [if_neg h] at hr; exact absurd rfl hr
    have HR : Hid (S.ref n = 30) := by show _ = _; unfold PS.ref; rw [hd, if_neg (by simp), if_pos hb]
    rw [hd] at c3
    clear hv hpl hr hd
    unfold rfPtr
    by_cases h0 : n < 0
    · clear hb
      go_enter Try.func43, Try.ntmps43
      go_wp2_with fail
      go_ret2
      rw [HR.out]
      exact ⟨rfl, rfl⟩
    · have hb' : (S.np : Int) ≤ n := by omega
      clear hb
      go_enter Try.func43, Try.ntmps43
      go_wp2_with fail
      go_ret2
      rw [HR.out]
      exact ⟨rfl, rfl⟩
  · have HR : Hid (S.ref n = 3) := by show _ = _; unfold PS.ref; rw [hd]; rfl
    rw [hd] at c3
    clear hv hpl hr hd
    unfold rfPtr
    go_enter Try.func43, Try.ntmps43
    go_wp2_with fail
    go_ret2
    rw [HR.out]
    exact ⟨rfl, rfl⟩
set_option maxRecDepth 20000 in
set_option maxHeartbeats 2000000 in
theorem RRead_ok (w : World) (F : Nat → Prop) (r : RRaw) (S : PS) (n : Nat) (h : RfAt w F r S) (hr : S.ref n = 0) : Calls Try.prog 43 #[rfPtr r, .int .i64 (n : Int)] w fun e w' => ∃ v l, e = .returned (.tuple #[v, .int .i64 0]) ∧ readPg S.wild S.pg n = some l ∧ OwB w' w.heap.size v l ∧ RfAt w' F r S.red ∧ Turn F w w' := by
  obtain ⟨A, c, hv⟩ := h.own.slice
  have c1 := h.c1
  have c3 := h.c3
  have c9 := h.c9
  have hpl := h.ok.pl
  rw [hv, hpl] at c1
  have hd : S.down = false ∧ n < S.np := by
    unfold PS.ref at hr
    split at hr
    · cases hr
    · rename_i h1
      split at hr
      · cases hr
      · exact ⟨by simpa using h1, by omega⟩
  obtain ⟨hd, hn⟩ := hd
  rw [hd] at c3
  have f9 := h.fz (j := 9) (by omega)
  have hbk := h.blk.set 9 (.int .i64 (inc64 S.cr))
  have hok : S.red.ok := { h.ok with c1 := inc64_range S.cr }
  have hP1 := h.pb_write (S' := S.red) (grownBy_setCell w ⟨r.pb, 9, none⟩ (.int .i64 (inc64 S.cr))) hbk hok rfl rfl rfl rfl
  have hT1 : Turn F w (w.setCell ⟨r.pb, 9, none⟩ (.int .i64 (inc64 S.cr))) := (Turn.refl F w).setCell _ _ (.inl h.fp)
  have hrg := Reading_any _ F r S.red n (by show n < S.pg.length; rw [hpl]; exact hn) hP1
  have hni : ¬ ((S.np : Int) ≤ (n : Int)) := by omega
  have HD := Lib.hid hd
  have HRG := Lib.hid hrg
  have HP1 := Lib.hid hP1
  have HT1 := Lib.hid hT1
  clear hv hpl hr hd hbk hok hrg hP1 hT1
  unfold rfPtr at HRG ⊢
  go_enter Try.func43, Try.ntmps43
  go_wp2_with fail
  refine HRG.out.mono ?_
  rintro e w2 ⟨v, l, rfl, hl, ho, hb⟩
  obtain ⟨B, d, hs⟩ := Own.slice ho
  subst hs
  have HL := Lib.hid hl
  clear hl
  go_wp2_with fail
  go_ret2
  have hb' : Below w.heap.size (w.setCell ⟨r.pb, 9, none⟩ (.int .i64 (inc64 S.cr))) w2 := by simpa using hb
  refine ⟨_, l, rfl, HL.out, by simpa using ho, HP1.out.below hb, HT1.out.new hb'⟩
end Go.Proofs.Ytipjngoenklioaa

-- espalierref03.Plate: one byte of a page is written: a law of the state.
namespace Go.Proofs.Ytipjngoenklioaa
open Go.RowKit
theorem OwB.blkU {w : World} {b : Nat} {v : Value} {l : List UInt8} (h : OwB w b v l) {k : Nat} (hk : v.ownBlock = some k) : ∃ cs, OBlk w k 5 cs := by
  rcases h.2 with ⟨rfl, _⟩ | ⟨g', cap, cs', rfl, _, hg', _⟩
  · simp [Value.ownBlock] at hk
  · simp [Value.ownBlock] at hk
    subst hk
    exact ⟨cs', hg'⟩
theorem RfAt.pageOwn {w : World} {F : Nat → Prop} {r : RRaw} {S : PS} (h : RfAt w F r S) {p : Nat} (hp : p < S.pg.length) : ∃ g cap, r.pv[p]? = some (.slice (some ⟨g, 0, none⟩) S.page cap) ∧ OwB w 0 (.slice (some ⟨g, 0, none⟩) S.page cap) S.pg[p] ∧ F g ∧ g < w.heap.size := by
  have hip : p < r.pv.length := by rw [h.pl]; exact hp
  obtain ⟨ho, hf⟩ := h.page p hp _ (List.getElem?_eq_getElem hip)
  obtain ⟨g, c, he⟩ := ho.some' (h.ok.pe _ (List.getElem_mem hp)) (by have := h.ok.p1; omega)
  rw [he] at ho hf
  exact ⟨g, c, by rw [List.getElem?_eq_getElem hip, he], ho, hf g rfl, (Own.lt ho g rfl).2⟩
theorem RfAt.page_setk {w : World} {F : Nat → Prop} {r : RRaw} {S : PS} (h : RfAt w F r S) {p : Nat} (hp : p < S.pg.length) {g cap : Nat} (hv : r.pv[p]? = some (.slice (some ⟨g, 0, none⟩) S.page cap)) (ho : OwB w 0 (.slice (some ⟨g, 0, none⟩) S.page cap) S.pg[p]) (k : Nat) (x : UInt8) :
    RfAt (w.setCell ⟨g, k, none⟩ (.int .u8 (x.toNat : Int))) F r { S with pg := S.pg.set p (S.pg[p].set k x) } := by
  obtain ⟨cs, hb⟩ := OwB.blkU ho (k := g) rfl
  have hg := grownBy_setCell w ⟨g, k, none⟩ (.int .u8 (x.toNat : Int))
  have hset := OwB.set ho k x
  have hpe : ∀ l ∈ S.pg.set p (S.pg[p].set k x), l.length = S.page := by
    intro l hl
    rcases List.mem_or_eq_of_mem_set hl with h1 | rfl
    · exact h.ok.pe l h1
    · rw [List.length_set]; exact h.ok.pe _ (List.getElem_mem hp)
  exact
    { ok := { h.ok with pl := by simp only [List.length_set]; exact h.ok.pl, pe := hpe }
      blk := h.blk.grown hg (fun e => h.blk.ne hb (by decide) (Option.some.inj e))
      own := by simp only [List.length_set]; exact h.own.grown hg (fun g' hg' e => h.own.ne_T hb (by decide) (by rw [hg', e]))
      pl := by simp only [List.length_set]; exact h.pl
      page := fun i hi v hvi => by
        have hi' : i < S.pg.length := by simpa using hi
        obtain ⟨ho', hf'⟩ := h.page i hi' v hvi
        refine ⟨?_, hf'⟩
        by_cases e : p = i
        · subst e
          rw [hv] at hvi
          cases hvi
          simp only [List.getElem_set_self]
          exact hset
        · simp only [List.getElem_set_ne e]
          exact Own.grown ho' hg fun g' hg' e' => h.apart p i _ _ e hv hvi g rfl (by rw [hg', e'])
      apart := h.apart
      loose := h.loose.grown hg (fun g' hg' e => h.loose.ne_T hb (by decide) (by rw [hg', e]))
      dlen := h.dlen
      data := fun i hi v hvi => ⟨Own.grown (h.data i hi v hvi).1 hg fun g' hg' e => ((h.data i hi v hvi).2 g' hg').2 p _ hv e, (h.data i hi v hvi).2⟩
      keep := h.keep.grown hg (fun g' hg' e => h.keep.ne_T hb (by decide) (by rw [hg', e]))
      armed := h.armed
      acts := h.acts
      ra := h.ra
      fp := h.fp, fl := h.fl, fw := h.fw, fk := h.fk, lt := fun k hk => Nat.lt_of_lt_of_le (h.lt k hk) hg.size }
end Go.Proofs.Ytipjngoenklioaa

-- espalierref03.Plate: fall: the walk.
namespace Go.Proofs.Ytipjngoenklioaa
open Go.RowKit
/-- Only blocks of pages have changed, and what is new. -/
structure PgOnly (r : RRaw) (w w' : World) : Prop where
  os : w'.os = w.os
  tape : w'.tape = w.tape
  output : w'.output = w.output
  size : w.heap.size ≤ w'.heap.size
  block : ∀ b, b < w.heap.size → (∀ (j : Nat) (v : Value), r.pv[j]? = some v → some b ≠ v.ownBlock) → w'.heap[b]? = w.heap[b]?
theorem PgOnly.refl (r : RRaw) (w : World) : PgOnly r w w := ⟨rfl, rfl, rfl, Nat.le_refl _, fun _ _ _ => rfl⟩
theorem PgOnly.below {r : RRaw} {w w' w'' : World} (h : PgOnly r w w') (hb : Below w'.heap.size w' w'') : PgOnly r w w'' :=
  ⟨hb.os.trans h.os, hb.tape.trans h.tape, hb.output.trans h.output, Nat.le_trans h.size hb.size, fun b h1 h2 => (hb.block b (Nat.lt_of_lt_of_le h1 h.size)).trans (h.block b h1 h2)⟩
theorem PgOnly.set {r : RRaw} {w w' : World} (h : PgOnly r w w') {p : Nat} {g n cap : Nat} (hv : r.pv[p]? = some (.slice (some ⟨g, 0, none⟩) n cap)) (k : Nat) (u : Value) : PgOnly r w (w'.setCell ⟨g, k, none⟩ u) := by
  have hg := grownBy_setCell w' ⟨g, k, none⟩ u
  exact ⟨hg.os.trans h.os, hg.tape.trans h.tape, hg.output.trans h.output, Nat.le_trans h.size hg.size, fun b h1 h2 => (hg.block b (Nat.lt_of_lt_of_le h1 h.size) (fun e => h2 p _ hv (by rw [e]; rfl))).trans (h.block b h1 h2)⟩
theorem PgOnly.drew {r : RRaw} {w w' : World} (h : PgOnly r w w') : PgOnly r w w'.drew := ⟨h.os, h.tape, h.output, h.size, h.block⟩
theorem putPg_nil (pg : List (List UInt8)) (p : Nat) : putPg pg p [] = pg := by
  unfold putPg
  by_cases h : p < pg.length
  · simp [List.getD, h]
  · rw [List.set_eq_of_length_le (by omega)]
theorem putPg_step {pg : List (List UInt8)} {p P k : Nat} {dat : List UInt8} (hp : p < pg.length) (hP : pg[p].length = P) (hk : k < P) (hd : dat.length = P) :
    ∀ pg', pg' = putPg pg p (dat.take k) → ∃ h : p < pg'.length, putPg pg p (dat.take (k + 1)) = pg'.set p (pg'[p].set k (dat[k]'(by omega))) := by
  intro pg' e
  have h1 : (dat.take k).length = k := by simp; omega
  have h2 : (dat.take (k + 1)).length = k + 1 := by simp; omega
  have e1 : putPg pg p (dat.take k) = pg.set p (dat.take k ++ pg[p].drop k) := by
    unfold putPg
    rw [h1]
    simp only [List.getD, List.getElem?_eq_getElem hp, Option.getD_some]
  rw [e1] at e
  subst e
  refine ⟨by simpa using hp, ?_⟩
  unfold putPg
  rw [h2]
  simp only [List.getElem_set_self, List.set_set, List.getD, List.getElem?_eq_getElem hp, Option.getD_some]
  congr 1
  rw [List.set_append_right _ _ (by omega), h1, Nat.sub_self]
  have h3 : pg[p].drop k = pg[p][k]'(by omega) :: pg[p].drop (k + 1) := List.drop_eq_getElem_cons (by omega)
  rw [h3, List.set_cons_zero, List.take_succ_eq_append_getElem (by omega), List.append_assoc]
  rfl
/-- How many bytes of a write stay. -/
def stayN (P : Nat) (ks : List Int) (torn at_ : Int) (i : Nat) : Int := if torn = (i : Int) then at_ else if (i : Int) ∈ ks then (P : Int) else 0
theorem fallOne_stay {P : Nat} {ks : List Int} {torn at_ : Int} {i : Nat} {x : Nat × List UInt8} {pg : List (List UInt8)} (hx : x.2.length = P) : fallOne P ks torn at_ i x pg = putPg pg x.1 (x.2.take (tornLen (stayN P ks torn at_ i) P)) := by
  unfold fallOne stayN
  by_cases h : (i : Int) = torn
  · rw [if_pos h, if_pos h.symm]
  · rw [if_neg h, if_neg (show ¬ torn = (i : Int) from fun e => h e.symm)]
    by_cases h2 : (i : Int) ∈ ks
    · rw [if_pos h2, if_pos h2]
      have : tornLen (P : Int) P = P := by unfold tornLen; omega
      rw [this, ← hx, List.take_length]
    · rw [if_neg h2, if_neg h2]
      have : tornLen 0 P = 0 := by unfold tornLen; omega
      rw [this, List.take_zero, putPg_nil]
theorem RfAt.looseDv {w : World} {F : Nat → Prop} {r : RRaw} {S : PS} (h : RfAt w F r S) {i : Nat} (hi : i < S.wild.length) :
    ∃ A c ad B d, r.wl = .slice A S.wild.length c ∧ A = some ad ∧ w.cell? (ad.add (i * 2)) = some (.int .i64 (S.wild[i].1 : Int)) ∧ w.cell? ⟨(ad.add (i * 2)).block, (ad.add (i * 2)).off + 1, none⟩ = some (.slice B S.wild[i].2.length d) ∧ r.dv[i]? = some (.slice B S.wild[i].2.length d) := by
  obtain ⟨_, A, c, hv, _, _, h3⟩ := h.loose.rd
  have hip : i < r.dv.length := by rw [h.dlen]; exact hi
  obtain ⟨ad, rfl, hc⟩ := h3 (i * 2) _ (wcells_page S.wild r.dv i h.dlen hi)
  obtain ⟨_, e, hd⟩ := h3 (i * 2 + 1) _ ((wcells_data S.wild r.dv i h.dlen hi).trans (List.getElem?_eq_getElem hip))
  cases e
  obtain ⟨ho, _⟩ := h.data i hi _ (List.getElem?_eq_getElem hip)
  obtain ⟨B, d, hs⟩ := Own.slice ho
  rw [← add_of_add] at hd
  refine ⟨_, c, ad, B, d, hv, rfl, hc, ?_, ?_⟩
  · rw [hs] at hd; exact hd
  · rw [List.getElem?_eq_getElem hip, hs]
theorem RfAt.pageCell {w : World} {F : Nat → Prop} {r : RRaw} {S : PS} (h : RfAt w F r S) {p : Nat} {v : Value} (hv : r.pv[p]? = some v) : ∃ A c ad, r.lv = .slice A S.pg.length c ∧ A = some ad ∧ w.cell? (ad.add p) = some v := by
  obtain ⟨_, A, c, hl, _, _, h3⟩ := h.own.rd
  obtain ⟨ad, hA, hc⟩ := h3 p v hv
  exact ⟨A, c, ad, hl, hA, hc⟩
theorem OwB.cellf {w : World} {b g n cap : Nat} {l : List UInt8} (h : OwB w b (.slice (some ⟨g, 0, none⟩) n cap) l) {j : Nat} (hj : j < n) : (∃ y : UInt8, w.cell? ⟨g, j, none⟩ = some (.int .u8 (y.toNat : Int))) ∧ w.frozen? ⟨g, j, none⟩ = false := by
  have hn : n = l.length := h.rd.cap.1
  constructor
  · obtain ⟨ad, e, hc⟩ := h.rd.at_ (j := j) (by omega)
    cases e
    rw [add_row, Nat.zero_add] at hc
    exact ⟨_, hc⟩
  · rcases h.2 with ⟨e, _⟩ | ⟨g', cap', cs, e, _, hb, h1, h2, h3, h4⟩
    · cases e
    · injection e with e1 e2 e3
      injection e1 with e1
      injection e1 with e1
      subst e1
      exact hb.frozen (by rw [h3, Nat.mul_one]; omega)
end Go.Proofs.Ytipjngoenklioaa

-- espalierref03.Plate: fall: the walk.
namespace Go.Proofs.Ytipjngoenklioaa
open Go.RowKit
def RRaw.fallen (r : RRaw) : RRaw := { r with wl := .slice none 0 0, dv := [], armed := false }
theorem PgOnly.turn {w w' : World} {F : Nat → Prop} {r : RRaw} {S : PS} (h : PgOnly r w w') (hr : RfAt w F r S) : Turn F w w' :=
  ⟨h.os, h.tape, h.output, h.size, fun b hb hn => h.block b hb fun j v hj e => by
    have hjl : j < S.pg.length := by
      have := (List.getElem?_eq_some_iff.1 hj).1
      rw [hr.pl] at this; exact this
    exact hn ((hr.page j hjl v hj).2 b e.symm)⟩
set_option maxRecDepth 100000 in
set_option maxHeartbeats 8000000 in
theorem rfall_any (w : World) (F : Nat → Prop) (r : RRaw) (S : PS) (vk : Value) (ks : List Int) (torn at_ : Int) (h : RfAt w F r S) (hk : ∀ w', PgOnly r w w' → RdI w' vk ks) (ha : -9223372036854775808 ≤ at_ ∧ at_ ≤ 9223372036854775807) :
    Calls Try.prog 60 #[rfPtr r, fallV vk torn at_] w fun e w' => (∃ v, e = .returned v) ∧ RfAt w' F r.fallen (S.fell ks torn at_) ∧ Turn F w w' := by
  obtain ⟨A, c, rfl, hkm, hkc⟩ := (hk w (PgOnly.refl r w)).form
  have HK := Lib.hid hk
  have hA : Below w.heap.size w (w.alloc (.cells #[.slice A ks.length c, .int .i64 torn, .int .i64 at_] 31)) := (Below.refl _ _).alloc (Nat.le_refl _) _
  have hfb := OBlk.new' w 31 [.slice A ks.length c, .int .i64 torn, .int .i64 at_]
  have hP0 := (PgOnly.refl r w).below hA
  have hR0 := h.below hA
  obtain ⟨W, wc, hwv⟩ := h.loose.slice
  obtain ⟨LA, lc, hlv⟩ := h.own.slice
  have HWV := Lib.hid hwv
  have HLV := Lib.hid hlv
  have hwlen : S.wild.length ≤ 9223372036854775807 := by
    obtain ⟨_, A', c', hv', q1, q2, _⟩ := h.loose.rd
    simp only [maxLen] at q2
    omega
  have hlbF : ∀ k, F k → k < w.heap.size := h.lt
  have HF := Lib.hid hlbF
  have hpb : r.pb < w.heap.size := h.lt _ h.fp
  have hp2 := h.ok.p2
  have HH := Lib.hid h
  clear hk hwv hlv hlbF h
  unfold rfPtr fallV
  go_enter Try.func60, Try.ntmps60
  go_wp2_with fail
  go_loopw [4] (fun i wr => ∃ k : Nat, k ≤ S.wild.length ∧ i = .int .i64 (k : Int) ∧ RfAt wr F r (S.fellPg ks torn at_ k) ∧ PgOnly r w wr ∧ OBlk wr w.heap.size 31 [.slice A ks.length c, .int .i64 torn, .int .i64 at_]) (fun i _ => S.wild.length - (intOf i).toNat)
  case atStart => exact ⟨0, Nat.zero_le _, rfl, hR0, hP0, hfb⟩
  case round =>
    clear hR0 hP0 hfb hA
    obtain ⟨k, hk, rfl, hR, hP, hfb⟩ := hrel
    obtain ⟨w1, rfl⟩ : ∃ w1, w1 = wr := ⟨_, rfl⟩
    have c2 := hR.c2
    have e2 : r.wl = .slice W S.wild.length wc := HWV.out
    rw [e2] at c2
    clear e2
    have hrl := hR.blk.lt
    by_cases hlt : k < S.wild.length
    · have ik : (k : Int) < (S.wild.length : Int) := by omega
      obtain ⟨A2, c2', ad2, B2, d2', hv2, hA2, hp, hd, hdv⟩ := hR.looseDv (i := k) hlt
      have hAA := HWV.out.symm.trans hv2
      injection hAA with hAA _ _
      subst hAA
      subst hA2
      have hwx := HH.out.ok.we _ (List.getElem_mem hlt)
      have hfs := fallN_succ S.page ks torn at_ S.wild S.pg k hlt
      have hfo : fallOne S.page ks torn at_ k S.wild[k] (fallN S.page ks torn at_ S.wild S.pg k) = _ := fallOne_stay hwx.2
      rw [hfo] at hfs
      clear hfo hv2
      obtain ⟨hpn, hpl⟩ := hwx
      have hp' : w1.cell? (ad2.add (k * 2)) = some (.int .i64 (S.wild[k].1 : Int)) := hp
      have hd' : w1.cell? ⟨(ad2.add (k * 2)).block, (ad2.add (k * 2)).off + 1, none⟩ = some (.slice B2 S.wild[k].2.length d2') := hd
      have hdv' : r.dv[k]? = some (.slice B2 S.wild[k].2.length d2') := hdv
      have hdat : ∀ W G S', RfAt W G r S' → S'.wild = S.wild → RdB W (.slice B2 S.wild[k].2.length d2') S.wild[k].2 := fun W G S' hr' hw' => by
        obtain ⟨ho, _⟩ := hr'.data k (by rw [hw']; exact hlt) _ hdv'
        have := OwB.rd ho
        simp only [hw'] at this
        exact this
      have HDAT := Lib.hid hdat
      have hc2 : w1.cell? ⟨r.pb, 2, none⟩ = some (.slice (some ad2) S.wild.length wc) := c2
      have HFS := Lib.hid hfs
      have HPL := Lib.hid hpl
      clear hp hd hdv hdv' hdat hfs hpl c2
      generalize S.wild[k].2 = dat at *
      generalize S.wild[k].1 = pn at *
      have hA2 : Below w1.heap.size w1 (w1.alloc (.cells #[.int .i64 (pn : Int), .slice B2 dat.length d2'] 85)) := (Below.refl _ _).alloc (Nat.le_refl _) _
      have hlo := OBlk.new' w1 85 [.int .i64 (pn : Int), .slice B2 dat.length d2']
      have hfb2 := hfb.alloc (.cells #[.int .i64 (pn : Int), .slice B2 dat.length d2'] 85)
      have hR2 := hR.below hA2
      have hP2 := hP.below hA2
      have hsz := hP.size
      go_upto_block 2 with fail
      generalize w1.alloc (.cells #[.int .i64 (pn : Int), .slice B2 dat.length d2'] 85) = w2 at *
      have hkr := HK.out w2 hP2
      obtain ⟨f0, f1, f2⟩ : w2.cell? ⟨w.heap.size, 0, none⟩ = some (.slice A ks.length c) ∧ w2.cell? ⟨w.heap.size, 1, none⟩ = some (.int .i64 torn) ∧ w2.cell? ⟨w.heap.size, 2, none⟩ = some (.int .i64 at_) := ⟨hfb2.cell 0, hfb2.cell 1, hfb2.cell 2⟩
      have c0 : w2.cell? ⟨r.pb, 0, none⟩ = some (.int .i64 (S.page : Int)) := hR2.c0
      clear hR hP hfb hp' hd'
      go_cut [6] (fun n wx => n = .int .i64 (if (k : Int) ∈ ks then (S.page : Int) else 0) ∧ wx = w2)
      case first =>
        go_wp2_with fail
        go_loopw [6, 7] (fun n i wx => ∃ j : Nat, j ≤ ks.length ∧ i = .int .i64 (j : Int) ∧ n = .int .i64 (if (k : Int) ∈ ks.take j then (S.page : Int) else 0) ∧ wx = w2) (fun _ i _ => ks.length - (intOf i).toNat)
        case atStart => exact ⟨0, Nat.zero_le _, rfl, by simp, rfl⟩
        case round =>
          obtain ⟨j, hj, rfl, rfl, rfl⟩ := hrel
          by_cases hjl : j < ks.length
          · have ij : (j : Int) < (ks.length : Int) := by omega
            obtain ⟨kd, rfl, hkc⟩ := hkr.at_ hjl
            have hmem : ((k : Int) ∈ ks.take (j + 1)) ↔ ((k : Int) ∈ ks.take j ∨ ks[j] = (k : Int)) := by
              rw [List.take_succ_eq_append_getElem hjl, List.mem_append, List.mem_singleton]
              exact or_congr Iff.rfl eq_comm
            by_cases he : ks[j] = (k : Int)
            · have hb : (ks[j] == (k : Int)) = true := beq_iff_eq.2 he
              have HV : Hid ((if (k : Int) ∈ ks.take (j + 1) then (S.page : Int) else 0) = (S.page : Int)) := Lib.hid (if_pos (hmem.2 (.inr he)))
              clear hmem he
              generalize ks[j] = kv at *
              go_wp2_with fail
              exact ⟨⟨j + 1, by omega, by go_num, by rw [HV.out], trivial⟩, by simp only [intOf, IntKind.wrap_i64]; omega⟩
            · have hb : (ks[j] == (k : Int)) = false := beq_eq_false_iff_ne.2 he
              have HV : Hid ((if (k : Int) ∈ ks.take (j + 1) then (S.page : Int) else 0) = (if (k : Int) ∈ ks.take j then (S.page : Int) else 0)) := Lib.hid (by
                by_cases h : (k : Int) ∈ ks.take j
                · rw [if_pos h, if_pos (hmem.2 (.inl h))]
                · rw [if_neg h, if_neg (fun h' => (hmem.1 h').elim h he)])
              clear hmem he
              generalize ks[j] = kv at *
              generalize (if (k : Int) ∈ ks.take j then (S.page : Int) else 0) = nn at *
              go_wp2_with fail
              exact ⟨⟨j + 1, by omega, by go_num, by rw [HV.out], trivial⟩, by simp only [intOf, IntKind.wrap_i64]; omega⟩
          · obtain rfl : j = ks.length := by omega
            rw [List.take_length]
            generalize (if (k : Int) ∈ ks then (S.page : Int) else 0) = nn at *
            go_wp2_with fail
            go_meet
            exact ⟨rfl, rfl⟩
      case rest =>
        obtain ⟨rfl, hwx⟩ := hcut
        obtain ⟨w3, hw3⟩ : ∃ w3, w3 = w2 := ⟨_, rfl⟩
        subst hwx
        subst hw3
        go_upto_if 46 with (fail)
        go_cut [6] (fun n wx => n = .int .i64 (stayN S.page ks torn at_ k) ∧ wx = w3)
        case first =>
          by_cases ht : torn = (k : Int)
          · have hb : (torn == (k : Int)) = true := beq_iff_eq.2 ht
            have HV : Hid (stayN S.page ks torn at_ k = at_) := Lib.hid (if_pos ht)
            clear ht
            generalize (if (k : Int) ∈ ks then (S.page : Int) else 0) = nn at *
            go_wp2_with fail
            go_meet
            exact ⟨by rw [HV.out], rfl⟩
          · have hb : (torn == (k : Int)) = false := beq_eq_false_iff_ne.2 ht
            have HV : Hid (stayN S.page ks torn at_ k = if (k : Int) ∈ ks then (S.page : Int) else 0) := Lib.hid (if_neg ht)
            clear ht
            generalize (if (k : Int) ∈ ks then (S.page : Int) else 0) = nn at *
            go_wp2_with fail
            go_meet
            exact ⟨by rw [HV.out], rfl⟩
        case rest =>
          obtain ⟨rfl, hwx⟩ := hcut
          subst hwx
          have htl := tornLen_le (stayN S.page ks torn at_ k) S.page
          have htc : ∀ j : Nat, j < tornLen (stayN S.page ks torn at_ k) S.page ↔ ((j : Int) < stayN S.page ks torn at_ k ∧ (j : Int) < (S.page : Int)) := fun j => by unfold tornLen; omega
          have HTC := Lib.hid htc
          have hpl := HPL.out
          have hnp : (S.fellPg ks torn at_ k).pg.length = S.np := hR2.ok.pl
          have hpe : ∀ l ∈ (S.fellPg ks torn at_ k).pg, l.length = S.page := hR2.ok.pe
          have hflr : (S.fellPg ks torn at_ k).pg = fallN S.page ks torn at_ S.wild S.pg k := rfl
          rw [hflr] at hnp hpe
          have hse : ({ S.fellPg ks torn at_ k with pg := putPg (fallN S.page ks torn at_ S.wild S.pg k) pn (dat.take 0) } : PS) = S.fellPg ks torn at_ k := by
            rw [List.take_zero, putPg_nil]; rfl
          have hstart := hR2
          rw [← hse] at hstart
          clear hse
          have HSTEP : Hid (∀ j, j < S.page → ∀ pg', pg' = putPg (fallN S.page ks torn at_ S.wild S.pg k) pn (dat.take j) → ∃ h : pn < pg'.length, putPg (fallN S.page ks torn at_ S.wild S.pg k) pn (dat.take (j + 1)) = pg'.set pn (pg'[pn].set j (dat.getD j 0))) := Lib.hid fun j hj pg' e => by
            obtain ⟨h1, h2⟩ := putPg_step (pg := fallN S.page ks torn at_ S.wild S.pg k) (p := pn) (P := S.page) (k := j) (dat := dat) (by rw [hnp]; exact hpn) (hpe _ (List.getElem_mem _)) hj hpl pg' e
            refine ⟨h1, ?_⟩
            rw [h2]
            congr 2
            simp [List.getD, show j < dat.length by omega]
          have HFS2 : Hid (fallN S.page ks torn at_ S.wild S.pg (k + 1) = putPg (fallN S.page ks torn at_ S.wild S.pg k) pn (dat.take (tornLen (stayN S.page ks torn at_ k) S.page))) := HFS
          clear htc hflr hnp hpe hR2 HFS hkr f0 f1 f2
          generalize fallN S.page ks torn at_ S.wild S.pg k = pgk at *
          generalize stayN S.page ks torn at_ k = N at *
          generalize tornLen N S.page = tl at *
          go_wp2_with fail
          go_loopw [8] (fun i wx => ∃ j : Nat, j ≤ tl ∧ i = .int .i64 (j : Int) ∧ RfAt wx F r { S.fellPg ks torn at_ k with pg := putPg pgk pn (dat.take j) } ∧ PgOnly r w wx ∧ OBlk wx w.heap.size 31 [.slice A ks.length c, .int .i64 torn, .int .i64 at_] ∧ OBlk wx w1.heap.size 85 [.int .i64 (pn : Int), .slice B2 dat.length d2']) (fun i _ => tl - (intOf i).toNat)
          case atStart => exact ⟨0, Nat.zero_le _, rfl, hstart, hP2, hfb2, hlo⟩
          case round =>
            clear hstart hP2 hfb2 hlo c0
            obtain ⟨j, hj, rfl, hR, hP, hfb, hlo⟩ := hrel
            have c0 : wr.cell? ⟨r.pb, 0, none⟩ = some (.int .i64 (S.page : Int)) := hR.c0
            have c1 := hR.c1
            by_cases hjt : j < tl
            · obtain ⟨hjN, hjP⟩ := (HTC.out j).1 hjt
              have hlen : (putPg pgk pn (dat.take j)).length = S.np := hR.ok.pl
              have hpp : pn < (putPg pgk pn (dat.take j)).length := by rw [hlen]; exact hpn
              obtain ⟨g, cap, hv, ho, hFg, hgl⟩ := hR.pageOwn (p := pn) hpp
              obtain ⟨A3, c3, ad3, hlv, hA3, hpc⟩ := hR.pageCell hv
              subst hA3
              have hlv' : r.lv = .slice (some ad3) S.np c3 := by rw [hlv]; show Value.slice _ (putPg pgk pn (dat.take j)).length _ = _; rw [hlen]
              rw [hlv'] at c1
              obtain ⟨⟨y, hy⟩, hfz⟩ := ho.cellf (j := j) (show j < S.page by omega)
              have hdd := HDAT.out _ _ _ hR rfl
              have hjd : j < dat.length := by rw [HPL.out]; omega
              obtain ⟨bd, rfl, hdc⟩ := hdd.at_ (j := j) hjd
              obtain ⟨l0, l1⟩ : _ ∧ _ := ⟨hlo.cell 0, hlo.cell 1⟩
              have hset := hR.page_setk hpp hv ho j dat[j]
              obtain ⟨h1, h2⟩ := HSTEP.out j (by omega) _ rfl
              have hgd : dat.getD j 0 = dat[j] := by simp [List.getD, hjd]
              rw [hgd] at h2
              have hset2 : RfAt (wr.setCell ⟨g, j, none⟩ (.int .u8 (dat[j].toNat : Int))) F r { S.fellPg ks torn at_ k with pg := putPg pgk pn (dat.take (j + 1)) } := by rw [h2]; exact hset
              have k1 : (j : Int) < (dat.length : Int) := by omega
              have k2 : (pn : Int) < (S.np : Int) := by omega
              have hgF := HF.out _ hFg
              have HS2 := Lib.hid hset2
              have hwz := hP.size
              have HV := Lib.hid hv
              have hrb := hR.blk.lt
              have hlz := hlo.lt
              have hfz2 := hfb.lt
              have hpc' : wr.cell? (ad3.add pn) = some (.slice (some ⟨g, 0, none⟩) S.page cap) := hpc
              clear hpc
              clear hset hset2 h1 h2 hgd hdd hlv hlv' ho hlen hpp hv hR
              generalize dat[j] = x at *
              go_upto_region 16 with (fail)
              go_region
              go_wp2_with fail
              refine ⟨⟨j + 1, by omega, by go_num, HS2.out.drew, (hP.set HV.out j _).drew, (hfb.far (p := ⟨g, j, none⟩) (show w.heap.size ≠ g by omega) _).drew, (hlo.far (p := ⟨g, j, none⟩) (show w1.heap.size ≠ g by omega) _).drew⟩, by simp only [intOf, IntKind.wrap_i64]; omega⟩
            · obtain rfl : j = tl := by omega
              have hno : ¬ ((j : Int) < N ∧ (j : Int) < (S.page : Int)) := fun h => hjt ((HTC.out j).2 h)
              have hend : RfAt wr F r (S.fellPg ks torn at_ (k + 1)) := by
                have e : S.fellPg ks torn at_ (k + 1) = { S.fellPg ks torn at_ k with pg := putPg pgk pn (dat.take j) } := by
                  unfold PS.fellPg
                  rw [HFS2.out]
                rw [e]; exact hR
              have HEN := Lib.hid hend
              clear hend hR
              by_cases hjN : (j : Int) < N
              · have hjP : ¬ (j : Int) < (S.page : Int) := fun h => hno ⟨hjN, h⟩
                clear hno
                go_wp2_with fail
                exact ⟨⟨k + 1, by omega, by go_num, HEN.out, hP, hfb⟩, by simp only [intOf, IntKind.wrap_i64]; omega⟩
              · clear hno
                go_wp2_with fail
                exact ⟨⟨k + 1, by omega, by go_num, HEN.out, hP, hfb⟩, by simp only [intOf, IntKind.wrap_i64]; omega⟩
    · obtain rfl : k = S.wild.length := by omega
      have f2 := hR.fz (j := 2) (by omega)
      have f3 := hR.fz (j := 3) (by omega)
      have f4 := hR.fz (j := 4) (by omega)
      have c3 := hR.c3
      have c4 := hR.c4
      have hbk := ((hR.blk.set 2 (.slice none 0 0)).set 3 (.bool true)).set 4 (.bool false)
      have hg := grownBy_trans (grownBy_trans (grownBy_setCell w1 ⟨r.pb, 2, none⟩ (.slice none 0 0)) (grownBy_setCell _ ⟨r.pb, 3, none⟩ (.bool true))) (grownBy_setCell _ ⟨r.pb, 4, none⟩ (.bool false))
      have hok : (S.fell ks torn at_).ok := { hR.ok with we := (fun x hx => by cases hx), a1 := (show (-1 : Int) ≤ -1 by omega), a2 := (show (-1 : Int) ≤ 9223372036854775807 by omega) }
      have hfin : RfAt (((w1.setCell ⟨r.pb, 2, none⟩ (.slice none 0 0)).setCell ⟨r.pb, 3, none⟩ (.bool true)).setCell ⟨r.pb, 4, none⟩ (.bool false)) F r.fallen (S.fell ks torn at_) :=
        { ok := hok, blk := hbk
          own := hR.own.grown hg (fun g hg' e => hR.own.ne_T hR.blk (by decide) (by rw [hg', e]))
          pl := hR.pl
          page := fun i hi v hv => ⟨Own.grown (hR.page i hi v hv).1 hg (fun g hg' e => OwB.ne_T (hR.page i hi v hv).1 hR.blk (by decide) (by rw [hg', e])), (hR.page i hi v hv).2⟩
          apart := hR.apart
          loose := Own.nil _ _ _ _
          dlen := rfl
          data := fun i hi => by simp [PS.fell] at hi
          keep := hR.keep.grown hg (fun g hg' e => hR.keep.ne_T hR.blk (by decide) (by rw [hg', e]))
          armed := rfl
          acts := fun h0 => absurd h0 (by show ¬ (0 : Int) ≤ -1; omega)
          ra := hR.ra
          fp := hR.fp, fl := hR.fl, fw := (fun g hg' => by cases hg'), fk := hR.fk, lt := fun k hk => Nat.lt_of_lt_of_le (hR.lt k hk) hg.size }
      have hT := (hP.turn HH.out).grown hg (fun b e => by cases e; exact .inl HH.out.fp)
      have HFI := Lib.hid hfin
      clear hfin hbk hR
      go_wp2_with fail
      refine bodyPost_end (results_none rfl _ _ _) rfl ?_
      exact ⟨⟨_, rfl⟩, HFI.out, hT⟩
end Go.Proofs.Ytipjngoenklioaa

-- espalierref03.Plate: Crash: the walk.
namespace Go.Proofs.Ytipjngoenklioaa
open Go.RowKit
theorem PgOnly.after {r : RRaw} {w w0 w' : World} (hb : Below w.heap.size w w0) (h : PgOnly r w0 w') : PgOnly r w w' :=
  ⟨h.os.trans hb.os, h.tape.trans hb.tape, h.output.trans hb.output, Nat.le_trans hb.size h.size, fun b h1 h2 => (h.block b (Nat.lt_of_lt_of_le h1 hb.size) h2).trans (hb.block b h1)⟩
set_option maxRecDepth 20000 in
set_option maxHeartbeats 2000000 in
theorem RCrash_any (w : World) (F : Nat → Prop) (r : RRaw) (S : PS) (vk : Value) (ks : List Int) (torn at_ : Int) (h : RfAt w F r S) (hk : ∀ w', PgOnly r w w' → RdI w' vk ks) (ha : -9223372036854775808 ≤ at_ ∧ at_ ≤ 9223372036854775807) :
    Calls Try.prog 62 #[rfPtr r, fallV vk torn at_] w fun e w' => (∃ v, e = .returned v) ∧ (∃ r', r'.pb = r.pb ∧ RfAt w' F r' (S.crash ks torn at_)) ∧ Turn F w w' := by
  obtain ⟨A, c, rfl, hkm, hkc⟩ := (hk w (PgOnly.refl r w)).form
  have hA : Below w.heap.size w (w.alloc (.cells #[.slice A ks.length c, .int .i64 torn, .int .i64 at_] 31)) := (Below.refl _ _).alloc (Nat.le_refl _) _
  have c3 := h.c3
  have lb := h.blk.lt
  cases hd : S.down
  · rw [hd] at c3
    have HS : Hid (S.crash ks torn at_ = S.fell ks torn at_) := by show _ = _; unfold PS.crash; rw [hd]; rfl
    have hf := rfall_any _ F r S (.slice A ks.length c) ks torn at_ (h.below hA) (fun w' h' => hk w' (h'.after hA)) ha
    clear hd hk
    unfold rfPtr fallV at hf ⊢
    go_enter Try.func62, Try.ntmps62
    go_wp2_with fail
    refine hf.mono ?_
    rintro e w1 ⟨⟨v, rfl⟩, hP, hT⟩
    go_wp2_with fail
    refine bodyPost_end (results_none rfl _ _ _) rfl ?_
    rw [HS.out]
    exact ⟨⟨_, rfl⟩, ⟨r.fallen, rfl, hP⟩, ((Turn.of_below hA).trans hT fun b hb => .inl hb)⟩
  · rw [hd] at c3
    have HS : Hid (S.crash ks torn at_ = S) := by show _ = _; unfold PS.crash; rw [hd]; rfl
    clear hd hk
    unfold rfPtr fallV
    go_enter Try.func62, Try.ntmps62
    go_wp2_with fail
    refine bodyPost_end (results_none rfl _ _ _) rfl ?_
    rw [HS.out]
    exact ⟨⟨_, rfl⟩, ⟨r, rfl, h.below hA⟩, Turn.of_below hA⟩
end Go.Proofs.Ytipjngoenklioaa

-- espalierref03.Plate: Arm: the walk.
namespace Go.Proofs.Ytipjngoenklioaa
open Go.RowKit
set_option maxRecDepth 20000 in
set_option maxHeartbeats 4000000 in
theorem RArm_any (w : World) (F : Nat → Prop) (r : RRaw) (S : PS) (acts : Int) (vk : Value) (ks : List Int) (torn at_ : Int) (h : RfAt w F r S) (hk : ∀ w', Turn (fun b => b = r.pb) w w' → RdI w' vk ks) (hkl : ks.length * 8 ≤ 140737488355328) (ha : -9223372036854775808 ≤ acts ∧ acts ≤ 9223372036854775807)
    (ht : -9223372036854775808 ≤ torn ∧ torn ≤ 9223372036854775807) (hat : -9223372036854775808 ≤ at_ ∧ at_ ≤ 9223372036854775807) :
    Calls Try.prog 61 #[rfPtr r, .int .i64 acts, fallV vk torn at_] w fun e w' => (∃ v, e = .returned v) ∧ ∃ r' F', r'.pb = r.pb ∧ RfAt w' F' r' (S.arm acts ks torn at_) ∧ Step F w F' w' := by
  obtain ⟨A, c, rfl, hkm, hkc⟩ := (hk w (Turn.refl _ _)).form
  have hA : Below w.heap.size w (w.alloc (.cells #[.slice A ks.length c, .int .i64 torn, .int .i64 at_] 31)) := (Below.refl _ _).alloc (Nat.le_refl _) _
  have c3 := h.c3
  have lb := h.blk.lt
  cases hd : S.down
  · rw [hd] at c3
    have HS : Hid (S.arm acts ks torn at_ = { S with acts := if acts < -1 then -1 else acts, keep := ks, torn := torn, at_ := at_ }) := by show _ = _; unfold PS.arm; rw [hd]; rfl
    have hA0 := h.below hA
    have c3' := hA0.c3
    rw [hd] at c3'
    clear hd
    have f4 := hA0.fz (j := 4) (by omega)
    have f5 := hA0.fz (j := 5) (by omega)
    have f6 := hA0.fz (j := 6) (by omega)
    have f7 := hA0.fz (j := 7) (by omega)
    have f8 := hA0.fz (j := 8) (by omega)
    have c4 := hA0.c4
    have c5 := hA0.c5
    have c6 := hA0.c6
    have c7 := hA0.c7
    have c8 := hA0.c8
    have hfb := OBlk.new' w 31 [.slice A ks.length c, .int .i64 torn, .int .i64 at_]
    have hfl := hfb.lt
    have hne : r.pb ≠ w.heap.size := by omega
    have hne' : ¬ w.heap.size = r.pb := by omega
    obtain ⟨g0, g1, g2⟩ : _ ∧ _ ∧ _ := ⟨hfb.cell 0, hfb.cell 1, hfb.cell 2⟩
    unfold rfPtr fallV
    go_enter Try.func61, Try.ntmps61
    go_upto_if 9 with (fail)
    generalize w.alloc (.cells #[.slice A ks.length c, .int .i64 torn, .int .i64 at_] 31) = w0 at *
    have HK := Lib.hid hk
    have HA0 := Lib.hid hA0
    clear hk hA0
    go_upto_region 3 with (fail)
    have hb1 := HA0.out.blk.set 4 (.bool (decide (0 ≤ acts)))
    have hg1 := grownBy_setCell w0 ⟨r.pb, 4, none⟩ (.bool (decide (0 ≤ acts)))
    have hf1 := hfb.far (p := ⟨r.pb, 4, none⟩) hne' (.bool (decide (0 ≤ acts)))
    clear c3' c4 c5 c6 c7 c8 f4 f5 f6 f7 f8 g0 g1 g2 hfb
    generalize w0.setCell ⟨r.pb, 4, none⟩ (.bool (decide (0 ≤ acts))) = w1 at *
    have c5 := hb1.cell' (j := 5) (u := .int .i64 r.ra) rfl
    have f5 := hb1.frozen (j := 5) (by simp [rfCells])
    go_upto_region 4 with (fail)
    have hb2 := hb1.set 5 (.int .i64 acts)
    have hg2 := grownBy_trans hg1 (grownBy_setCell w1 ⟨r.pb, 5, none⟩ (.int .i64 acts))
    have hf2 := hf1.far (p := ⟨r.pb, 5, none⟩) hne' (.int .i64 acts)
    clear c5 f5 hb1 hg1 hf1
    generalize w1.setCell ⟨r.pb, 5, none⟩ (.int .i64 acts) = w2 at *
    have c6 := hb2.cell' (j := 6) (u := r.vk) rfl
    have c7 := hb2.cell' (j := 7) (u := .int .i64 S.torn) rfl
    have c8 := hb2.cell' (j := 8) (u := .int .i64 S.at_) rfl
    have f6 := hb2.frozen (j := 6) (by simp [rfCells])
    have f7 := hb2.frozen (j := 7) (by simp [rfCells])
    have f8 := hb2.frozen (j := 8) (by simp [rfCells])
    obtain ⟨g0, g1, g2⟩ : _ ∧ _ ∧ _ := ⟨hf2.cell 0, hf2.cell 1, hf2.cell 2⟩
    go_upto_region 5 with (fail)
    have hb3 := ((hb2.set 6 (.slice A ks.length c)).set 7 (.int .i64 torn)).set 8 (.int .i64 at_)
    have hg3 := grownBy_trans (grownBy_trans (grownBy_trans hg2 (grownBy_setCell w2 ⟨r.pb, 6, none⟩ (.slice A ks.length c))) (grownBy_setCell _ ⟨r.pb, 7, none⟩ (.int .i64 torn))) (grownBy_setCell _ ⟨r.pb, 8, none⟩ (.int .i64 at_))
    have hf3 := ((hf2.far (p := ⟨r.pb, 6, none⟩) hne' (.slice A ks.length c)).far (p := ⟨r.pb, 7, none⟩) hne' (.int .i64 torn)).far (p := ⟨r.pb, 8, none⟩) hne' (.int .i64 at_)
    clear c6 c7 c8 f6 f7 f8 g0 g1 g2 hb2 hg2 hf2
    generalize ((w2.setCell ⟨r.pb, 6, none⟩ (.slice A ks.length c)).setCell ⟨r.pb, 7, none⟩ (.int .i64 torn)).setCell ⟨r.pb, 8, none⟩ (.int .i64 at_) = w3 at *
    have hks := HK.out w3 ((Turn.of_below hA).grown hg3 (fun b e => by injection e with e; exact .inl e.symm))
    obtain ⟨g0, g1, g2⟩ : _ ∧ _ ∧ _ := ⟨hf3.cell 0, hf3.cell 1, hf3.cell 2⟩
    have c6 := hb3.cell' (j := 6) (u := .slice A ks.length c) rfl
    have hpl3 := hb3.lt
    have hz3 : w.heap.size ≤ w3.heap.size := Nat.le_trans hA.size hg3.size
    obtain ⟨i0, hi, hz0, hz1, hz2⟩ := info_parts int_info
    go_wp2_with (first
      | (at_builtin; refine wp_append rfl (.const (.slice none 0 0)) (.tmp 25) _ _ rfl w.heap.size 3 i0 _ 1 8 Try.underlying29 hi hz0 hz1 hz2 rfl _ 0 [] rfl (Own.nil _ _ _ _) _ ks.length (ivs ks) rfl (Rd.src _ Try.underlying29 (by omega) hks (ivs_one ks)) (by omega) (by omega) hz3 ?_; intro v4 w4 ho4 hg4 hk4; have hb4 := hb3.grown hg4 (fun e => by cases e); have c6' := hb4.cell' (j := 6) (u := .slice A ks.length c) rfl; have f6' := hb4.frozen (j := 6) (by simp [rfCells]); obtain ⟨B4, d4, hs4⟩ := Own.slice ho4; subst hs4)
      | fail)
    refine bodyPost_end (results_none rfl _ _ _) rfl ?_
    rw [HS.out]
    have h0 := HA0.out
    have hb5 := hb4.set 6 (.slice B4 (0 + ks.length) d4)
    have hg5 := grownBy_setCell w4 ⟨r.pb, 6, none⟩ (.slice B4 (0 + ks.length) d4)
    have hs03 := hg3.size
    have hs34 := hg4.size
    have hs45 := hg5.size
    have hheap : ∀ b, b < w0.heap.size → b ≠ r.pb → (w4.setCell ⟨r.pb, 6, none⟩ (.slice B4 (0 + ks.length) d4)).heap[b]? = w0.heap[b]? := fun b h1 h2 =>
      ((hg5.block b (by omega) (fun e => h2 (Option.some.inj e))).trans (hg4.block b (by omega) (fun e => by cases e))).trans (hg3.block b h1 (fun e => h2 (Option.some.inj e)))
    have hvk : Own (w4.setCell ⟨r.pb, 6, none⟩ (.slice B4 (0 + ks.length) d4)) w.heap.size 3 1 (.slice B4 (0 + ks.length) d4) (0 + ks.length) ([] ++ ivs ks) := Own.grown ho4 hg5 (fun g hg' e => by
      have := (Own.lt ho4 g hg').1
      have h2 : g = r.pb := Option.some.inj e
      omega)
    rw [Nat.zero_add, List.nil_append] at hvk
    rw [Nat.zero_add] at hb5 hheap hg5
    refine ⟨⟨_, rfl⟩, { r with armed := decide (0 ≤ acts), ra := acts, vk := .slice B4 ks.length d4 }, rfl, fun k => F k ∨ Value.ownBlock (.slice B4 ks.length d4) = some k, ?_, ?_⟩
    · exact
        { ok := { h0.ok with a1 := by show -1 ≤ (if acts < -1 then -1 else acts); split <;> omega
                             a2 := by show (if acts < -1 then -1 else acts) ≤ _; split <;> omega
                             t1 := ht
                             t2 := hat }
          blk := hb5
          own := Own.heap h0.own fun g hg' => hheap g (Own.lt h0.own g hg').2 (fun e => h0.own.ne_T h0.blk (by decide) (by rw [hg', e]))
          pl := h0.pl
          page := fun i hi v hv => ⟨Own.heap (h0.page i hi v hv).1 fun g hg' => hheap g (Own.lt (h0.page i hi v hv).1 g hg').2 (fun e => OwB.ne_T (h0.page i hi v hv).1 h0.blk (by decide) (by rw [hg', e])), fun g hg' => .inl ((h0.page i hi v hv).2 g hg')⟩
          apart := h0.apart
          loose := Own.heap h0.loose fun g hg' => hheap g (Own.lt h0.loose g hg').2 (fun e => h0.loose.ne_T h0.blk (by decide) (by rw [hg', e]))
          dlen := h0.dlen
          data := fun i hi v hv => ⟨Own.heap (h0.data i hi v hv).1 fun g hg' => hheap g (Own.lt (h0.data i hi v hv).1 g hg').2 (fun e => OwB.ne_T (h0.data i hi v hv).1 h0.blk (by decide) (by rw [hg', e])), fun g hg' => ⟨.inl ((h0.data i hi v hv).2 g hg').1, ((h0.data i hi v hv).2 g hg').2⟩⟩
          keep := Own.base_le hvk (fun _ _ => Nat.zero_le _)
          armed := by
            show decide (0 ≤ acts) = decide (0 ≤ (if acts < -1 then -1 else acts))
            refine decide_eq_decide.2 ?_
            split <;> omega
          acts := fun h1 => by
            show acts = (if acts < -1 then -1 else acts)
            have h1' : 0 ≤ (if acts < -1 then -1 else acts) := h1
            split at h1' <;> split <;> omega
          ra := ha
          fp := .inl h0.fp, fl := fun g hg' => .inl (h0.fl g hg'), fw := fun g hg' => .inl (h0.fw g hg'), fk := fun g hg' => .inr hg'
          lt := fun k hk => hk.elim (fun hf => by have := h0.lt k hf; have h9 := hg5.size; omega) (fun e => (Own.lt hvk k e).2) }
    · refine ⟨?_, fun k hk => hk.elim .inl (fun e => .inr (Own.lt hvk k e).1)⟩
      have hT3 : Turn F w w3 := (Turn.of_below hA).grown hg3 (fun b e => by have h2 : r.pb = b := Option.some.inj e; exact .inl (h2 ▸ h0.fp))
      exact (hT3.grown hg4 (fun b e => by cases e)).grown hg5 (fun b e => by have h2 : r.pb = b := Option.some.inj e; exact .inl (h2 ▸ h0.fp))
  · rw [hd] at c3
    have HS : Hid (S.arm acts ks torn at_ = S) := by show _ = _; unfold PS.arm; rw [hd]; rfl
    clear hd hk
    unfold rfPtr fallV
    go_enter Try.func61, Try.ntmps61
    go_wp2_with fail
    refine bodyPost_ret (results_none rfl _ _ _) rfl ?_
    rw [HS.out]
    exact ⟨⟨_, rfl⟩, r, F, rfl, h.below hA, ⟨Turn.of_below hA, fun k hk => .inl hk⟩⟩
end Go.Proofs.Ytipjngoenklioaa

-- espalierref03.Plate: Write: laws of the state.
namespace Go.Proofs.Ytipjngoenklioaa
open Go.RowKit
theorem PS.cnt_ok {S : PS} (h : S.ok) (k : Nat) : (S.cnt k).ok := by
  unfold PS.cnt
  split
  · exact { h with c2 := inc64_range S.cw }
  · exact { h with c3 := inc64_range S.cs }
theorem PS.cnt_eq (S : PS) (k : Nat) : (S.cnt k).pg = S.pg ∧ (S.cnt k).wild = S.wild ∧ (S.cnt k).keep = S.keep ∧ (S.cnt k).acts = S.acts ∧ (S.cnt k).page = S.page ∧ (S.cnt k).np = S.np ∧ (S.cnt k).down = S.down ∧ (S.cnt k).torn = S.torn ∧ (S.cnt k).at_ = S.at_ := by
  unfold PS.cnt
  split <;> exact ⟨rfl, rfl, rfl, rfl, rfl, rfl, rfl, rfl, rfl⟩
theorem RfAt.acted {w w' : World} {F : Nat → Prop} {r : RRaw} {S : PS} {k : Nat} {ra : Int} (h : RfAt w F r (S.cnt k)) (hb : OBlk w' r.pb 76 (rfCells { r with ra := ra } (S.cnt k))) (h1 : 0 < S.acts → ra = S.acts - 1) (h2 : ¬ 0 < S.acts → ra = r.ra) (hg : w.grownBy w' (some r.pb)) : RfAt w' F { r with ra := ra } (S.acted k) :=
  have hac := (S.cnt_eq k).2.2.2.1
  have a1 := h.ok.a1
  have a2 := h.ok.a2
  { ok := { h.ok with
      a1 := by show -1 ≤ (if 0 < S.acts then S.acts - 1 else S.acts); rw [hac] at a1; split <;> omega
      a2 := by show (if 0 < S.acts then S.acts - 1 else S.acts) ≤ _; rw [hac] at a2; split <;> omega }
    blk := hb
    own := h.own.grown hg (fun g hg' e => h.own.ne_T h.blk (by decide) (by rw [hg', e]))
    pl := h.pl
    page := fun i hi v hv => ⟨Own.grown (h.page i hi v hv).1 hg (fun g hg' e => OwB.ne_T (h.page i hi v hv).1 h.blk (by decide) (by rw [hg', e])), (h.page i hi v hv).2⟩
    apart := h.apart
    loose := h.loose.grown hg (fun g hg' e => h.loose.ne_T h.blk (by decide) (by rw [hg', e]))
    dlen := h.dlen
    data := fun i hi v hv => ⟨Own.grown (h.data i hi v hv).1 hg (fun g hg' e => OwB.ne_T (h.data i hi v hv).1 h.blk (by decide) (by rw [hg', e])), (h.data i hi v hv).2⟩
    keep := h.keep.grown hg (fun g hg' e => h.keep.ne_T h.blk (by decide) (by rw [hg', e]))
    armed := by
      show r.armed = decide (0 ≤ (if 0 < S.acts then S.acts - 1 else S.acts))
      rw [h.armed, hac]
      refine decide_eq_decide.2 ?_
      split <;> omega
    acts := by
      show 0 ≤ (if 0 < S.acts then S.acts - 1 else S.acts) → ra = (if 0 < S.acts then S.acts - 1 else S.acts)
      intro h0
      by_cases hp : 0 < S.acts
      · rw [if_pos hp]; exact h1 hp
      · rw [if_neg hp] at h0 ⊢
        rw [h2 hp, h.acts (by rw [hac]; exact h0), hac]
    ra := by
      show -9223372036854775808 ≤ ra ∧ ra ≤ 9223372036854775807
      rw [hac] at a1 a2
      by_cases hp : 0 < S.acts
      · rw [h1 hp]; omega
      · rw [h2 hp]; exact h.ra
    fp := h.fp, fl := h.fl, fw := h.fw, fk := h.fk, lt := fun k hk => Nat.lt_of_lt_of_le (h.lt k hk) hg.size }
theorem RfAt.keepRd {w : World} {F : Nat → Prop} {r : RRaw} {S : PS} (h : RfAt w F r S) : ∀ w', PgOnly r w w' → RdI w' r.vk S.keep := fun w' hp => by
  have hk : Own w' 0 3 1 r.vk S.keep.length (S.keep.map (Value.int .i64)) := Own.heap h.keep fun g hg => by
    refine hp.block g (Own.lt h.keep g hg).2 fun j v hj => ?_
    obtain ⟨cs, hb⟩ := Own.oblk h.keep hg
    have hjl : j < S.pg.length := by
      have := (List.getElem?_eq_some_iff.1 hj).1
      rw [h.pl] at this; exact this
    exact OwB.ne_T (h.page j hjl v hj).1 hb (by decide)
  exact hk.rd
theorem RfAt.wrote {w1 w4 w5 w6 : World} {F : Nat → Prop} {r : RRaw} {S : PS} {n : Nat} {l : List UInt8} {vd wl : Value} (h : RfAt w1 F r S) (hn : n < S.np) (hl : l.length = S.page) (hb4 : Below w1.heap.size w1 w4) (hd : OwB w4 w1.heap.size vd l)
    (ho : Own w5 0 85 2 wl (S.wild.length + 1) (wcells S.wild r.dv ++ [.int .i64 (n : Int), vd])) (hg5 : w4.grownBy w5 r.wl.ownBlock) (hwl : wl.ownBlock = r.wl.ownBlock ∨ wl.ownBlock = some w4.heap.size)
    (hg6 : w5.grownBy w6 (some r.pb)) (hbl : OBlk w6 r.pb 76 (rfCells { r with wl := wl } S)) :
    RfAt w6 (fun k => F k ∨ wl.ownBlock = some k ∨ vd.ownBlock = some k) { r with wl := wl, dv := r.dv ++ [vd] } { S with wild := S.wild ++ [(n, l)] } ∧
      Step F w1 (fun k => F k ∨ wl.ownBlock = some k ∨ vd.ownBlock = some k) w6 := by
  have s14 := hb4.size
  have s45 := hg5.size
  have s56 := hg6.size
  have hk : ∀ g, g < w1.heap.size → some g ≠ r.wl.ownBlock → g ≠ r.pb → w6.heap[g]? = w1.heap[g]? := fun g h1 h2 h3 =>
    ((hg6.block g (by omega) (fun e => h3 (Option.some.inj e))).trans (hg5.block g (by omega) h2)).trans (hb4.block g h1)
  have hpbw : r.pb < w1.heap.size := h.blk.lt
  have hB : ∀ {v : Value} {m : List UInt8}, OwB w1 0 v m → OwB w6 0 v m := fun {v m} hv => Own.heap hv fun g hg => by
    obtain ⟨cs, hb⟩ := OwB.blkU hv hg
    exact hk g (Own.lt hv g hg).2 (h.loose.ne_T hb (by decide)) (fun e => by subst e; exact hb.ne h.blk (by decide) rfl)
  have hpb5 : OBlk w4 r.pb 76 (rfCells r S) := h.blk.below hb4 h.blk.lt
  have hl4 := Own.below' h.loose hb4 (Nat.le_refl _)
  have hpb5' : OBlk w5 r.pb 76 (rfCells r S) := hpb5.grown hg5 (fun e => hl4.ne_T hpb5 (by decide) e)
  have hd6 : OwB w6 0 vd l := by
    have h5 : OwB w5 w1.heap.size vd l := Own.grown hd hg5 (fun g hg e => by
      have h1 := (Own.lt hd g hg).1
      have h2 := h.lt g (h.fw g e.symm)
      omega)
    have h6 : OwB w6 w1.heap.size vd l := Own.grown h5 hg6 (fun g hg e => by
      have h1 := (Own.lt hd g hg).1
      have h2 := Option.some.inj e
      omega)
    exact Own.low h6 (Nat.zero_le _)
  have hF : ∀ g, F g ∨ wl.ownBlock = some g ∨ vd.ownBlock = some g → g < w6.heap.size := by
    intro g hg
    rcases hg with hf | hf | hf
    · have := h.lt g hf; omega
    · have := (Own.lt ho g hf).2; omega
    · have := (Own.lt hd g hf).2; omega
  refine ⟨{ ok := { h.ok with we := ?_ }, blk := hbl, own := ?_, pl := h.pl, page := ?_, apart := h.apart, loose := ?_, dlen := ?_, data := ?_, keep := ?_, armed := h.armed, acts := h.acts, ra := h.ra, fp := .inl h.fp, fl := fun g hg => .inl (h.fl g hg), fw := fun g hg => .inr (.inl hg), fk := fun g hg => .inl (h.fk g hg), lt := hF }, ?_, ?_⟩
  · intro x hx
    rcases List.mem_append.1 hx with hx | hx
    · exact h.ok.we x hx
    · rw [List.mem_singleton] at hx; subst hx; exact ⟨hn, hl⟩
  · exact Own.heap h.own fun g hg => by
      obtain ⟨cs, hb⟩ := Own.oblk h.own hg
      exact hk g (Own.lt h.own g hg).2 (h.loose.ne_T hb (by decide)) (fun e => by subst e; exact hb.ne h.blk (by decide) rfl)
  · exact fun i hi v hv => ⟨hB (h.page i hi v hv).1, fun g hg => .inl ((h.page i hi v hv).2 g hg)⟩
  · have h1 : Own w6 0 85 2 wl (S.wild.length + 1) (wcells S.wild r.dv ++ [.int .i64 (n : Int), vd]) := ho.grown hg6 (fun g hg e => ho.ne_T hpb5' (by decide) (by rw [hg, e]))
    rw [show (S.wild ++ [(n, l)]).length = S.wild.length + 1 by simp, wcells_snoc _ _ _ _ h.dlen]
    exact h1
  · simp [h.dlen]
  · intro i hi v hv
    simp only [List.length_append, List.length_singleton] at hi
    rcases Nat.lt_or_ge i S.wild.length with hlt | hge
    · rw [List.getElem?_append_left (by rw [h.dlen]; exact hlt)] at hv
      obtain ⟨h1, h2⟩ := h.data i hlt v hv
      simp only [List.getElem_append_left hlt]
      exact ⟨hB h1, fun g hg => ⟨.inl (h2 g hg).1, (h2 g hg).2⟩⟩
    · have hii : i = S.wild.length := by omega
      subst hii
      rw [List.getElem?_append_right (by rw [h.dlen]; omega)] at hv
      simp only [h.dlen, Nat.sub_self, List.getElem?_cons_zero, Option.some.injEq] at hv
      subst hv
      simp only [List.getElem_append_right (Nat.le_refl _), Nat.sub_self, List.getElem_cons_zero]
      refine ⟨hd6, fun g hg => ⟨.inr (.inr hg), fun j u hj e => ?_⟩⟩
      have hjl : j < S.pg.length := by
        have := (List.getElem?_eq_some_iff.1 hj).1
        rw [h.pl] at this; exact this
      have h1 := (Own.lt hd g hg).1
      have h2 := h.lt g ((h.page j hjl u hj).2 g e.symm)
      omega
  · exact Own.heap h.keep fun g hg => by
      obtain ⟨cs, hb⟩ := Own.oblk h.keep hg
      exact hk g (Own.lt h.keep g hg).2 (h.loose.ne_T hb (by decide)) (fun e => by subst e; exact hb.ne h.blk (by decide) rfl)
  · refine ⟨hg6.os.trans (hg5.os.trans hb4.os), hg6.tape.trans (hg5.tape.trans hb4.tape), hg6.output.trans (hg5.output.trans hb4.output), by omega, fun g hg hn => hk g hg (fun e => hn (h.fw g e.symm)) (fun e => hn (e ▸ h.fp))⟩
  · intro k hk
    rcases hk with hf | hf | hf
    · exact .inl hf
    · rcases hwl with e | e
      · rw [e] at hf; exact .inl (h.fw k hf)
      · rw [e] at hf; injection hf with hf; right; omega
    · exact .inr (Own.lt hd k hf).1
theorem rloose_info : (Try.prog.info? 85).map (fun i => (i.zero, i.size, i.bytes)) = some (some (.agg #[.int .i64 0, .slice none 0 0]), 2, 32) := by kernel_rfl
theorem PS.wrote_ref (S : PS) (n : Nat) (l : List UInt8) : ({ S.acted 1 with wild := (S.acted 1).wild ++ [(n, l)] } : PS) = S.wrote n l := rfl
end Go.Proofs.Ytipjngoenklioaa
