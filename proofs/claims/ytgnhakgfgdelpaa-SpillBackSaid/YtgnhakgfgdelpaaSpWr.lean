/- spill.Write: the walk. -/
import Derived.Test.YtgnhakgfgdelpaaSpWF
import Derived.Test.YtgnhakgfgdelpaaRm
import Derived.Test.YtgnhakgfgdelpaaInts2
namespace Go.Proofs.Ytgnhakgfgdelpaa
open Go.RowKit Go.Maps
section
variable {w0 w : World} {gb gm : Nat} {pv : Int → Option Value} {S : BS} {L : List Ent}
set_option maxRecDepth 100000 in
set_option maxHeartbeats 8000000 in
theorem SWrite_any (hS : Sep w0 w (benchE gb gm pv S :: L)) (x : Value) (v : List UInt8) (hx : RdIn L x v) :
    Calls Try.prog 22 #[roomV gb, x] w fun e w' => e = .returned (.tuple #[.int .i64 (wrF S v).1, .int .i64 (wrF S v).2.1]) ∧ ∃ pv', Sep w0 w' (benchE gb gm pv' (wrF S v).2.2 :: L) := by
  have hv : RdB w x v := hS.tail.rdIn hx
  obtain ⟨A, c, rfl, hm⟩ := hv.form
  by_cases h1 : v.length < 1 ∨ 65536 < v.length
  · have HW : Hid (wrF S v = (0, 31, S)) := Lib.hid (wrF_bad h1)
    by_cases h2 : v.length = 0
    · have e1 : ((v.length : Int) == 0) = true := by rw [h2]; rfl
      clear h1
      go_enter Try.func22, Try.ntmps22
      go_wp2_with fail
      go_ret2
      rw [HW.out]
      exact ⟨rfl, _, hS⟩
    · have e1 : ((v.length : Int) == 0) = false := beq_eq_false_iff_ne.2 (by omega)
      have e2 : 65536 < (v.length : Int) := by omega
      clear h1
      go_enter Try.func22, Try.ntmps22
      go_wp2_with fail
      go_ret2
      rw [HW.out]
      exact ⟨rfl, _, hS⟩
  · have hE : (benchE gb gm pv S).p w := hS.head
    have hok := hE.2.2.1
    obtain ⟨hp1, hp2⟩ := isPowB_range hok.page
    have e1 : ((v.length : Int) == 0) = false := beq_eq_false_iff_ne.2 (by omega)
    have e2 : ¬ 65536 < (v.length : Int) := by omega
    have hNb : nCh v.length (S.page - 16) ≤ 65536 := by
      have := pagesF_bound (p := S.page) (n := v.length) (by omega)
      have := (nCh_pages hok.page (show 1 ≤ v.length by omega)).1
      omega
    have hSz := BSize_any hE
    have hPg := SPages_any (S.page : Int) (v.length : Int) (by unfold i64w; omega) (by unfold i64w; omega) w
    rw [← (nCh_pages hok.page (show 1 ≤ v.length by omega)).1] at hPg
    have hSp := BSpare_any hE ((nCh v.length (S.page - 16) : Nat) : Int) (by unfold i64w; omega)
    have HWr := Lib.hid (wrF_ok hok.page h1)
    have hrz := rm_size (.pointer (some ⟨gb, 0, none⟩))
    have hrs := rm_spare (.pointer (some ⟨gb, 0, none⟩))
    have hvl : 1 ≤ v.length := by omega
    clear h1
    obtain ⟨N, HN⟩ : ∃ N, Hid (nCh v.length (S.page - 16) = N) := ⟨_, Lib.hid rfl⟩
    rw [HN.out] at hNb hPg hSp HWr
    cases hsp : spareF S (N : Int) with
    | false =>
      have HW : Hid (wrF S v = (0, 5, S)) := by show _ = _; rw [HWr.out, if_pos hsp]
      rw [hsp] at hSp
      clear hsp
      go_enter Try.func22, Try.ntmps22
      go_wp2_with (first
        | (go_at_call 65; (with_reducible refine hSz.mono ?_); rintro e w1 ⟨rfl, rfl⟩)
        | (go_at_call 10; (with_reducible refine hPg.mono ?_); rintro e w1 ⟨rfl, rfl⟩)
        | (go_at_call 69; (with_reducible refine hSp.mono ?_); rintro e w1 ⟨rfl, nq, rfl⟩)
        | fail)
      go_ret2
      rw [HW.out]
      exact ⟨rfl, _, hS.drewN nq⟩
    | true =>
      have HW : Hid (wrF S v = wrEnd v N (allocN N S [])) := by show _ = _; rw [HWr.out, if_neg (by rw [hsp]; simp)]
      rw [hsp] at hSp
      clear hsp HWr
      have hNp : 1 ≤ N := by
        have := (nCh_lt (len := v.length) (k := 0) (show 1 ≤ S.page - 16 by omega)).2 (by omega)
        have := HN.out
        omega
      go_enter Try.func22, Try.ntmps22
      go_upto_region 8 with (first
        | (go_at_call 65; (with_reducible refine hSz.mono ?_); rintro e w1 ⟨rfl, rfl⟩)
        | (go_at_call 10; (with_reducible refine hPg.mono ?_); rintro e w1 ⟨rfl, rfl⟩)
        | (go_at_call 69; (with_reducible refine hSp.mono ?_); rintro e w1 ⟨rfl, nq, rfl⟩)
        | (at_make; refine wp_make_I rfl _ _ rfl N (N + 1) rfl (by go_num) (by omega) (by omega) ?_; intro w2 ho2 hB2 hs2)
        | fail)
      have hra := rm_alloc (.pointer (some ⟨gb, 0, none⟩))
      have hna := rm_nil ⟨gb, 0, none⟩
      have hrw := rm_write (.pointer (some ⟨gb, 0, none⟩))
      have hmf : ∀ (fn : Fn) (first cap : Array Value) (w : World), (Instr.makeFunc fn first cap).run Try.prog w = .ok (.func fn first cap) w := fun _ _ _ _ => rfl
      have hS2 : Sep w0 w2 (intsE (.slice (some ⟨w1.heap.size, 0, none⟩) N (N + 1)) (List.replicate N 0) :: benchE gb gm pv S :: L) := by
        have h := ho2.owI (base := (w1.drewN nq).heap.size) (n := N) (Nat.le_refl _) (by simp only [List.length_replicate, maxLen]; omega) (by simp)
        rw [List.length_replicate, List.take_replicate, Nat.min_eq_left (by omega)] at h
        exact (hS.drewN nq).ints hB2 h (Nat.le_refl _)
      clear hS hv hE hSz hSp hPg ho2 hB2 hs2
      generalize w1.heap.size = g at *
      clear nq w1
      go_loopw [39] (fun i wr => ∃ (k : Nat) (Sk : BS) (l : List Int) (pvk : Int → Option Value), k ≤ N ∧ i = .int .i64 (k : Int) ∧ l.length = k ∧ Hid (TakenAt S Sk l) ∧ Hid (allocN N S [] = allocN (N - k) Sk l) ∧
        Sep w0 wr (intsE (.slice (some ⟨g, 0, none⟩) N (N + 1)) (l ++ List.replicate (N - k) 0) :: benchE gb gm pvk Sk :: L)) (fun i _ => N - (intOf i).toNat)
      case atStart => exact ⟨0, S, [], pv, Nat.zero_le _, rfl, rfl, Lib.hid ⟨rfl, rfl, fun _ h => absurd h (by simp), fun _ h => absurd h (by simp)⟩, Lib.hid rfl, by simpa using hS2⟩
      case round =>
        clear hS2
        obtain ⟨k, Sk, l, pvk, hk, rfl, hl, HT, HA, hSk⟩ := hrel
        by_cases hlt : k < N
        · have i1 : (k : Int) < (N : Int) := by omega
          have hAl := BAlloc_any hSk.sw1
          cases hf : allocF Sk with
          | none =>
            have HW2 : Hid (wrF S v = (0, 5, Sk)) := by show _ = _; rw [HW.out, allocN_stop hlt HA.out hf]; rfl
            have hz : allocZ Sk = (0, 5) := by unfold allocZ; rw [hf]
            have hs : allocS Sk = Sk := by unfold allocS; rw [hf]
            rw [hz, hs] at hAl
            clear hf hz hs
            go_wp2_with (first
              | (go_at_call 70; (with_reducible refine hAl.mono ?_); rintro e w3 ⟨rfl, pv3, hS3⟩)
              | fail)
            go_ret2
            rw [HW2.out]
            exact ⟨rfl, _, hS3.sw1.tail⟩
          | some n =>
            have HA2 := Lib.hid (allocN_step hlt HA.out hf)
            have hz : allocZ Sk = ((n : Int), 0) := by unfold allocZ; rw [hf]
            have hs : allocS Sk = Sk.put n (some (List.replicate Sk.page 0)) := by unfold allocS; rw [hf]
            have HSP := Lib.hid (allocF_spec hf)
            have HLL : Hid (k < (l ++ List.replicate (N - k) 0).length) := Lib.hid (by rw [List.length_append, List.length_replicate]; omega)
            rw [hz, hs] at hAl
            clear hf hz hs
            go_wp2_with (first
              | (go_at_call 70; (with_reducible refine hAl.mono ?_); rintro e w3 ⟨rfl, pv3, hS3⟩; have hI3 : OwI w3 0 (.slice (some ⟨g, 0, none⟩) N (N + 1)) (l ++ List.replicate (N - k) 0) := hS3.tail.head; have hc3 := hI3.cell (j := k) HLL.out; have hf3 := hI3.frozen (j := k) HLL.out; generalize (l ++ List.replicate (N - k) 0)[k]'HLL.out = y3 at hc3)
              | fail)
            have hS4 := hS3.sw1.setInt k (n : Int)
            rw [rep_set l N k n hl hlt] at hS4
            go_roundw
            case rel =>
              refine ⟨k + 1, _, l ++ [(n : Int)], pv3, by omega, by go_num, by simp; omega, Lib.hid (HT.out.put HSP.out.1 (by have := HSP.out.2.1; rw [HT.out.pages] at this; exact this) _), HA2, hS4⟩
            case measure => simp [intOf]; omega
        · obtain rfl : k = N := by omega
          have HW2 : Hid (wrF S v = (l.getD 0 0, 0, putTo Sk l v k)) := by show _ = _; rw [HW.out, HA.out, Nat.sub_self]; rfl
          clear HA HW
          rw [Nat.sub_self, List.replicate_zero, List.append_nil] at hSk
          have hIk : OwI wr 0 (.slice (some ⟨g, 0, none⟩) k (k + 1)) l := hSk.head
          obtain ⟨h, Hh⟩ : ∃ h : Nat, Hid (h = S.page - 16) := ⟨_, Lib.hid rfl⟩
          have hh1 : 1 ≤ h := by have := Hh.out; omega
          have hh2 : h ≤ 65536 := by have := Hh.out; omega
          have ew : IntKind.i64.wrap ((S.page : Int) - 12 - 4) = (h : Int) := by have := Hh.out; rw [IntKind.wrap_i64]; omega
          have hpk : Sk.page = S.page := HT.out.page
          have HN' : Hid (nCh v.length h = k) := by show _ = _; rw [Hh.out, HN.out]
          clear HN
          have hSz := fun W (hE : (benchE gb gm pvk Sk).p W) => BSize_any hE
          rw [hpk] at hSz
          clear hpk
          go_upto_region 17 with (first
            | (at_builtin; refine wp_append_I1 rfl (.tmp 55) (.tmp 56) rfl 0 _ _ rfl hIk (0 : Int) _ rfl (by omega) (Nat.zero_le _) ?_; intro u w4 hO4 hg4 hb4; have hS4 : Sep w0 w4 (intsE u (l ++ [0]) :: benchE gb gm pvk Sk :: L) := hSk.appI hO4 hg4 (by rcases hb4 with e | e; exact .inl e; exact .inr ⟨_, e, by omega⟩); clear hO4 hg4 hb4)
            | (go_at_call 65; (with_reducible refine (hSz _ hS4.tail.head).mono ?_); rintro e w1 ⟨rfl, rfl⟩)
            | (go_at_call 45; (with_reducible refine (Chunk_any A v.length c h hh1 _).mono ?_); rintro e w5 ⟨rfl, rfl⟩; obtain ⟨m1, m2, m3, m4⟩ := chunk_mem w1 (.slice A v.length c) (.int .i64 (h : Int)) 25 3; have hS5 := hS4.below m3; have hr5 := hS5.tail.tail.rdIn hx; generalize (w1.alloc (.cells #[.slice A v.length c] 25)).alloc (.cells #[.int .i64 (h : Int)] 3) = w5 at *; have hCo := Collect_any w1.heap.size (w1.heap.size + 1) A c h v hh1 hh2 (by omega) (by have := HN'.out; omega) w5 (by omega) (by omega) hr5 m1 m2)
            | (go_at_call 44; (with_reducible refine hCo.mono ?_); rintro e w6 ⟨cv, rfl, hoC, hBC⟩; rw [HN'.out] at hoC; obtain ⟨gc, cc, rfl⟩ := hoC.some_ (by omega))
            | fail)
          have hS6 : Sep w0 w6 (ownE 25 1 (.slice (some ⟨gc, 0, none⟩) k cc) k ((List.range k).map (chV A v.length h)) :: intsE u (l ++ [0]) :: benchE gb gm pvk Sk :: L) :=
            hS5.new hBC (Own.low hoC (Nat.zero_le _)) (fun g hg => ⟨(Own.lt hoC g hg).1, (Own.lt hoC g hg).2⟩)
          clear hSk hIk hS4 hS5 hr5 m1 m2 m3 m4 hCo hoC hBC ew
          obtain ⟨g4, c4, n4, HK, rfl⟩ : ∃ g4 c4 n4, Hid (n4 = k + 1) ∧ u = .slice (some ⟨g4, 0, none⟩) n4 c4 := by
            have h : OwI w6 0 u (l ++ [0]) := hS6.tail.head
            have := Own.some_ h (by simp)
            rw [List.length_append, hl] at this
            obtain ⟨a, b, e⟩ := this
            exact ⟨a, b, k + 1, Lib.hid rfl, e⟩
          generalize w1.heap.size = bs at *
          go_loopw [66] (fun i wr => ∃ (j : Nat) (pvj : Int → Option Value), j ≤ k ∧ i = .int .i64 (j : Int) ∧
            Sep w0 wr (benchE gb gm pvj (putTo Sk l v j) :: intsE (.slice (some ⟨g4, 0, none⟩) n4 c4) (l ++ [0]) :: ownE 25 1 (.slice (some ⟨gc, 0, none⟩) k cc) k ((List.range k).map (chV A v.length h)) :: L)) (fun i _ => k - (intOf i).toNat)
          case atStart => exact ⟨0, pvk, Nat.zero_le _, rfl, hS6.sw2.sw2.sw1⟩
          case round =>
            clear hS6 hra hrs
            obtain ⟨j, pvj, hj, rfl, hSj⟩ := hrel
            have hIj : OwI wr 0 (.slice (some ⟨g4, 0, none⟩) n4 c4) (l ++ [0]) := hSj.tail.head
            have hlen : (l ++ [0]).length = k + 1 := by simp [hl]
            by_cases hlt2 : j < k
            · have hjl : j < l.length := by omega
              have hkn : j < nCh v.length h := by have := HN'.out; omega
              have hrv : RdB wr (.slice A v.length c) v := hSj.tail.tail.tail.rdIn hx
              have hOc : Own wr 0 25 1 (.slice (some ⟨gc, 0, none⟩) k cc) k ((List.range k).map (chV A v.length h)) := hSj.tail.tail.head
              have c1 : wr.cell? ⟨gc, j, none⟩ = some (chV A v.length h j) := Own.cells hOc j _ (by simp [hlt2])
              have hck : RdB wr (chV A v.length h j) (pieceF v h j) := (chV_run hrv ((nCh_lt hh1).1 hkn)).2
              have hpk : Sk.page = S.page := HT.out.page
              obtain ⟨hr1, hr2⟩ := piece_rng hh1 hkn
              have hz := spZ_piece hok.page (nextP_rng HT.out hok.hi j) hr1 (by have := Hh.out; omega)
              have hl' : spL (nextP l j) (pieceF v h j) (S.page : Int) = laidS (nextP l j) (pieceF v h j) S.page := by unfold spL; rw [if_pos hz]; rfl
              obtain ⟨wz, ws⟩ := putTo_write (S := S) (S' := Sk) (l := l) (v := v) (k := j) (by rw [hpk]; exact hok.page) HT.out hjl (by rw [hpk, ← Hh.out]; exact hr2)
              rw [hpk, ← Hh.out] at wz ws
              have hnx := nextP_rng HT.out hok.hi j
              have hpr : l.getD j 0 ∈ l := by
                rw [List.getD_eq_getElem?_getD, List.getElem?_eq_getElem hjl]
                exact List.getElem_mem hjl
              have hpn := HT.out.rng _ hpr
              have hhi := hok.hi
              have hcn : ∀ W, OwI W 0 (.slice (some ⟨g4, 0, none⟩) n4 c4) (l ++ [0]) → W.cell? ⟨g4, j + 1, none⟩ = some (.int .i64 (nextP l j)) := fun W h => by rw [h.cell (j := j + 1) (by omega), next_at l j (by omega)]
              have hcp : ∀ W, OwI W 0 (.slice (some ⟨g4, 0, none⟩) n4 c4) (l ++ [0]) → W.cell? ⟨g4, j, none⟩ = some (.int .i64 (l.getD j 0)) := fun W h => by rw [h.cell (j := j) (by omega), page_at l j hjl]
              have hE1 := SEncode_any (nextP l j) (chV A v.length h j) (pieceF v h j) (S.page : Int) (by unfold i64w; omega) wr.drew hck.drew
              rw [hz, hl'] at hE1
              have hSd := hSj.drew
              have hSz2 := BSize_any hSd.head
              rw [(putTo_page Sk l v j).1, hpk] at hSz2
              have HWS := Lib.hid ws
              have cn0 := hcn wr.drew hSd.tail.head
              have cp0 := hcp wr hIj
              have gl4 : g4 < wr.drew.heap.size := hSd.tail.lt g4 rfl
              have i1 : (j : Int) < (k : Int) := by omega
              have i2 : (0 : Int) ≤ (j : Int) + 1 := by omega
              have i3 : (j : Int) + 1 < (n4 : Int) := by have := HK.out; omega
              have ew1 : IntKind.i64.wrap ((j : Int) + 1) = (j : Int) + 1 := by rw [IntKind.wrap_i64]; omega
              have i4 : (j : Int) < (n4 : Int) := by have := HK.out; omega
              have hNx : i64w (l.getD j 0) := by unfold i64w; omega
              have hWq := fun (W : World) (pu : Value) (hS : Sep w0 W (benchE gb gm pvj (putTo Sk l v j) :: bytesE pu (laidS (nextP l j) (pieceF v h j) S.page) :: intsE (.slice (some ⟨g4, 0, none⟩) n4 c4) (l ++ [0]) :: ownE 25 1 (.slice (some ⟨gc, 0, none⟩) k cc) k ((List.range k).map (chV A v.length h)) :: L)) => BWrite_any hS (l.getD j 0) hNx pu _ (OwB.rd hS.tail.head)
              rw [wz, ws] at hWq
              clear hrv hOc hck hpk hz hl' wz ws hnx hpr hpn hr1 hr2 hSz hIj hkn hNx
              generalize hCK : chV A v.length h j = ck at c1 hE1
              clear hCK
              generalize laidS (nextP l j) (pieceF v h j) S.page = pg at *
              generalize nextP l j = nx at *
              generalize l.getD j 0 = pj at *
              go_upto_region 19 with (fail)
              go_region_held3 (fun w' => w'.cell? ⟨g4, j + 1, none⟩ = some (.int .i64 nx))
                (first | exact cn0 | exact (hB7.cell (p := ⟨g4, j + 1, none⟩) gl4).trans cn0)
                (first
                  | (go_at_call 65; (with_reducible refine hSz2.mono ?_); rintro e w1 ⟨rfl, rfl⟩)
                  | (go_at_call 15; (with_reducible refine hE1.mono ?_); rintro e w7 ⟨pu, rfl, ho7, hB7⟩)
                  | fail)
              have hS7 := hSd.bytes hB7 ho7 (Nat.le_refl _)
              have cp7 := hcp w7.drew (hS7.drew.tail.tail.head)
              have hW7 := hWq w7.drew pu hS7.drew.sw1
              clear hWq cn0 cp0 gl4 hE1 hSz2 hSd hSj ho7 hB7
              go_upto_region 22 with (fail)
              go_region_held3 (fun w' => w'.cell? ⟨g4, j, none⟩ = some (.int .i64 pj))
                (first | exact cp7 | exact hcp _ hS8.tail.tail.head)
                (first
                  | (go_at_call 71; (with_reducible refine hW7.mono ?_); rintro e w8 ⟨rfl, pv8, hS8⟩)
                  | fail)
              go_wp2_with fail
              go_roundw
              case rel => exact ⟨j + 1, pv8, by omega, by go_num, hS8.sw1.tail⟩
              case measure => simp [intOf]; omega
            · obtain rfl : j = k := by omega
              have c0 : wr.cell? ⟨g4, 0, none⟩ = some (.int .i64 (l.getD 0 0)) := by
                rw [hIj.cell (j := 0) (by omega), page_at l 0 (by omega)]
              clear hIj hlen
              have i0 : (0 : Int) < (n4 : Int) := by have := HK.out; omega
              go_wp2_with fail
              go_ret2
              rw [HW2.out]
              exact ⟨rfl, _, (hSj.sw1.tail).sw1.tail⟩
end
end Go.Proofs.Ytgnhakgfgdelpaa
