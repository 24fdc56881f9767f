/- Texts joined: spill.Write; Bytes made of a constant.; espalierlaw09.awake; espalierlaw09.pair; espalierlaw09.pair; espalierref01.Fixed, step, SumOf; espalierref01.SumOf; espalierref09.Encode; espalierref01.ReadFixed of bytes that are there -/
import Derived.Test.YtgnhakgfgdelpaaP2
import Derived.Test.YtgnhakgfgdelpaaP4
import Derived.Test.YtgnhakgfgdelpaaP5
import Derived.Test.YtgnhakgfgdelpaaP6
import Derived.Lib.SlBytesConst
import Derived.Deep.RegionLaw
import Derived.BigQuiet
import Derived.Outline
-- spill.Write: the walk.
namespace Go.Proofs.Ytgnhakgfgdelpaa
open Go.RowKit Go.Maps
section
variable {w0 w : World} {gb gm : Nat} {pv : Int → Option Value} {S : BS} {L : List Ent}
set_option maxRecDepth 100000 in
set_option maxHeartbeats 8000000 in
theorem SWrite_any (hS : Sep w0 w (benchE gb gm pv S :: L)) (x : Value) (v : List UInt8) (hx : RdIn L x v) :
    Calls Try.prog 22 #[roomV gb, x] w fun e w' => e = .returned (.tuple #[.int .i64 (wrF S v).1, .int .i64 (wrF S v).2.1]) ∧ ∃ pv', Sep w0 w' (benchE gb gm pv' (wrF S v).2.2 :: L) := by
  have hv : RdB w x v := hS.tail.rdIn hx
  obtain ⟨A, c, rfl, hm⟩ := hv.form
  by_cases h1 : v.length < 1 ∨ 65536 < v.length
  · have HW : Hid (wrF S v = (0, 31, S)) := Lib.hid (wrF_bad h1)
    by_cases h2 : v.length = 0
    · have e1 : ((v.length : Int) == 0) = true := by rw [h2]; rfl
      clear h1
      go_enter Try.func22, Try.ntmps22
      go_wp2_with fail
      go_ret2
      rw [HW.out]
      exact ⟨rfl, _, hS⟩
    · have e1 : ((v.length : Int) == 0) = false := beq_eq_false_iff_ne.2 (by omega)
      have e2 : 65536 < (v.length : Int) := by omega
      clear h1
      go_enter Try.func22, Try.ntmps22
      go_wp2_with fail
      go_ret2
      rw [HW.out]
      exact ⟨rfl, _, hS⟩
  · have hE : (benchE gb gm pv S).p w := hS.head
    have hok := hE.2.2.1
    obtain ⟨hp1, hp2⟩ := isPowB_range hok.page
    have e1 : ((v.length : Int) == 0) = false := beq_eq_false_iff_ne.2 (by omega)
    have e2 : ¬ 65536 < (v.length : Int) := by omega
    have hNb : nCh v.length (S.page - 16) ≤ 65536 := by
      have := pagesF_bound (p := S.page) (n := v.length) (by omega)
      have := (nCh_pages hok.page (show 1 ≤ v.length by omega)).1
      omega
    have hSz := BSize_any hE
    have hPg := SPages_any (S.page : Int) (v.length : Int) (by unfold i64w; omega) (by unfold i64w; omega) w
    rw [← (nCh_pages hok.page (show 1 ≤ v.length by omega)).1] at hPg
    have hSp := BSpare_any hE ((nCh v.length (S.page - 16) : Nat) : Int) (by unfold i64w; omega)
    have HWr := Lib.hid (wrF_ok hok.page h1)
    have hrz := rm_size (.pointer (some ⟨gb, 0, none⟩))
    have hrs := rm_spare (.pointer (some ⟨gb, 0, none⟩))
    have hvl : 1 ≤ v.length := by omega
    clear h1
    obtain ⟨N, HN⟩ : ∃ N, Hid (nCh v.length (S.page - 16) = N) := ⟨_, Lib.hid rfl⟩
    rw [HN.out] at hNb hPg hSp HWr
    cases hsp : spareF S (N : Int) with
    | false =>
      have HW : Hid (wrF S v = (0, 5, S)) := by show _ = _; rw [HWr.out, if_pos hsp]
      rw [hsp] at hSp
      clear hsp
      go_enter Try.func22, Try.ntmps22
      go_wp2_with (first
        | (go_at_call 65; (with_reducible refine hSz.mono ?_); rintro e w1 ⟨rfl, rfl⟩)
        | (go_at_call 10; (with_reducible refine hPg.mono ?_); rintro e w1 ⟨rfl, rfl⟩)
        | (go_at_call 69; (with_reducible refine hSp.mono ?_); rintro e w1 ⟨rfl, nq, rfl⟩)
        | fail)
      go_ret2
      rw [HW.out]
      exact ⟨rfl, _, hS.drewN nq⟩
    | true =>
      have HW : Hid (wrF S v = wrEnd v N (allocN N S [])) := by show _ = _; rw [HWr.out, if_neg (by rw [hsp]; simp)]
      rw [hsp] at hSp
      clear hsp HWr
      have hNp : 1 ≤ N := by
        have := (nCh_lt (len := v.length) (k := 0) (show 1 ≤ S.page - 16 by omega)).2 (by omega)
        have := HN.out
        omega
      go_enter Try.func22, Try.ntmps22
      go_upto_region 8 with (first
        | (go_at_call 65; (with_reducible refine hSz.mono ?_); rintro e w1 ⟨rfl, rfl⟩)
        | (go_at_call 10; (with_reducible refine hPg.mono ?_); rintro e w1 ⟨rfl, rfl⟩)
        | (go_at_call 69; (with_reducible refine hSp.mono ?_); rintro e w1 ⟨rfl, nq, rfl⟩)
        | (at_make; refine wp_make_I rfl _ _ rfl N (N + 1) rfl (by go_num) (by omega) (by omega) ?_; intro w2 ho2 hB2 hs2)
        | fail)
      have hra := rm_alloc (.pointer (some ⟨gb, 0, none⟩))
      have hna := rm_nil ⟨gb, 0, none⟩
      have hrw := rm_write (.pointer (some ⟨gb, 0, none⟩))
      have hmf : ∀ (fn : Fn) (first cap : Array Value) (w : World), (Instr.makeFunc fn first cap).run Try.prog w = .ok (.func fn first cap) w := fun _ _ _ _ => rfl
      have hS2 : Sep w0 w2 (intsE (.slice (some ⟨w1.heap.size, 0, none⟩) N (N + 1)) (List.replicate N 0) :: benchE gb gm pv S :: L) := by
        have h := ho2.owI (base := (w1.drewN nq).heap.size) (n := N) (Nat.le_refl _) (by simp only [List.length_replicate, maxLen]; omega) (by simp)
        rw [List.length_replicate, List.take_replicate, Nat.min_eq_left (by omega)] at h
        exact (hS.drewN nq).ints hB2 h (Nat.le_refl _)
      clear hS hv hE hSz hSp hPg ho2 hB2 hs2
      generalize w1.heap.size = g at *
      clear nq w1
      go_loopw [39] (fun i wr => ∃ (k : Nat) (Sk : BS) (l : List Int) (pvk : Int → Option Value), k ≤ N ∧ i = .int .i64 (k : Int) ∧ l.length = k ∧ Hid (TakenAt S Sk l) ∧ Hid (allocN N S [] = allocN (N - k) Sk l) ∧
        Sep w0 wr (intsE (.slice (some ⟨g, 0, none⟩) N (N + 1)) (l ++ List.replicate (N - k) 0) :: benchE gb gm pvk Sk :: L)) (fun i _ => N - (intOf i).toNat)
      case atStart => exact ⟨0, S, [], pv, Nat.zero_le _, rfl, rfl, Lib.hid ⟨rfl, rfl, fun _ h => absurd h (by simp), fun _ h => absurd h (by simp)⟩, Lib.hid rfl, by simpa using hS2⟩
      case round =>
        clear hS2
        obtain ⟨k, Sk, l, pvk, hk, rfl, hl, HT, HA, hSk⟩ := hrel
        by_cases hlt : k < N
        · have i1 : (k : Int) < (N : Int) := by omega
          have hAl := BAlloc_any hSk.sw1
          cases hf : allocF Sk with
          | none =>
            have HW2 : Hid (wrF S v = (0, 5, Sk)) := by show _ = _; rw [HW.out, allocN_stop hlt HA.out hf]; rfl
            have hz : allocZ Sk = (0, 5) := by unfold allocZ; rw [hf]
            have hs : allocS Sk = Sk := by unfold allocS; rw [hf]
            rw [hz, hs] at hAl
            clear hf hz hs
            go_wp2_with (first
              | (go_at_call 70; (with_reducible refine hAl.mono ?_); rintro e w3 ⟨rfl, pv3, hS3⟩)
              | fail)
            go_ret2
            rw [HW2.out]
            exact ⟨rfl, _, hS3.sw1.tail⟩
          | some n =>
            have HA2 := Lib.hid (allocN_step hlt HA.out hf)
            have hz : allocZ Sk = ((n : Int), 0) := by unfold allocZ; rw [hf]
            have hs : allocS Sk = Sk.put n (some (List.replicate Sk.page 0)) := by unfold allocS; rw [hf]
            have HSP := Lib.hid (allocF_spec hf)
            have HLL : Hid (k < (l ++ List.replicate (N - k) 0).length) := Lib.hid (by rw [List.length_append, List.length_replicate]; omega)
            rw [hz, hs] at hAl
            clear hf hz hs
            go_wp2_with (first
              | (go_at_call 70; (with_reducible refine hAl.mono ?_); rintro e w3 ⟨rfl, pv3, hS3⟩; have hI3 : OwI w3 0 (.slice (some ⟨g, 0, none⟩) N (N + 1)) (l ++ List.replicate (N - k) 0) := hS3.tail.head; have hc3 := hI3.cell (j := k) HLL.out; have hf3 := hI3.frozen (j := k) HLL.out; generalize (l ++ List.replicate (N - k) 0)[k]'HLL.out = y3 at hc3)
              | fail)
            have hS4 := hS3.sw1.setInt k (n : Int)
            rw [rep_set l N k n hl hlt] at hS4
            go_roundw
            case rel =>
              refine ⟨k + 1, _, l ++ [(n : Int)], pv3, by omega, by go_num, by simp; omega, Lib.hid (HT.out.put HSP.out.1 (by have := HSP.out.2.1; rw [HT.out.pages] at this; exact this) _), HA2, hS4⟩
            case measure => simp [intOf]; omega
        · obtain rfl : k = N := by omega
          have HW2 : Hid (wrF S v = (l.getD 0 0, 0, putTo Sk l v k)) := by show _ = _; rw [HW.out, HA.out, Nat.sub_self]; rfl
          clear HA HW
          rw [Nat.sub_self, List.replicate_zero, List.append_nil] at hSk
          have hIk : OwI wr 0 (.slice (some ⟨g, 0, none⟩) k (k + 1)) l := hSk.head
          obtain ⟨h, Hh⟩ : ∃ h : Nat, Hid (h = S.page - 16) := ⟨_, Lib.hid rfl⟩
          have hh1 : 1 ≤ h := by have := Hh.out; omega
          have hh2 : h ≤ 65536 := by have := Hh.out; omega
          have ew : IntKind.i64.wrap ((S.page : Int) - 12 - 4) = (h : Int) := by have := Hh.out; rw [IntKind.wrap_i64]; omega
          have hpk : Sk.page = S.page := HT.out.page
          have HN' : Hid (nCh v.length h = k) := by show _ = _; rw [Hh.out, HN.out]
          clear HN
          have hSz := fun W (hE : (benchE gb gm pvk Sk).p W) => BSize_any hE
          rw [hpk] at hSz
          clear hpk
          go_upto_region 17 with (first
            | (at_builtin; refine wp_append_I1 rfl (.tmp 55) (.tmp 56) rfl 0 _ _ rfl hIk (0 : Int) _ rfl (by omega) (Nat.zero_le _) ?_; intro u w4 hO4 hg4 hb4; have hS4 : Sep w0 w4 (intsE u (l ++ [0]) :: benchE gb gm pvk Sk :: L) := hSk.appI hO4 hg4 (by rcases hb4 with e | e; exact .inl e; exact .inr ⟨_, e, by omega⟩); clear hO4 hg4 hb4)
            | (go_at_call 65; (with_reducible refine (hSz _ hS4.tail.head).mono ?_); rintro e w1 ⟨rfl, rfl⟩)
            | (go_at_call 45; (with_reducible refine (Chunk_any A v.length c h hh1 _).mono ?_); rintro e w5 ⟨rfl, rfl⟩; obtain ⟨m1, m2, m3, m4⟩ := chunk_mem w1 (.slice A v.length c) (.int .i64 (h : Int)) 25 3; have hS5 := hS4.below m3; have hr5 := hS5.tail.tail.rdIn hx; generalize (w1.alloc (.cells #[.slice A v.length c] 25)).alloc (.cells #[.int .i64 (h : Int)] 3) = w5 at *; have hCo := Collect_any w1.heap.size (w1.heap.size + 1) A c h v hh1 hh2 (by omega) (by have := HN'.out; omega) w5 (by omega) (by omega) hr5 m1 m2)
            | (go_at_call 44; (with_reducible refine hCo.mono ?_); rintro e w6 ⟨cv, rfl, hoC, hBC⟩; rw [HN'.out] at hoC; obtain ⟨gc, cc, rfl⟩ := hoC.some_ (by omega))
            | fail)
          have hS6 : Sep w0 w6 (ownE 25 1 (.slice (some ⟨gc, 0, none⟩) k cc) k ((List.range k).map (chV A v.length h)) :: intsE u (l ++ [0]) :: benchE gb gm pvk Sk :: L) :=
            hS5.new hBC (Own.low hoC (Nat.zero_le _)) (fun g hg => ⟨(Own.lt hoC g hg).1, (Own.lt hoC g hg).2⟩)
          clear hSk hIk hS4 hS5 hr5 m1 m2 m3 m4 hCo hoC hBC ew
          obtain ⟨g4, c4, n4, HK, rfl⟩ : ∃ g4 c4 n4, Hid (n4 = k + 1) ∧ u = .slice (some ⟨g4, 0, none⟩) n4 c4 := by
            have h : OwI w6 0 u (l ++ [0]) := hS6.tail.head
            have := Own.some_ h (by simp)
            rw [List.length_append, hl] at this
            obtain ⟨a, b, e⟩ := this
            exact ⟨a, b, k + 1, Lib.hid rfl, e⟩
          generalize w1.heap.size = bs at *
          go_loopw [66] (fun i wr => ∃ (j : Nat) (pvj : Int → Option Value), j ≤ k ∧ i = .int .i64 (j : Int) ∧
            Sep w0 wr (benchE gb gm pvj (putTo Sk l v j) :: intsE (.slice (some ⟨g4, 0, none⟩) n4 c4) (l ++ [0]) :: ownE 25 1 (.slice (some ⟨gc, 0, none⟩) k cc) k ((List.range k).map (chV A v.length h)) :: L)) (fun i _ => k - (intOf i).toNat)
          case atStart => exact ⟨0, pvk, Nat.zero_le _, rfl, hS6.sw2.sw2.sw1⟩
          case round =>
            clear hS6 hra hrs
            obtain ⟨j, pvj, hj, rfl, hSj⟩ := hrel
            have hIj : OwI wr 0 (.slice (some ⟨g4, 0, none⟩) n4 c4) (l ++ [0]) := hSj.tail.head
            have hlen : (l ++ [0]).length = k + 1 := by simp [hl]
            by_cases hlt2 : j < k
            · have hjl : j < l.length := by omega
              have hkn : j < nCh v.length h := by have := HN'.out; omega
              have hrv : RdB wr (.slice A v.length c) v := hSj.tail.tail.tail.rdIn hx
              have hOc : Own wr 0 25 1 (.slice (some ⟨gc, 0, none⟩) k cc) k ((List.range k).map (chV A v.length h)) := hSj.tail.tail.head
              have c1 : wr.cell? ⟨gc, j, none⟩ = some (chV A v.length h j) := Own.cells hOc j _ (by simp [hlt2])
              have hck : RdB wr (chV A v.length h j) (pieceF v h j) := (chV_run hrv ((nCh_lt hh1).1 hkn)).2
              have hpk : Sk.page = S.page := HT.out.page
              obtain ⟨hr1, hr2⟩ := piece_rng hh1 hkn
              have hz := spZ_piece hok.page (nextP_rng HT.out hok.hi j) hr1 (by have := Hh.out; omega)
              have hl' : spL (nextP l j) (pieceF v h j) (S.page : Int) = laidS (nextP l j) (pieceF v h j) S.page := by unfold spL; rw [if_pos hz]; rfl
              obtain ⟨wz, ws⟩ := putTo_write (S := S) (S' := Sk) (l := l) (v := v) (k := j) (by rw [hpk]; exact hok.page) HT.out hjl (by rw [hpk, ← Hh.out]; exact hr2)
              rw [hpk, ← Hh.out] at wz ws
              have hnx := nextP_rng HT.out hok.hi j
              have hpr : l.getD j 0 ∈ l := by
                rw [List.getD_eq_getElem?_getD, List.getElem?_eq_getElem hjl]
                exact List.getElem_mem hjl
              have hpn := HT.out.rng _ hpr
              have hhi := hok.hi
              have hcn : ∀ W, OwI W 0 (.slice (some ⟨g4, 0, none⟩) n4 c4) (l ++ [0]) → W.cell? ⟨g4, j + 1, none⟩ = some (.int .i64 (nextP l j)) := fun W h => by rw [h.cell (j := j + 1) (by omega), next_at l j (by omega)]
              have hcp : ∀ W, OwI W 0 (.slice (some ⟨g4, 0, none⟩) n4 c4) (l ++ [0]) → W.cell? ⟨g4, j, none⟩ = some (.int .i64 (l.getD j 0)) := fun W h => by rw [h.cell (j := j) (by omega), page_at l j hjl]
              have hE1 := SEncode_any (nextP l j) (chV A v.length h j) (pieceF v h j) (S.page : Int) (by unfold i64w; omega) wr.drew hck.drew
              rw [hz, hl'] at hE1
              have hSd := hSj.drew
              have hSz2 := BSize_any hSd.head
              rw [(putTo_page Sk l v j).1, hpk] at hSz2
              have HWS := Lib.hid ws
              have cn0 := hcn wr.drew hSd.tail.head
              have cp0 := hcp wr hIj
              have gl4 : g4 < wr.drew.heap.size := hSd.tail.lt g4 rfl
              have i1 : (j : Int) < (k : Int) := by omega
              have i2 : (0 : Int) ≤ (j : Int) + 1 := by omega
              have i3 : (j : Int) + 1 < (n4 : Int) := by have := HK.out; omega
              have ew1 : IntKind.i64.wrap ((j : Int) + 1) = (j : Int) + 1 := by rw [IntKind.wrap_i64]; omega
              have i4 : (j : Int) < (n4 : Int) := by have := HK.out; omega
              have hNx : i64w (l.getD j 0) := by unfold i64w; omega
              have hWq := fun (W : World) (pu : Value) (hS : Sep w0 W (benchE gb gm pvj (putTo Sk l v j) :: bytesE pu (laidS (nextP l j) (pieceF v h j) S.page) :: intsE (.slice (some ⟨g4, 0, none⟩) n4 c4) (l ++ [0]) :: ownE 25 1 (.slice (some ⟨gc, 0, none⟩) k cc) k ((List.range k).map (chV A v.length h)) :: L)) => BWrite_any hS (l.getD j 0) hNx pu _ (OwB.rd hS.tail.head)
              rw [wz, ws] at hWq
              clear hrv hOc hck hpk hz hl' wz ws hnx hpr hpn hr1 hr2 hSz hIj hkn hNx
              generalize hCK : chV A v.length h j = ck at c1 hE1
              clear hCK
              generalize laidS (nextP l j) (pieceF v h j) S.page = pg at *
              generalize nextP l j = nx at *
              generalize l.getD j 0 = pj at *
              go_upto_region 19 with (fail)
              go_region_held3 (fun w' => w'.cell? ⟨g4, j + 1, none⟩ = some (.int .i64 nx))
                (first | exact cn0 | exact (hB7.cell (p := ⟨g4, j + 1, none⟩) gl4).trans cn0)
                (first
                  | (go_at_call 65; (with_reducible refine hSz2.mono ?_); rintro e w1 ⟨rfl, rfl⟩)
                  | (go_at_call 15; (with_reducible refine hE1.mono ?_); rintro e w7 ⟨pu, rfl, ho7, hB7⟩)
                  | fail)
              have hS7 := hSd.bytes hB7 ho7 (Nat.le_refl _)
              have cp7 := hcp w7.drew (hS7.drew.tail.tail.head)
              have hW7 := hWq w7.drew pu hS7.drew.sw1
              clear hWq cn0 cp0 gl4 hE1 hSz2 hSd hSj ho7 hB7
              go_upto_region 22 with (fail)
              go_region_held3 (fun w' => w'.cell? ⟨g4, j, none⟩ = some (.int .i64 pj))
                (first | exact cp7 | exact hcp _ hS8.tail.tail.head)
                (first
                  | (go_at_call 71; (with_reducible refine hW7.mono ?_); rintro e w8 ⟨rfl, pv8, hS8⟩)
                  | fail)
              go_wp2_with fail
              go_roundw
              case rel => exact ⟨j + 1, pv8, by omega, by go_num, hS8.sw1.tail⟩
              case measure => simp [intOf]; omega
            · obtain rfl : j = k := by omega
              have c0 : wr.cell? ⟨g4, 0, none⟩ = some (.int .i64 (l.getD 0 0)) := by
                rw [hIj.cell (j := 0) (by omega), page_at l 0 (by omega)]
              clear hIj hlen
              have i0 : (0 : Int) < (n4 : Int) := by have := HK.out; omega
              go_wp2_with fail
              go_ret2
              rw [HW2.out]
              exact ⟨rfl, _, (hSj.sw1.tail).sw1.tail⟩
end
end Go.Proofs.Ytgnhakgfgdelpaa

-- Bytes made of a constant.
namespace Go.Proofs.Ytgnhakgfgdelpaa
open Go.RowKit
theorem conv_id (w : World) (C : Array Value) (n c g : Nat) (hg : g = w.heap.size) : (convert 25 25 (.slice (some ⟨g, 0, none⟩) n c)).run Try.prog (w.alloc (.cells C 5)) = .ok (.slice (some ⟨g, 0, none⟩) n c) (w.alloc (.cells C 5 (C.size, C.size + 1))) := by
  subst hg; exact Lib.run_convert_bytes_const w _ _ C n c Try.underlying25 Try.underlying5
theorem RdB.litm (w : World) (l : List UInt8) (cells : Array Value) (T : TypeId) (fr : Nat × Nat) (n : Nat) (h : cells = (bvs l).toArray) (hn : l.length = n) (hm : n ≤ maxLen) : RdB (w.alloc (.cells cells T fr)) (.slice (some ⟨w.heap.size, 0, none⟩) n n) l := by
  subst h; subst hn
  refine ⟨_, _, rfl, Nat.le_refl _, hm, fun j hj => ⟨_, rfl, ?_⟩⟩
  rw [add_row, Nat.zero_add, World.cell?_alloc_mark]
  have := bvs_get' l j hj
  simpa using this
end Go.Proofs.Ytgnhakgfgdelpaa

-- espalierlaw09.awake: the walk.
namespace Go.Proofs.Ytgnhakgfgdelpaa
open Go.RowKit Go.Maps
section
variable {w0 w : World} {gb gm : Nat} {pv : Int → Option Value} {S : BS} {L : List Ent}
theorem SWrite_eq (hS : Sep w0 w (benchE gb gm pv S :: L)) (x : Value) (v : List UInt8) (hx : RdIn L x v) {a z : Int} {S' : BS} (he : wrF S v = (a, z, S')) :
    Calls Try.prog 22 #[roomV gb, x] w fun e w' => e = .returned (.tuple #[.int .i64 a, .int .i64 z]) ∧ ∃ pv', Sep w0 w' (benchE gb gm pv' S' :: L) := by
  have h := SWrite_any hS x v hx
  rw [he] at h
  exact h
theorem SRead_eq (hS : Sep w0 w (benchE gb gm pv S :: L)) (first : Int) (hfi : i64w first) (n : Int) {z : Int} {ps : List Int} {out : List UInt8} {S' : BS} (he : allCh S first n = (z, ps, out, S')) :
    Calls Try.prog 24 #[roomV gb, .int .i64 first, .int .i64 n] w fun e w' => ∃ ou pv', e = .returned (.tuple #[ou, .int .i64 z]) ∧ Sep w0 w' (bytesE ou out :: benchE gb gm pv' S' :: L) := by
  have h := SRead_any hS first hfi n
  rw [he] at h
  exact h
theorem SList_eq (hS : Sep w0 w (benchE gb gm pv S :: L)) (first : Int) (hfi : i64w first) (n : Int) {z : Int} {ps : List Int} {out : List UInt8} {S' : BS} (he : allCh S first n = (z, ps, out, S')) :
    Calls Try.prog 27 #[roomV gb, .int .i64 first, .int .i64 n] w fun e w' => ∃ pu pv', e = .returned (.tuple #[pu, .int .i64 z]) ∧ Sep w0 w' (intsE pu ps :: benchE gb gm pv' S' :: L) := by
  have h := SList_any hS first hfi n
  rw [he] at h
  exact h
theorem SSlice_eq (hS : Sep w0 w (benchE gb gm pv S :: L)) (first : Int) (hfi : i64w first) (n from_ to_ : Int) (hfr : i64w from_) (hto : i64w to_) {z : Int} {ps : List Int} {out : List UInt8} {S' : BS} (he : sliceCh S first n from_ to_ = (z, ps, out, S')) :
    Calls Try.prog 25 #[roomV gb, .int .i64 first, .int .i64 n, .int .i64 from_, .int .i64 to_] w fun e w' => ∃ ou pv', e = .returned (.tuple #[ou, .int .i64 z]) ∧ Sep w0 w' (bytesE ou out :: benchE gb gm pv' S' :: L) := by
  have h := SSlice_any hS first hfi n from_ to_ hfr hto
  rw [he] at h
  exact h
theorem SFree_eq (hS : Sep w0 w (benchE gb gm pv S :: L)) (first : Int) (hfi : i64w first) (n : Int) {z : Int} {S' : BS} (he : freeCh S first n = (z, S')) :
    Calls Try.prog 26 #[roomV gb, .int .i64 first, .int .i64 n] w fun e w' => ∃ pv', e = .returned (.int .i64 z) ∧ Sep w0 w' (benchE gb gm pv' S' :: L) := by
  have h := SFree_any hS first hfi n
  rw [he] at h
  exact h
end
def pgAb : List UInt8 := laidS 0 [97, 98] 512
theorem pgAb_z : spZ 0 [97, 98] ((512 : Nat) : Int) = 0 := by decide +kernel
theorem pgAb_len : pgAb.length = 512 := laidS_length (by decide)
theorem pgAb_take : pgAb.take 14 = [4, 0, 0, 0, 0, 0, 0, 0, 0, 0, 0, 2, 97, 98] := by
  unfold pgAb laidS
  rw [List.take_append_of_le_length (by rw [preS_length (by decide)]; omega)]
  decide +kernel
theorem Enc_ab (W : World) (u : Value) (hu : RdB W u [97, 98]) : Calls Try.prog 15 #[.int .i64 0, u, .int .i64 512] W fun e w' => ∃ u', e = .returned (.tuple #[u', .int .i64 0]) ∧ OwB w' W.heap.size u' pgAb ∧ Below W.heap.size W w' := by
  have h := SEncode_any 0 u [97, 98] 512 (by unfold i64w; omega) W hu
  have e : spL 0 [97, 98] 512 = pgAb := by unfold spL; rw [if_pos (show spZ 0 [97, 98] 512 = 0 from pgAb_z)]; rfl
  rw [e, show spZ 0 [97, 98] 512 = 0 from pgAb_z] at h
  exact h
theorem Dec_ab (W : World) (u : Value) (hu : RdB W u pgAb) : Calls Try.prog 20 #[u] W fun e w' => ∃ u', e = .returned (.tuple #[.int .i64 0, u', .int .i64 0]) ∧ OwB w' W.heap.size u' [97, 98] ∧ Below W.heap.size W w' := by
  have h := SDecode_any u pgAb W hu
  have e : decS pgAb = some (0, [97, 98]) := decS_laidS pgAb_z
  obtain ⟨d1, d2, d3⟩ := dec_some e
  unfold SDecAt at h
  rw [d1, d2, d3] at h
  exact h
set_option maxRecDepth 100000 in
set_option maxHeartbeats 8000000 in
theorem awake_any (w : World) : Calls Try.prog 9 #[] w fun e w' => e = .returned (.bool true) ∧ Below w.heap.size w w' := by
  obtain ⟨l, S1, hw, hH1, hok1, hl0, hp1, hl2, hno⟩ := aw_write
  obtain ⟨S2, ha2, L2⟩ := allCh_law hok1 hH1 (by rw [v500_len]; omega) (by rw [v500_len]; omega)
  obtain ⟨S3, ha3, L3⟩ := aw_bad (L2.ok hok1) (hH1.like L2) (L2.page.trans hp1) hl0 hl2
  have L3 := L2.trans L3
  obtain ⟨S4, ha4, L4⟩ := allCh_law (L3.ok hok1) (hH1.like L3) (by rw [v500_len]; omega) (by rw [v500_len]; omega)
  have L4 := L3.trans L4
  obtain ⟨S5, ha5, L5⟩ := sliceCh_law (L4.ok hok1) (hH1.like L4) (by rw [v500_len]; omega) (by rw [v500_len]; omega) (lo := 499) (hi := 500) (by omega) (by rw [v500_len]; omega)
  have L5 := L4.trans L5
  obtain ⟨S6, ha6, -, -, hok6, k6, k7⟩ := freeCh_law (L5.ok hok1) (hH1.like L5) (by rw [v500_len]; omega) (by rw [v500_len]; omega)
  have ht6 : takenF S6 = [] := takenF_none fun n => by
    by_cases h : n ∈ l
    · exact k6 n h
    · rw [k7 n h, L5.held]; exact hno n h
  rw [hl0, v500_len] at ha2 ha4 ha5 ha6
  rw [v500_end] at ha5
  have kc := fun (w : World) (C : Array Value) (n c g : Nat) (hg : g = w.heap.size) => conv_id w C n c g hg
  have hWr := fun (W : World) (gb gm : Nat) (pv : Int → Option Value) (L : List Ent) (hS : Sep w W (benchE gb gm pv S500 :: L)) (x : Value) (hx : RdIn L x v500) => SWrite_eq hS x v500 hx hw
  have hR2 := fun (W : World) (gb gm : Nat) (pv : Int → Option Value) (L : List Ent) (hS : Sep w W (benchE gb gm pv S1 :: L)) => SRead_eq hS 2 (by unfold i64w; omega) 500 ha2
  have hR3 := fun (W : World) (gb gm : Nat) (pv : Int → Option Value) (L : List Ent) (hS : Sep w W (benchE gb gm pv S2 :: L)) => SRead_eq hS 2 (by unfold i64w; omega) 499 ha3
  have hL4 := fun (W : World) (gb gm : Nat) (pv : Int → Option Value) (L : List Ent) (hS : Sep w W (benchE gb gm pv S3 :: L)) => SList_eq hS 2 (by unfold i64w; omega) 500 ha4
  have hS5 := fun (W : World) (gb gm : Nat) (pv : Int → Option Value) (L : List Ent) (hS : Sep w W (benchE gb gm pv S4 :: L)) => SSlice_eq hS 2 (by unfold i64w; omega) 500 499 500 (by unfold i64w; omega) (by unfold i64w; omega) ha5
  have hF6 := fun (W : World) (gb gm : Nat) (pv : Int → Option Value) (L : List Ent) (hS : Sep w W (benchE gb gm pv S5 :: L)) => SFree_eq hS 2 (by unfold i64w; omega) 500 ha6
  have hT6 := fun (W : World) (gb gm : Nat) (pv : Int → Option Value) (L : List Ent) (hS : Sep w W (benchE gb gm pv S6 :: L)) => BTaken_any hS
  rw [ht6] at hT6
  have hvl := Lib.hid v500_len
  have hv5 : Hid (v500 = (List.replicate 500 0).set 499 7) := Lib.hid rfl
  have hpl := Lib.hid pgAb_len
  have hpt := Lib.hid pgAb_take
  have hNB := NewB_ok 1 512 9 (.inl rfl) (by decide) w w [oldE w] (Sep.start w)
  have hNB : Calls Try.prog 21 #[.int .i64 1, .int .i64 512, .int .i64 9] w fun e w' => ∃ gb gm, e = .returned (.pointer (some ⟨gb, 0, none⟩)) ∧ Sep w w' (benchE gb gm (fun _ => none) S500 :: [oldE w]) := hNB
  have hEn := Enc_ab
  have hDe := Dec_ab
  clear hw hH1 hok1 hl0 hp1 hno ha2 ha3 ha4 ha5 ha6 L2 L3 L4 L5 hok6 k6 k7 ht6
  generalize v500 = v at *
  generalize S500 = S0 at *
  generalize pgAb = pg at *
  go_enter Try.func9, Try.ntmps9
  go_upto_region 3 with (first
    | (go_at_call 21; (with_reducible refine hNB.mono ?_); rintro e w1 ⟨gb, gm, rfl, hS1⟩)
    | (at_make; refine wp_make_B rfl _ _ rfl 500 500 rfl rfl rfl (by omega) ?_; intro w2 ho2 hB2 hs2; have hS2 : Sep w w2 (bytesE (.slice (some ⟨w1.heap.size, 0, none⟩) 500 500) (List.replicate 500 0) :: benchE gb gm (fun _ => none) S0 :: [oldE w]) := (hS1.bytes hB2 (ho2.owB' (base := w1.heap.size) (Nat.le_refl _) (by simp only [List.length_replicate, maxLen]; omega)) (Nat.le_refl _)))
    | fail)
  have hb2 : OwB w2 0 (.slice (some ⟨w1.heap.size, 0, none⟩) 500 500) (List.replicate 500 0) := hS2.head
  have hf2 := hb2.frozen (j := 499) (by rw [List.length_replicate]; omega)
  have hc2 := hb2.cell (j := 499) (by rw [List.length_replicate]; omega)
  have hst := hb2.set 499 7
  rw [← hv5.out] at hst
  have hS3 : Sep w (w2.setCell ⟨w1.heap.size, 499, none⟩ (.int .u8 7)) (bytesE (.slice (some ⟨w1.heap.size, 0, none⟩) 500 500) v :: benchE gb gm (fun _ => none) S0 :: [oldE w]) :=
    hS2.upd (Turn.of_grown (grownBy_setCell _ _ _) (fun _ e => e)) hst (fun g hg => ⟨.inl hg, by have := hS2.lt g hg; simpa using this⟩)
  clear hb2 hst ho2 hB2 hs2 hS2 hS1 hNB
  generalize hgg : w1.heap.size = gv at *
  clear hgg
  go_upto_region 4 with (fail)
  clear hf2 hc2
  generalize w2.setCell ⟨gv, 499, none⟩ (.int .u8 7) = w3 at *
  have hS4 : Sep w w3 (benchE gb gm (fun _ => none) S0 :: bytesE (.slice (some ⟨gv, 0, none⟩) 500 500) v :: [oldE w]) := hS3.sw1
  have hx4 : RdIn (bytesE (.slice (some ⟨gv, 0, none⟩) 500 500) v :: [oldE w]) (.slice (some ⟨gv, 0, none⟩) 500 500) v := ⟨_, List.mem_cons_self .., fun _ h => OwB.rd h⟩
  clear hS3
  go_upto_region 9 with (first
    | (go_at_call 22; (with_reducible refine (hWr _ _ _ _ _ hS4 _ hx4).mono ?_); rintro e w5 ⟨rfl, pv5, hS5'⟩)
    | (go_at_call 24; (with_reducible refine (hR2 _ _ _ _ _ hS5').mono ?_); rintro e w6 ⟨o6, pv6, rfl, hS6'⟩; have hS6 := hS6'.sw1)
    | (go_at_call 24; (with_reducible refine (hR3 _ _ _ _ _ hS6).mono ?_); rintro e w7 ⟨o7, pv7, rfl, hS7'⟩; have hS7 := hS7'.sw1)
    | (go_at_call 27; (with_reducible refine (hL4 _ _ _ _ _ hS7).mono ?_); rintro e w8 ⟨o8, pv8, rfl, hS8'⟩; obtain ⟨A8, c8, e8, -⟩ := (OwI.rd (hS8'.head : OwI w8 0 o8 l)).form; rw [hl2] at e8; subst e8; have hS8 := hS8'.sw1)
    | (go_at_call 25; (with_reducible refine (hS5 _ _ _ _ _ hS8).mono ?_); rintro e w9 ⟨o9, pv9, rfl, hS9'⟩; have hS9 := hS9'.sw1)
    | fail)
  clear hWr hR2 hR3 hL4 hS5 hS4 hS5' hS6 hS6' hS7 hS7' hS8 hS8' hS9'
  have hB9 : Below w9.heap.size w9 (w9.alloc (.cells #[.int .u8 97, .int .u8 98] 5 (2, 3))) := (Below.refl _ _).alloc (Nat.le_refl _) _
  have hab := RdB.litm w9 [97, 98] #[.int .u8 97, .int .u8 98] 5 (2, 3) 2 rfl rfl (by decide)
  have hS9a := hS9.below hB9
  have hpg : Hid (pagesF 512 497 = 2) := Lib.hid (by decide)
  have hPg := fun W => SPages_any 512 497 (by unfold i64w; omega) (by unfold i64w; omega) W
  rw [hpg.out] at hPg
  go_upto_region 10 with (first
    | (go_at_call 15; (with_reducible refine (hEn _ _ hab).mono ?_); rintro e w10 ⟨o10, rfl, ho10, hB10⟩; have hS10 := hS9a.bytes hB10 ho10 (Nat.le_refl _))
    | fail)
  have hr10 : RdB w10 o10 pg := OwB.rd (hS10.head : OwB w10 0 o10 pg)
  obtain ⟨A10, c10, e10, -⟩ := hr10.form
  rw [hpl.out] at e10
  subst e10
  clear hab hS9a hB9 ho10 hB10 hS9
  go_upto_region 14 with (first
    | (go_at_call 20; (with_reducible refine (hDe _ _ hr10).mono ?_); rintro e w11 ⟨o11, rfl, ho11, hB11⟩; have hS11 := (hS10.bytes hB11 ho11 (Nat.le_refl _)).sw2)
    | (go_at_call 26; (with_reducible refine (hF6 _ _ _ _ _ hS11).mono ?_); rintro e w12 ⟨pv12, rfl, hS12⟩)
    | fail)
  clear hr10 hS10 hS11 ho11 hB11
  go_wp2_with (first
    | (go_at_call 23; (with_reducible refine (hT6 _ _ _ _ _ hS12).mono ?_); rintro e w14 ⟨o14, rfl, hS14⟩; obtain ⟨A14, c14, rfl, -⟩ := (OwI.rd (hS14.head : OwI w14 0 o14 [])).form; have r11 : RdB w14 o11 [97, 98] := OwB.rd (hS14.tail.tail.head : OwB w14 0 o11 _); have r10 : RdB w14 (.slice A10 512 c10) pg := OwB.rd (hS14.tail.tail.tail.head : OwB w14 0 _ pg); have r9 : RdB w14 o9 [7] := OwB.rd (hS14.tail.tail.tail.tail.head : OwB w14 0 o9 _); have r6 : RdB w14 o6 v := OwB.rd (hS14.tail.tail.tail.tail.tail.tail.tail.head : OwB w14 0 o6 v); have r5 : RdB w14 (.slice (some ⟨gv, 0, none⟩) 500 500) v := OwB.rd (hS14.tail.tail.tail.tail.tail.tail.tail.tail.head : OwB w14 0 _ v); have q11 := run_B_string r11; have q9 := run_B_string r9; have q6 := run_B_string r6; have q5 := run_B_string r5; obtain ⟨A15, d15, q15, r15⟩ := r10.run_h 14 (by rw [hpl.out]; omega); rw [hpt.out] at r15; have q17 : ∀ w', (Instr.slice 25 (.slice A10 512 c10) none (some (.int .i64 14)) none).run Try.prog w' = .ok (.slice A15 14 d15) w' := (fun w' => q15 w'); clear q15; have q16 := run_B_string r15; clear r11 r10 r9 r6 r5 r15)
    | (go_at_call 10; (with_reducible refine (hPg _).mono ?_); rintro e w15 ⟨rfl, rfl⟩)
    | fail)
  go_ret
  exact ⟨rfl, hS14.belowOld (v := w) (by simp)⟩
end Go.Proofs.Ytgnhakgfgdelpaa

-- espalierlaw09.pair: lists that grow, in words of pieces.
namespace Go.Proofs.Ytgnhakgfgdelpaa
open Go.RowKit Go.Maps
def strV (l : List UInt8) : Value := .string ⟨l.toArray⟩
theorem str_info : (Try.prog.info? 9).map (fun i => (i.zero, i.size, i.bytes)) = some (some (.string ⟨#[]⟩), 1, 16) := by kernel_rfl
theorem li_info : (Try.prog.info? 45).map (fun i => (i.zero, i.size, i.bytes)) = some (some (.slice none 0 0), 1, 24) := by kernel_rfl
theorem lb_info : (Try.prog.info? 25).map (fun i => (i.zero, i.size, i.bytes)) = some (some (.slice none 0 0), 1, 24) := by kernel_rfl
section laws
variable {w : World} {ops : Array Oper} {rest : List Oper} {o : Oper} {a : Act} {Q : Exit → Act → World → Prop}
/-- append(vs, u) of one slice of bytes that has just been laid. -/
theorem wp_append_LB (hgd : o.guard = none) (s x : Operand)
    (ho : o.op = .call { callee := .builtin .append, args := #[s, x], argTypes := #[32, 32] })
    (base n : Nat) (v : Value) (vs : List Value) (hs : a.eval s = v) (hown : Own w base 25 1 v n vs)
    (u : Value) (hu : u.oneCell' = true) (T : TypeId) (hx : a.eval x = .slice (some ⟨w.heap.size, 0, none⟩) 1 1) (hsm : n + 1 ≤ 100000000) (hbase : base ≤ w.heap.size)
    (h : ∀ v' w', Own w' base 25 1 v' (n + 1) (vs ++ [u]) → w.grownBy w' v.ownBlock → (v'.ownBlock = v.ownBlock ∨ (v'.ownBlock = some (w.heap.size + 1))) → wpList Try.prog ops Q rest (a.put o.dst v') w') :
    wpList Try.prog ops Q (o :: rest) a (w.alloc (.cells #[u] T)) := by
  obtain ⟨i, hi, hz0, hz1, hz2⟩ := info_parts lb_info
  refine wp_append hgd s x _ _ ho base 25 i _ 1 24 Try.underlying32 hi hz0 hz1 hz2 rfl v n vs hs (hown.alloc _) (.slice (some ⟨w.heap.size, 0, none⟩) 1 1) 1 [u] hx
    (Rd.src _ Try.underlying32 (by omega) (Rd.one w u T) (by simpa using hu)) (by omega) (by omega) (by simp; omega) ?_
  intro v' w' h1 h2 h3
  refine h v' w' h1 ⟨h2.os, h2.tape, h2.output, ?_, fun k hk hne => (h2.block k (by simp; omega) hne).trans (Below.heap_alloc _ _ _ hk)⟩ (by simpa using h3)
  have := h2.size
  simp at this; omega
/-- append(vs, u) of one slice of integers that has just been laid. -/
theorem wp_append_LI (hgd : o.guard = none) (s x : Operand)
    (ho : o.op = .call { callee := .builtin .append, args := #[s, x], argTypes := #[57, 57] })
    (base n : Nat) (v : Value) (vs : List Value) (hs : a.eval s = v) (hown : Own w base 45 1 v n vs)
    (u : Value) (hu : u.oneCell' = true) (T : TypeId) (hx : a.eval x = .slice (some ⟨w.heap.size, 0, none⟩) 1 1) (hsm : n + 1 ≤ 100000000) (hbase : base ≤ w.heap.size)
    (h : ∀ v' w', Own w' base 45 1 v' (n + 1) (vs ++ [u]) → w.grownBy w' v.ownBlock → (v'.ownBlock = v.ownBlock ∨ (v'.ownBlock = some (w.heap.size + 1))) → wpList Try.prog ops Q rest (a.put o.dst v') w') :
    wpList Try.prog ops Q (o :: rest) a (w.alloc (.cells #[u] T)) := by
  obtain ⟨i, hi, hz0, hz1, hz2⟩ := info_parts li_info
  refine wp_append hgd s x _ _ ho base 45 i _ 1 24 Try.underlying57 hi hz0 hz1 hz2 rfl v n vs hs (hown.alloc _) (.slice (some ⟨w.heap.size, 0, none⟩) 1 1) 1 [u] hx
    (Rd.src _ Try.underlying57 (by omega) (Rd.one w u T) (by simpa using hu)) (by omega) (by omega) (by simp; omega) ?_
  intro v' w' h1 h2 h3
  refine h v' w' h1 ⟨h2.os, h2.tape, h2.output, ?_, fun k hk hne => (h2.block k (by simp; omega) hne).trans (Below.heap_alloc _ _ _ hk)⟩ (by simpa using h3)
  have := h2.size
  simp at this; omega
end laws
section
variable {w0 w w' : World} {L : List Ent}
theorem Sep.appV {T : TypeId} {v v' : Value} {n m : Nat} {xs ys : List Value} (h : Sep w0 w (ownE T 1 v n xs :: L)) (ho : Own w' 0 T 1 v' m ys) (hg : w.grownBy w' v.ownBlock) (hk : v'.ownBlock = v.ownBlock ∨ ∃ k, v'.ownBlock = some k ∧ w.heap.size ≤ k) : Sep w0 w' (ownE T 1 v' m ys :: L) :=
  h.upd (Turn.of_grown hg (fun _ e => e)) ho (fun g hg' => ⟨by
    rcases hk with e | ⟨k, e, hk⟩
    · exact .inl (e.symm.trans hg' : v.ownBlock = some g)
    · right
      have := e.symm.trans hg'
      injection this with this
      omega, (Own.lt ho g hg').2⟩)
theorem Sep.snocAll {D : List Ent} {E : Ent} (h : Sep w0 w (allE D :: E :: L)) : Sep w0 w (allE (D ++ [E]) :: L) := by
  have h1 := h.unpack
  have e : D ++ E :: L = (D ++ [E]) ++ L := by simp
  rw [e] at h1
  exact h1.pack
theorem RdB.one {w : World} {v : Value} {l : List UInt8} (h : RdB w v l) : v.oneCell' = true := by obtain ⟨A, c, rfl, -⟩ := h.form; rfl
theorem RdI.one {w : World} {v : Value} {l : List Int} (h : RdI w v l) : v.oneCell' = true := by obtain ⟨A, c, rfl, -⟩ := h.form; rfl
theorem RdIn.app {L1 L2 : List Ent} {v : Value} {l : List UInt8} (h : RdIn L2 v l) : RdIn (L1 ++ L2) v l := by obtain ⟨X, hX, h⟩ := h; exact ⟨X, List.mem_append_right _ hX, h⟩
end
end Go.Proofs.Ytgnhakgfgdelpaa

-- espalierlaw09.pair: first, page: walks.
namespace Go.Proofs.Ytgnhakgfgdelpaa
open Go.RowKit Go.Maps
/-- One step of a script, as a value. -/
def opV (k f n fr to_ : Int) (v : Value) : Value := .agg #[.int .i64 k, .int .i64 f, .int .i64 n, .int .i64 fr, .int .i64 to_, v]
def firstF (l : List Int) (f : Int) : Int := if 0 ≤ f ∨ l.length = 0 then f else l.getD ((-(f + 1)).toNat % l.length) 0
theorem firstF_rng {l : List Int} {f : Int} (hf : i64w f) (hl : ∀ x ∈ l, i64w x) : i64w (firstF l f) := by
  unfold firstF
  split
  · exact hf
  · rename_i h
    have hlt : (-(f + 1)).toNat % l.length < l.length := Nat.mod_lt _ (by omega)
    rw [List.getD_eq_getElem?_getD, List.getElem?_eq_getElem hlt]
    exact hl _ (List.getElem_mem hlt)
section
variable {w0 w : World} {pb : Nat} {c0 c1 fv c3 c4 c5 c6 : Value} {firsts : List Int} {L : List Ent}
set_option maxRecDepth 100000 in
set_option maxHeartbeats 8000000 in
theorem first_sep (hS : Sep w0 w (blkE pb 59 [c0, c1, fv, c3, c4, c5, c6] :: intsE fv firsts :: L)) (k f n fr to_ : Int) (v : Value) (hf : i64w f) (hfl : firsts.length ≤ 100000000) :
    Calls Try.prog 48 #[.pointer (some ⟨pb, 0, none⟩), opV k f n fr to_ v] w fun e w' => e = .returned (.int .i64 (firstF firsts f)) ∧ Below w.heap.size w w' := by
  have hbk : OBlk w pb 59 [c0, c1, fv, c3, c4, c5, c6] := hS.head
  have hpi : OwI w 0 fv firsts := hS.tail.head
  have hB : Below w.heap.size w (w.alloc (.cells #[.int .i64 k, .int .i64 f, .int .i64 n, .int .i64 fr, .int .i64 to_, v] 61)) := (Below.refl _ _).alloc (Nat.le_refl _) _
  have hbx := OBlk.new' w 61 [.int .i64 k, .int .i64 f, .int .i64 n, .int .i64 fr, .int .i64 to_, v]
  have b1 := hbx.cell' (j := 1) rfl
  have hbk' := hbk.alloc (.cells #[.int .i64 k, .int .i64 f, .int .i64 n, .int .i64 fr, .int .i64 to_, v] 61)
  have k2 := hbk'.cell' (j := 2) rfl
  have hri : RdI (w.alloc (.cells #[.int .i64 k, .int .i64 f, .int .i64 n, .int .i64 fr, .int .i64 to_, v] 61)) fv firsts := Rd.alloc (OwI.rd hpi) _
  obtain ⟨A, c, rfl, -⟩ := hri.form
  unfold opV
  clear hbk hpi hbk' hbx
  by_cases h1 : 0 ≤ f
  · have HV : Hid (firstF firsts f = f) := by show _ = _; unfold firstF; rw [if_pos (.inl h1)]
    go_enter Try.func48, Try.ntmps48
    go_wp2_with fail
    go_ret
    rw [HV.out]
    exact ⟨rfl, hB⟩
  · by_cases h2 : firsts.length = 0
    · have HV : Hid (firstF firsts f = f) := by show _ = _; unfold firstF; rw [if_pos (.inr h2)]
      have e1 : ((firsts.length : Int) == 0) = true := by rw [h2]; rfl
      clear h2
      go_enter Try.func48, Try.ntmps48
      go_wp2_with fail
      go_ret
      rw [HV.out]
      exact ⟨rfl, hB⟩
    · have e1 : ((firsts.length : Int) == 0) = false := beq_eq_false_iff_ne.2 (by omega)
      obtain ⟨m, hm⟩ : ∃ m : Nat, (m : Int) = -(f + 1) := ⟨(-(f + 1)).toNat, by omega⟩
      obtain ⟨q, hq⟩ : ∃ q : Nat, q = m % firsts.length := ⟨_, rfl⟩
      have hql : q < firsts.length := by rw [hq]; exact Nat.mod_lt _ (by omega)
      have HV : Hid (firstF firsts f = firsts[q]) := by
        show _ = _
        unfold firstF
        rw [if_neg (by omega), show (-(f + 1)).toNat = m by omega, ← hq, List.getD_eq_getElem?_getD, List.getElem?_eq_getElem hql]
        rfl
      obtain ⟨ad, rfl, hcell⟩ := hri.at_ hql
      unfold i64w at hf
      have ew1 : IntKind.i64.wrap (f + 1) = f + 1 := by rw [IntKind.wrap_i64]; omega
      have ew2 : IntKind.i64.wrap (-(f + 1)) = (m : Int) := by rw [IntKind.wrap_i64]; omega
      have em : (m : Int).tmod (firsts.length : Int) = (q : Int) := by rw [hq]; rfl
      have ew3 : IntKind.i64.wrap ((m : Int).tmod (firsts.length : Int)) = (q : Int) := by rw [em, IntKind.wrap_i64]; omega
      have nz : ¬ (firsts.length : Int) = 0 := by omega
      have i1 : (0 : Int) ≤ (q : Int) := by omega
      have i2 : (q : Int) < (firsts.length : Int) := by omega
      clear hq hm h2
      generalize firsts[q] = y at *
      go_enter Try.func48, Try.ntmps48
      go_upto_region 3 with (fail)
      go_quiet (fail)
      go_wp2_with fail
      go_ret
      rw [HV.out]
      exact ⟨rfl, ⟨hB.os, hB.tape, hB.output, hB.size, hB.block⟩⟩
end
section
variable {w0 w : World} {pb gb gm gb2 gm2 : Nat} {pv pv2 : Int → Option Value} {c2 c3 c4 c5 c6 : Value} {S : BS} {L : List Ent}
def pageB (S : BS) (n : Int) : List UInt8 := (S.held n).getD []
def pageS (S : BS) (n : Int) : BS := if S.held n = none then S else S.read
set_option maxRecDepth 100000 in
set_option maxHeartbeats 8000000 in
theorem page_sep (hS : Sep w0 w (blkE pb 59 [.pointer (some ⟨gb, 0, none⟩), .pointer (some ⟨gb2, 0, none⟩), c2, c3, c4, c5, c6] :: benchE gb gm pv S :: benchE gb2 gm2 pv2 S :: L)) (n : Int) (hn : i64w n) :
    Calls Try.prog 67 #[.pointer (some ⟨pb, 0, none⟩), .int .i64 n] w fun e w' => ∃ u, e = .returned u ∧ Sep w0 w' (bytesE u (pageB S n) :: blkE pb 59 [.pointer (some ⟨gb, 0, none⟩), .pointer (some ⟨gb2, 0, none⟩), c2, c3, c4, c5, c6] :: benchE gb gm pv (pageS S n) :: benchE gb2 gm2 pv2 (pageS S n) :: L) := by
  have hbk : OBlk w pb 59 [.pointer (some ⟨gb, 0, none⟩), .pointer (some ⟨gb2, 0, none⟩), c2, c3, c4, c5, c6] := hS.head
  have k0 := hbk.cell' (j := 0) rfl
  have k1 := hbk.cell' (j := 1) rfl
  clear hbk
  cases hh : S.held n with
  | none =>
    have HB : Hid (pageB S n = []) := by show _ = _; unfold pageB; rw [hh]; rfl
    have HS : Hid (pageS S n = S) := by show _ = _; unfold pageS; rw [if_pos hh]
    have hR1 := BRead_none hS.tail.head n hn hh
    have hR2 := BRead_none hS.tail.tail.head n hn hh
    clear hh
    go_enter Try.func67, Try.ntmps67
    go_wp2_with (first
      | (go_at_call 31; (with_reducible refine hR2.mono ?_); rintro e w1 ⟨rfl, rfl⟩)
      | (go_at_call 31; (with_reducible refine hR1.mono ?_); rintro e w1 ⟨rfl, rfl⟩)
      | fail)
    go_ret
    rw [HB.out, HS.out]
    exact ⟨_, rfl, hS.nil⟩
  | some b =>
    have HB : Hid (pageB S n = b) := by show _ = _; unfold pageB; rw [hh]; rfl
    have HS : Hid (pageS S n = S.read) := by show _ = _; unfold pageS; rw [if_neg (by rw [hh]; simp)]
    have hR2 := BRead_some hS.sw2 n hn b hh
    have HH := Lib.hid hh
    clear hh
    go_enter Try.func67, Try.ntmps67
    go_upto_region 2 with (first
      | (go_at_call 31; (with_reducible refine hR2.mono ?_); rintro e w1 ⟨u, rfl, hS1⟩)
      | fail)
    have hS2 : Sep w0 w1 (benchE gb gm pv S :: [bytesE u b, benchE gb2 gm2 pv2 S.read, blkE pb 59 [.pointer (some ⟨gb, 0, none⟩), .pointer (some ⟨gb2, 0, none⟩), c2, c3, c4, c5, c6]] ++ L) := hS1.sw3
    have hS2 : Sep w0 w1 (benchE gb gm pv S :: bytesE u b :: benchE gb2 gm2 pv2 S.read :: blkE pb 59 [.pointer (some ⟨gb, 0, none⟩), .pointer (some ⟨gb2, 0, none⟩), c2, c3, c4, c5, c6] :: L) := hS2
    have hR1 := BRead_some hS2 n hn b HH.out
    have k0 := OBlk.cell' (show OBlk w1 pb 59 [.pointer (some ⟨gb, 0, none⟩), .pointer (some ⟨gb2, 0, none⟩), c2, c3, c4, c5, c6] from hS2.tail.tail.tail.head) (j := 0) rfl
    clear hS1 hS hR2
    go_wp2_with (first
      | (go_at_call 31; (with_reducible refine hR1.mono ?_); rintro e w2 ⟨u2, rfl, hS3⟩)
      | fail)
    go_ret
    rw [HB.out, HS.out]
    exact ⟨_, rfl, hS3.tail.sw3.sw2⟩
end
end Go.Proofs.Ytgnhakgfgdelpaa

-- espalierref01.Fixed, step, SumOf: walks.
namespace Go.Proofs.Ytgnhakgfgdelpaa
open Go.RowKit

/-! ### Fixed -/
theorem div_pow (n k : Nat) : n / 256 ^ k / 256 = n / 256 ^ (k + 1) := by rw [Nat.pow_succ, Nat.div_div_eq_div_mul]
theorem u8_mod (n : Nat) : (n : Int) % 256 % 256 = ((UInt8.ofNat n).toNat : Int) := by rw [u8_byte]; omega
set_option maxHeartbeats 400000 in
theorem RFixed_any (n : Nat) (hn : n < 18446744073709551616) (wd : Nat) (h1 : 1 ≤ wd) (h8 : wd ≤ 8) (w : World) :
    Calls Try.prog 35 #[.int .u64 n, .int .i64 wd] w fun e w' => ∃ v, e = .returned v ∧ OwB w' w.heap.size v (fixedF n wd) ∧ Below w.heap.size w w' := by
  have g1 : (1 : Int) ≤ (wd : Int) := by omega
  have g2 : (wd : Int) ≤ 8 := by omega
  go_enter Try.func35, Try.ntmps35
  go_wp2
  go_loopw [5, 6] (fun v i wr => ∃ (k : Nat), i = .int .i64 ((k : Int) - 1) ∧ k ≤ wd ∧ OwB wr w.heap.size v (fixedF (n / 256 ^ k) (wd - k)) ∧ Below w.heap.size w wr)
    (fun _ i _ => (intOf i + 1).toNat)
  case atStart => exact ⟨wd, rfl, Nat.le_refl _, by rw [Nat.sub_self]; exact OwB.nil _ _, Below.refl _ _⟩
  case round =>
    obtain ⟨k, rfl, hk, hown, hw⟩ := hrel
    rcases Nat.eq_zero_or_pos k with rfl | hpos
    · go_wp2
      go_ret
      rw [Nat.pow_zero, Nat.div_one, Nat.sub_zero] at hown
      exact ⟨_, rfl, hown, hw⟩
    · obtain ⟨k', rfl⟩ : ∃ k', k = k' + 1 := ⟨k - 1, by omega⟩
      have e1 : ((k' + 1 : Nat) : Int) - 1 = (k' : Int) := by omega
      rw [e1]
      have hfx : fixedF (n / 256 ^ k') (wd - k') = fixedF (n / 256 ^ (k' + 1)) (wd - (k' + 1)) ++ [UInt8.ofNat (n / 256 ^ k')] := by
        rw [← div_pow, show wd - k' = (wd - (k' + 1)) + 1 by omega]; rfl
      have HF := Lib.hid hfx
      clear hfx e1
      go_wp2
      obtain ⟨wo, rfl⟩ : ∃ wo : World, wo = wr := ⟨_, rfl⟩
      go_loop [7, 8] (fun m i => ∃ (j : Nat), i = .int .i64 (j : Int) ∧ j ≤ k' ∧ m = .int .u64 (n / 256 ^ j : Nat)) (fun _ i => k' - (intOf i).toNat)
      case atStart => exact ⟨0, rfl, Nat.zero_le _, by simp⟩
      case round =>
        obtain ⟨j, rfl, hj, rfl⟩ := hrel
        have hq : n / 256 ^ j < 18446744073709551616 := Nat.lt_of_le_of_lt (Nat.div_le_self _ _) hn
        by_cases hlt : j < k'
        · have HD := Lib.hid (div_pow n j)
          generalize n / 256 ^ j = q at *
          go_wp2
          go_round
          case rel => exact ⟨j + 1, by go_num, by omega, by rw [← HD.out]; go_num⟩
          case measure => simp [intOf]; omega
        · obtain rfl : j = k' := by omega
          have hlen := fixedF_length (n / 256 ^ (j + 1)) (wd - (j + 1))
          have hlen2 : (fixedF (n / 256 ^ (j + 1)) (wd - (j + 1))).length ≤ 8 := by omega
          generalize fixedF (n / 256 ^ (j + 1)) (wd - (j + 1)) = l at *
          generalize hqq : n / 256 ^ j = q at *
          have HQ := Lib.hid hqq
          clear hlen hqq
          go_wp2_with (first | (at_builtin; refine wp_append_B1 rfl (.tmp 30) (.tmp 34) rfl w.heap.size _ l rfl hown (UInt8.ofNat q) _ (congrArg (Value.int .u8) (u8_byte q).symm) 5 rfl (by omega) hw.size ?_; intro v1 w1 hown1 hg1 _hat1))
          go_roundw
          case rel =>
            rw [← HF.out, ← HQ.out] at hown1
            exact ⟨j, rfl, by omega, hown1, hw.grown hg1 hw.size (fun k hk => (hown.lt k hk).1)⟩
          case measure => simp [intOf]
theorem RFixed_4 (n : Nat) (hn : n < 18446744073709551616) (w : World) :
    Calls Try.prog 35 #[.int .u64 n, .int .i64 4] w fun e w' => ∃ v, e = .returned v ∧ OwB w' w.heap.size v (fixedF n 4) ∧ Below w.heap.size w w' :=
  RFixed_any n hn 4 (by omega) (by omega) w
theorem RFixed_8 (n : Nat) (hn : n < 18446744073709551616) (w : World) :
    Calls Try.prog 35 #[.int .u64 n, .int .i64 8] w fun e w' => ∃ v, e = .returned v ∧ OwB w' w.heap.size v (fixedF n 8) ∧ Below w.heap.size w w' :=
  RFixed_any n hn 8 (by omega) (by omega) w
set_option maxHeartbeats 400000 in
theorem step_any (r : Nat) (h : r < 4294967296) (x : UInt8) (w : World) :
    Calls Try.prog 58 #[.int .u32 r, .int .u8 (x.toNat : Int)] w fun e w' => e = .returned (.int .u32 (crcByte r x : Nat)) ∧ w = w' := by
  have hxb : x.toNat < 256 := x.toNat_lt
  have hx := u32_xor_nat r x.toNat h (by omega)
  have hy : r ^^^ x.toNat < 4294967296 := Nat.xor_lt_two_pow (n := 32) h (by omega)
  have HB : Hid (crcByte r x = crcN 8 (r ^^^ x.toNat)) := rfl
  generalize x.toNat = b at *
  generalize r ^^^ b = y at *
  go_enter Try.func58, Try.ntmps58
  go_wp2
  go_loop [5, 6] (fun q i => ∃ j : Nat, i = .int .i64 (j : Int) ∧ j ≤ 8 ∧ q = .int .u32 (crcN j y : Nat)) (fun _ i => 8 - (intOf i).toNat)
  case atStart => exact ⟨0, rfl, by omega, rfl⟩
  case round =>
    obtain ⟨j, rfl, hj, rfl⟩ := hrel
    by_cases hlt : j < 8
    · have hq := crcN_lt j y hy
      have hs : crcN (j + 1) y = crcBit (crcN j y) := crcN_add j 1 y
      have HS := Lib.hid hs
      clear hs
      generalize crcN j y = q at *
      by_cases hodd : q % 2 = 1
      · have e1 : ((q : Int) % 2 == 1) = true := by simp; omega
        have e2 : bits .xor .u32 ((q : Int) / 2) 2197175160 = (crcBit q : Nat) := by
          rw [crcBit, if_pos hodd]; exact u32_xor_nat (q / 2) 2197175160 (by omega) (by omega)
        clear hodd
        go_wp2
        go_round
        case rel => exact ⟨j + 1, by go_num, by omega, by rw [HS.out]⟩
        case measure => simp [intOf]; omega
      · have e1 : ((q : Int) % 2 == 1) = false := by simp; omega
        have e2 : Hid (crcBit q = q / 2) := by unfold crcBit; exact if_neg hodd
        clear hodd
        go_wp2
        go_round
        case rel => exact ⟨j + 1, by go_num, by omega, by rw [HS.out, e2.out]; go_num⟩
        case measure => simp [intOf]; omega
    · obtain rfl : j = 8 := by omega
      rw [← HB.out]
      go_wp2
      go_ret
      exact ⟨rfl, rfl⟩
end Go.Proofs.Ytgnhakgfgdelpaa

-- espalierref01.SumOf: the walk.
namespace Go.Proofs.Ytgnhakgfgdelpaa
open Go.RowKit
set_option maxHeartbeats 400000 in
theorem SumOf_any (v : Value) (l : List UInt8) (w : World) (hv : RdB w v l) :
    Calls Try.prog 36 #[v] w fun e w' => e = .returned (.int .u32 (sumF l : Nat)) ∧ w = w' := by
  obtain ⟨A, c, rfl, hm⟩ := hv.form
  go_enter Try.func36, Try.ntmps36
  go_wp2
  go_loop [3, 4] (fun q i => ∃ j : Nat, i = .int .i64 (j : Int) ∧ j ≤ l.length ∧ q = .int .u32 (crcF 4294967295 (l.take j) : Nat)) (fun _ i => l.length - (intOf i).toNat)
  case atStart => exact ⟨0, rfl, by omega, rfl⟩
  case round =>
    obtain ⟨j, rfl, hj, rfl⟩ := hrel
    by_cases hlt : j < l.length
    · obtain ⟨ad, rfl, hcell⟩ := hv.at_ hlt
      have hq : crcF 4294967295 (l.take j) < 4294967296 := crcF_lt _ _ (by omega)
      have hs : crcF 4294967295 (l.take (j + 1)) = crcByte (crcF 4294967295 (l.take j)) l[j] := by
        rw [List.take_succ_eq_append_getElem hlt, crcF_snoc]
      have HS := Lib.hid hs
      clear hs
      generalize l[j] = x at *
      generalize crcF 4294967295 (l.take j) = q at *
      go_wp2_with (go_at_call 58; refine (step_any q hq x _).mono ?_; rintro e w' ⟨rfl, rfl⟩)
      go_round
      case rel => exact ⟨j + 1, by go_num, by omega, by rw [HS.out]⟩
      case measure => simp [intOf]; omega
    · obtain rfl : j = l.length := by omega
      rw [List.take_length]
      have hr0 : crcF 4294967295 l < 4294967296 := crcF_lt _ _ (by omega)
      have hn : bits .xor .u32 (crcF 4294967295 l : Nat) 4294967295 = (sumF l : Nat) := u32_xor_nat _ 4294967295 hr0 (by omega)
      go_wp2
      go_ret
      exact ⟨rfl, rfl⟩
end Go.Proofs.Ytgnhakgfgdelpaa

-- espalierref09.Encode: the walk.
namespace Go.Proofs.Ytgnhakgfgdelpaa
open Go.RowKit
def headS (x : Nat) (d : List UInt8) : List UInt8 := (([4, 0, 0, 0] ++ fixedF x 4) ++ fixedF d.length 4) ++ d
theorem headS_length (x : Nat) (d : List UInt8) : (headS x d).length = d.length + 12 := by unfold headS; simp only [List.length_append, fixedF_length, List.length_cons, List.length_nil]; omega
theorem preS_head (x : Nat) (d : List UInt8) (P : Nat) : preS (x : Int) d P = headS x d ++ List.replicate (P - 16 - d.length) 0 := by
  unfold preS headS
  simp
theorem rep_more (l : List UInt8) (j : Nat) : (l ++ List.replicate j 0) ++ [0] = l ++ List.replicate (j + 1) 0 := by
  rw [List.append_assoc, ← List.replicate_succ']
set_option maxRecDepth 100000 in
set_option maxHeartbeats 8000000 in
theorem RSEncode_any (next : Int) (va : Value) (d : List UInt8) (P : Int) (w : World) (hd : RdB w va d) :
    Calls Try.prog 12 #[.int .i64 next, va, .int .i64 P] w fun e w' => ∃ u, e = .returned (.tuple #[u, .int .i64 (spZ next d P)]) ∧ OwB w' w.heap.size u (spL next d P) ∧ Below w.heap.size w w' := by
  obtain ⟨A, c, rfl, hm⟩ := hd.form
  have hPa := fun W => IsPage_any P W
  by_cases h1 : isPowB P = false ∨ (next ≠ 0 ∧ (next < 2 ∨ 65536 ≤ next))
  · have HZ : Hid (spZ next d P = 1) := by show _ = _; unfold spZ; rw [if_pos h1]
    have HL : Hid (spL next d P = []) := by show _ = _; unfold spL; rw [HZ.out, if_neg (by decide)]
    by_cases hp : isPowB P = false
    · rw [hp] at hPa
      clear h1 hp
      go_enter Try.func12, Try.ntmps12
      go_wp2_with (first | (go_at_call 34; (with_reducible refine (hPa _).mono ?_); rintro e w1 ⟨rfl, rfl⟩) | fail)
      go_ret2
      rw [HZ.out, HL.out]
      exact ⟨_, rfl, OwB.nil _ _, Below.refl _ _⟩
    · have hp : isPowB P = true := by simpa using hp
      rw [hp] at hPa
      have h2 : next < 0 ∨ next = 1 ∨ 65536 ≤ next := by
        rcases h1 with h | h
        · rw [hp] at h; cases h
        · omega
      clear h1 hp
      rcases (by omega : next < 0 ∨ (¬ next < 0 ∧ next = 1) ∨ (¬ next < 0 ∧ next ≠ 1 ∧ 65536 ≤ next)) with h | ⟨h, h'⟩ | ⟨h, h', h''⟩
      · clear h2
        go_enter Try.func12, Try.ntmps12
        go_wp2_with (first | (go_at_call 34; (with_reducible refine (hPa _).mono ?_); rintro e w1 ⟨rfl, rfl⟩) | fail)
        go_ret2
        rw [HZ.out, HL.out]
        exact ⟨_, rfl, OwB.nil _ _, Below.refl _ _⟩
      · have e1 : (next == 1) = true := by rw [h']; rfl
        clear h2 h'
        go_enter Try.func12, Try.ntmps12
        go_wp2_with (first | (go_at_call 34; (with_reducible refine (hPa _).mono ?_); rintro e w1 ⟨rfl, rfl⟩) | fail)
        go_ret2
        rw [HZ.out, HL.out]
        exact ⟨_, rfl, OwB.nil _ _, Below.refl _ _⟩
      · have e1 : (next == 1) = false := beq_eq_false_iff_ne.2 h'
        clear h2 h'
        go_enter Try.func12, Try.ntmps12
        go_wp2_with (first | (go_at_call 34; (with_reducible refine (hPa _).mono ?_); rintro e w1 ⟨rfl, rfl⟩) | fail)
        go_ret2
        rw [HZ.out, HL.out]
        exact ⟨_, rfl, OwB.nil _ _, Below.refl _ _⟩
  · have hp : isPowB P = true := by
      cases e : isPowB P with
      | true => rfl
      | false => exact absurd (.inl e) h1
    obtain ⟨hP1, hP2⟩ := isPowB_range hp
    have hnx : 0 ≤ next ∧ next ≠ 1 ∧ next < 65536 := by
      refine ⟨?_, ?_, ?_⟩
      · apply Classical.byContradiction; intro h; exact h1 (.inr ⟨by omega, by omega⟩)
      · intro h; exact h1 (.inr ⟨by omega, by omega⟩)
      · apply Classical.byContradiction; intro h; exact h1 (.inr ⟨by omega, by omega⟩)
    have i1 : ¬ next < 0 := by omega
    have e1 : (next == 1) = false := beq_eq_false_iff_ne.2 hnx.2.1
    have i3 : ¬ 65536 ≤ next := by omega
    rw [hp] at hPa
    have ewP : IntKind.i64.wrap (P - 16) = P - 16 := by rw [IntKind.wrap_i64]; omega
    by_cases h2 : d.length = 0 ∨ P - 16 < (d.length : Int)
    · have HZ : Hid (spZ next d P = 31) := by show _ = _; unfold spZ; rw [if_neg h1, if_pos h2]
      have HL : Hid (spL next d P = []) := by show _ = _; unfold spL; rw [HZ.out, if_neg (by decide)]
      clear h1 hp hnx
      by_cases h3 : d.length = 0
      · have i4 : (d.length : Int) < 1 := by omega
        clear h2 h3
        go_enter Try.func12, Try.ntmps12
        go_wp2_with (first | (go_at_call 34; (with_reducible refine (hPa _).mono ?_); rintro e w1 ⟨rfl, rfl⟩) | fail)
        go_ret2
        rw [HZ.out, HL.out]
        exact ⟨_, rfl, OwB.nil _ _, Below.refl _ _⟩
      · have i4 : ¬ (d.length : Int) < 1 := by omega
        have i5 : P - 16 < (d.length : Int) := by omega
        clear h2 h3
        go_enter Try.func12, Try.ntmps12
        go_wp2_with (first | (go_at_call 34; (with_reducible refine (hPa _).mono ?_); rintro e w1 ⟨rfl, rfl⟩) | fail)
        go_ret2
        rw [HZ.out, HL.out]
        exact ⟨_, rfl, OwB.nil _ _, Below.refl _ _⟩
    · obtain ⟨p, rfl⟩ : ∃ p : Nat, P = (p : Int) := ⟨P.toNat, by omega⟩
      have HZ : Hid (spZ next d (p : Int) = 0) := by show _ = _; unfold spZ; rw [if_neg h1, if_neg h2]
      have HL : Hid (spL next d (p : Int) = laidS next d p) := by show _ = _; unfold spL; rw [HZ.out, if_pos rfl]; rfl
      have i4 : ¬ (d.length : Int) < 1 := by omega
      have i5 : ¬ (p : Int) - 16 < (d.length : Int) := by omega
      have hdp : d.length + 16 ≤ p := by omega
      have HNX := Lib.hid hnx
      clear h1 h2 hp hnx
      go_enter Try.func12, Try.ntmps12
      go_upto_region 7 with (first | (go_at_call 34; (with_reducible refine (hPa _).mono ?_); rintro e w1 ⟨rfl, rfl⟩) | fail)
      clear i1 e1 i3 i4 i5
      obtain ⟨x, rfl⟩ : ∃ x : Nat, next = (x : Int) := ⟨next.toNat, by have := HNX.out; omega⟩
      have hx16 : x < 65536 := by have := HNX.out; omega
      have wx : IntKind.u64.wrap (x : Int) = (x : Int) := IntWalk.u64_in _ (by omega)
      have wd : IntKind.u64.wrap (d.length : Int) = (d.length : Int) := IntWalk.u64_in _ (by omega)
      have ewp : IntKind.i64.wrap ((p : Int) - 4) = (p : Int) - 4 := by rw [IntKind.wrap_i64]; omega
      have hF1 := fun W => RFixed_4 x (by omega) W
      have hF2 := fun W => RFixed_4 d.length (by omega) W
      have HLay : Hid (laidS (x : Int) d p = (headS x d ++ List.replicate (p - 16 - d.length) 0) ++ fixedF (sumF (headS x d ++ List.replicate (p - 16 - d.length) 0)) 4) := by show _ = _; unfold laidS; rw [preS_head]
      have h0 : OwB (w.alloc (.cells #[.int .u8 4, .int .u8 0, .int .u8 0, .int .u8 0] 5)) w.heap.size (.slice (some ⟨w.heap.size, 0, none⟩) 4 4) [4, 0, 0, 0] := (OBlk.new' w 5 (bvs [4, 0, 0, 0])).owB' (m := [4, 0, 0, 0]) (Nat.le_refl _) (by decide)
      have hB0 : Below w.heap.size w (w.alloc (.cells #[.int .u8 4, .int .u8 0, .int .u8 0, .int .u8 0] 5)) := (Below.refl _ _).alloc (Nat.le_refl _) _
      go_upto_region 10 with (first
        | (go_at_call 35; (with_reducible refine (hF1 _).mono ?_); rintro e w2 ⟨f1, rfl, hf1, hB1⟩; have h0' := h0.below' hB1 (Nat.le_refl _); have hB2 := hB0.trans (hB1.mono hB0.size))
        | (at_builtin; refine wp_append_B rfl (.tmp 38) (.tmp 41) rfl w.heap.size _ _ rfl h0' _ _ rfl hf1.rd (by simp only [fixedF_length]; simp) hB2.size ?_; intro v3 w3 h3 hg3 hk3; have hB3 := hB2.grown hg3 hB2.size (fun k hk => (Own.lt h0' k hk).1); clear hg3 hk3 h0' hf1 hB1)
        | (go_at_call 35; (with_reducible refine (hF2 _).mono ?_); rintro e w4 ⟨f4, rfl, hf4, hB4⟩; have h3' := h3.below' hB4 (Nat.le_refl _); have hB5 := hB3.trans (hB4.mono hB3.size))
        | (at_builtin; refine wp_append_B rfl (.tmp 43) (.tmp 47) rfl w.heap.size _ _ rfl h3' _ _ rfl hf4.rd (by simp only [List.length_append, fixedF_length]; simp) hB5.size ?_; intro v6 w6 h6 hg6 hk6; have hB6 := hB5.grown hg6 hB5.size (fun k hk => (Own.lt h3' k hk).1); clear hg6 hk6 h3' hf4 hB4)
        | (at_builtin; refine wp_append_B rfl (.tmp 49) (.tmp 50) rfl w.heap.size _ _ rfl h6 _ _ rfl (hd.below hB6 (Nat.le_refl _)) (by simp only [List.length_append, fixedF_length]; simp; omega) hB6.size ?_; intro v7 w7 h7 hg7 hk7; have hB7 := hB6.grown hg7 hB6.size (fun k hk => (Own.lt h6 k hk).1); clear hg7 hk7)
        | fail)
      clear h0 hB0 hF1 hF2 h3 hB2 hB3 hB5 h6 hB6
      have hSm := fun (u : Value) (l : List UInt8) (W : World) (hu : RdB W u l) => SumOf_any u l W hu
      go_loopw [9] (fun u wr => ∃ j : Nat, j + d.length + 16 ≤ p ∧ OwB wr w.heap.size u (headS x d ++ List.replicate j 0) ∧ Below w.heap.size w wr) (fun u _ => p - slen u)
      case atStart => exact ⟨0, by omega, by rw [List.replicate_zero, List.append_nil]; exact h7, hB7⟩
      case round =>
        clear h7 hB7
        obtain ⟨j, hj, ho, hB⟩ := hrel
        have hlen : (headS x d ++ List.replicate j 0).length = d.length + 12 + j := by rw [List.length_append, headS_length, List.length_replicate]
        have HM := Lib.hid (rep_more (headS x d) j)
        by_cases hlt : j + d.length + 16 < p
        · generalize headS x d ++ List.replicate j 0 = L0 at *
          have hr := ho.rd
          obtain ⟨A9, c9, rfl, -⟩ := hr.form
          have i6 : (L0.length : Int) < (p : Int) - 4 := by omega
          have HL0 := Lib.hid hlen
          clear hlen hr
          go_wp2_with (first
            | (at_builtin; refine wp_append_B1 rfl (.tmp 57) (.tmp 58) rfl w.heap.size _ _ rfl ho 0 _ rfl _ rfl (by have := HL0.out; omega) hB.size ?_; intro u2 w2 ho2 hg2 hb2)
            | fail)
          have hsl : slen u2 = (L0 ++ [0]).length := by obtain ⟨oA, oc, rfl, -⟩ := (OwB.rd ho2).form; rfl
          go_roundw
          case rel => exact ⟨j + 1, by omega, by rw [← HM.out]; exact ho2, hB.grown hg2 hB.size (fun q hq => (Own.lt ho q hq).1)⟩
          case measure => have := HL0.out; rw [hsl, List.length_append, List.length_singleton]; simp [slen]; omega
        · obtain rfl : j = p - 16 - d.length := by omega
          have hsum := sumF_lt (headS x d ++ List.replicate (p - 16 - d.length) 0)
          generalize headS x d ++ List.replicate (p - 16 - d.length) 0 = L0 at *
          have hr := ho.rd
          obtain ⟨A9, c9, rfl, -⟩ := hr.form
          have i6 : ¬ (L0.length : Int) < (p : Int) - 4 := by omega
          have HL0 := Lib.hid hlen
          have hS1 := hSm _ _ _ hr
          generalize sumF L0 = s0 at *
          have hF3 := fun W => RFixed_4 s0 (by omega) W
          have ws : IntKind.u64.wrap (s0 : Int) = (s0 : Int) := IntWalk.u64_in _ (by omega)
          clear hlen hr hSm
          go_wp2_with (first
            | (go_at_call 36; (with_reducible refine hS1.mono ?_); rintro e w1 ⟨rfl, rfl⟩)
            | (go_at_call 35; (with_reducible refine (hF3 _).mono ?_); rintro e w2 ⟨f3, rfl, hf3, hB3⟩; have ho' := ho.below' hB3 (Nat.le_refl _); have hB4 := hB.trans (hB3.mono hB.size))
            | (at_builtin; refine wp_append_B rfl (.tmp 62) (.tmp 65) rfl w.heap.size _ _ rfl ho' _ _ rfl hf3.rd (by have := HL0.out; rw [fixedF_length]; omega) hB4.size ?_; intro v5 w5 h5 hg5 hk5)
            | fail)
          go_ret2
          rw [HZ.out, HL.out, HLay.out]
          exact ⟨_, rfl, h5, hB4.grown hg5 hB4.size (fun q hq => (Own.lt ho' q hq).1)⟩
end Go.Proofs.Ytgnhakgfgdelpaa

-- espalierref01.ReadFixed of bytes that are there: the walk.
namespace Go.Proofs.Ytgnhakgfgdelpaa
open Go.RowKit
set_option maxRecDepth 20000 in
set_option maxHeartbeats 2000000 in
theorem RReadFixed_any (v : Value) (l : List UInt8) (a k : Nat) (h1 : 1 ≤ k) (h8 : k ≤ 8) (hal : a + k ≤ l.length) (w : World) (hv : RdB w v l) :
    Calls Try.prog 40 #[v, .int .i64 (a : Int), .int .i64 (k : Int)] w fun e w' => e = .returned (.tuple #[.int .u64 (numF ((l.drop a).take k) : Nat), .int .i64 0]) ∧ w = w' := by
  obtain ⟨A, c, rfl, hm⟩ := hv.form
  go_enter Try.func40, Try.ntmps40
  go_wp2_with fail
  go_loopw [8, 9] (fun n i wr => ∃ (j N : Nat), i = .int .i64 ((a : Int) + (j : Int)) ∧ n = .int .u64 (N : Int) ∧ j ≤ k ∧ Hid (N = numF ((l.drop a).take j)) ∧ w = wr)
    (fun _ i _ => a + k - (intOf i).toNat)
  case atStart => exact ⟨0, 0, by simp, rfl, Nat.zero_le _, Lib.hid (by simp [numF]), rfl⟩
  case round =>
    obtain ⟨j, N, rfl, rfl, hj, HN, rfl⟩ := hrel
    by_cases hlt : j < k
    · have hjl : a + j < l.length := by omega
      obtain ⟨ad, rfl, hc⟩ := hv.at_ hjl
      have hdl : j < (l.drop a).length := by simp; omega
      have hn2 : Hid (numF ((l.drop a).take (j + 1)) = N * 256 + l[a + j].toNat) := Lib.hid (by
        rw [← List.take_append_getElem hdl, numF_snoc, ← HN.out, List.getElem_drop])
      have hN7 : N < 72057594037927936 := by rw [HN.out]; exact numF_lt7 _ (by simp; omega)
      have hxb : l[a + j].toNat < 256 := l[a + j].toNat_lt
      generalize l[a + j].toNat = x at hc hn2 hxb
      have i1 : (a : Int) + (j : Int) < (l.length : Int) := by omega
      go_wp2_with fail
      go_roundw
      case rel => exact ⟨j + 1, N * 256 + x, by go_num, by congr 1; omega, by omega, Lib.hid hn2.out.symm, trivial⟩
      case measure => simp [intOf]; omega
    · obtain rfl : j = k := by omega
      go_wp2_with fail
      go_ret2
      rw [← HN.out]; exact ⟨rfl, rfl⟩
end Go.Proofs.Ytgnhakgfgdelpaa
