/- api.Bench: Taken, NewBench. -/
import Derived.Test.YtgnhakgfgdelpaaBen3
import Derived.Test.YtgnhakgfgdelpaaInts
namespace Go.Proofs.Ytgnhakgfgdelpaa
open Go.RowKit Go.Maps
def takenTo (S : BS) (k : Nat) : List Int := ((List.range k).filter fun (n : Nat) => decide (2 ≤ n) && (S.held n).isSome).map Int.ofNat
def takenF (S : BS) : List Int := takenTo S S.pages
theorem takenTo_len (S : BS) (k : Nat) : (takenTo S k).length ≤ k := by
  unfold takenTo
  rw [List.length_map]
  exact Nat.le_trans (List.length_filter_le _ _) (by rw [List.length_range]; exact Nat.le_refl _)
theorem takenTo_some {S : BS} {k : Nat} {l : List UInt8} (h : 2 ≤ k) (hh : S.held (k : Int) = some l) : takenTo S (k + 1) = takenTo S k ++ [(k : Int)] := by
  unfold takenTo
  rw [List.range_succ, List.filter_append, List.map_append]
  congr 1
  simp [h, hh]
theorem takenTo_none {S : BS} {k : Nat} (hh : S.held (k : Int) = none) : takenTo S (k + 1) = takenTo S k := by
  unfold takenTo
  rw [List.range_succ, List.filter_append, List.map_append]
  simp [hh]
theorem takenTo_two (S : BS) : takenTo S 2 = [] := by
  unfold takenTo
  have e : List.range 2 = [0, 1] := rfl
  rw [e]; simp
section
variable {w0 w : World} {gb gm : Nat} {pv : Int → Option Value} {S : BS} {L : List Ent}
set_option maxRecDepth 20000 in
set_option maxHeartbeats 4000000 in
theorem BTaken_any (hS : Sep w0 w (benchE gb gm pv S :: L)) :
    Calls Try.prog 23 #[.pointer (some ⟨gb, 0, none⟩)] w fun e w' => ∃ u, e = .returned u ∧ Sep w0 w' (intsE u (takenF S) :: benchE gb gm pv S :: L) := by
  have hE : (benchE gb gm pv S).p w := hS.head
  obtain ⟨c0, c1, c2, c3, c4, f4⟩ := benchE_cells hE
  have hph := hE.2.2.1.hi
  have hpl := hE.2.2.1.lo
  have hgs := hE.1.lt
  go_enter Try.func23, Try.ntmps23
  go_upto_region 3 with (fail)
  go_loopw [4, 3] (fun i v wr => ∃ k : Nat, 2 ≤ k ∧ k ≤ S.pages ∧ i = .int .i64 (k : Int) ∧ OwI wr w.heap.size v (takenTo S k) ∧ Below w.heap.size w wr) (fun i _ _ => S.pages - (intOf i).toNat)
  case atStart => exact ⟨2, by omega, hpl, rfl, by rw [takenTo_two]; exact Own.nil _ _ _ _, Below.refl _ _⟩
  case round =>
    obtain ⟨k, hk1, hk2, rfl, hO, hB⟩ := hrel
    have hEr : (benchE gb gm pv S).p wr := (benchE gb gm pv S).loc (fun g hg => hB.block g (hS.lt g hg)) hE
    obtain ⟨c0, c1, c2, c3, c4, f4⟩ := benchE_cells hEr
    have hM := hEr.2.1
    by_cases hlt : k < S.pages
    · have i1 : (k : Int) < (S.pages : Int) := by omega
      have hkn : i64w (k : Int) := by unfold i64w; omega
      cases hh : S.held (k : Int) with
      | none =>
        have hp : pv (k : Int) = none := (hE.2.2.2.2.1 (k : Int)).1 hh
        have HT := Lib.hid (takenTo_none hh)
        go_wp2_with (first | (at_lookup; refine wp_look rfl _ _ rfl hM rfl (k : Int) hkn rfl none hp ?_) | fail)
        go_roundw
        case rel => exact ⟨k + 1, by omega, by omega, by go_num, by rw [HT.out]; exact hO, hB⟩
        case measure => simp [intOf]; omega
      | some l =>
        obtain ⟨v, hp, hv⟩ := benchE_some hEr hh
        obtain ⟨A', c', rfl, hm'⟩ := hv.rd.form
        have HT := Lib.hid (takenTo_some hk1 hh)
        have hlen := takenTo_len S k
        go_wp2_with (first
          | (at_lookup; refine wp_look rfl _ _ rfl hM rfl (k : Int) hkn rfl (some _) hp ?_)
          | (at_builtin; refine wp_append_I1 rfl (.tmp 25) (.tmp 27) rfl w.heap.size _ _ rfl hO (k : Int) _ rfl (by omega) hB.size ?_; intro u w2 hO2 hg2 hb2)
          | fail)
        go_roundw
        case rel => exact ⟨k + 1, by omega, by omega, by go_num, by rw [HT.out]; exact hO2, hB.grown hg2 hB.size (fun j hj => (Own.lt hO j hj).1)⟩
        case measure => simp [intOf]; omega
    · obtain rfl : k = S.pages := by omega
      have i1 : ¬ (S.pages : Int) < (S.pages : Int) := by omega
      go_wp2_with fail
      go_ret
      exact ⟨_, rfl, hS.ints hB hO (Nat.le_refl _)⟩
end
def newB (page pages : Int) : Bool := isPowB page && (decide (2 ≤ pages) && decide (pages ≤ 65536))
def emptyB (eng page pages : Int) : BS := ⟨eng, page.toNat, pages.toNat, 0, fun _ => none⟩
set_option maxRecDepth 20000 in
set_option maxHeartbeats 4000000 in
theorem NewB_bad (eng page pages : Int) (he : eng = 1 ∨ eng = 2) (hb : newB page pages = false) (w : World) :
    Calls Try.prog 21 #[.int .i64 eng, .int .i64 page, .int .i64 pages] w fun e w' => e = .returned (.pointer none) ∧ w' = w := by
  have hb' : isPowB page = false ∨ pages < 2 ∨ 65536 < pages := by
    unfold newB at hb
    cases h1 : isPowB page with
    | false => exact .inl rfl
    | true =>
      rw [h1] at hb
      simp at hb
      omega
  clear hb
  go_enter Try.func21, Try.ntmps21
  go_upto_region 1 with (fail)
  go_cut [35] (fun s wx => s = .bool true ∧ w = wx)
  case first =>
    by_cases h1 : page < 512
    · rcases he with rfl | rfl
      · go_wp2_with fail
        go_meet
        exact ⟨rfl, rfl⟩
      · go_wp2_with fail
        go_meet
        exact ⟨rfl, rfl⟩
    by_cases h2 : 65536 < page
    · rcases he with rfl | rfl
      · go_wp2_with fail
        go_meet
        exact ⟨rfl, rfl⟩
      · go_wp2_with fail
        go_meet
        exact ⟨rfl, rfl⟩
    have ht := pow_test page (by omega) (by omega)
    have hww : IntKind.i64.wrap (page - 1) = page - 1 := by rw [IntKind.wrap_i64]; omega
    cases hpw : isPowB page with
    | false =>
      rw [hpw] at ht
      clear hb' hpw
      rcases he with rfl | rfl
      · go_wp2_with fail
        go_meet
        exact ⟨rfl, rfl⟩
      · go_wp2_with fail
        go_meet
        exact ⟨rfl, rfl⟩
    | true =>
      rw [hpw] at hb' ht
      by_cases h3 : pages < 2
      · clear hb' hpw
        rcases he with rfl | rfl
        · go_wp2_with fail
          go_meet
          exact ⟨rfl, rfl⟩
        · go_wp2_with fail
          go_meet
          exact ⟨rfl, rfl⟩
      · have h4 : 65536 < pages := by
          rcases hb' with h | h | h
          · cases h
          · omega
          · exact h
        clear hb' hpw
        rcases he with rfl | rfl
        · go_wp2_with fail
          go_meet
          exact ⟨rfl, rfl⟩
        · go_wp2_with fail
          go_meet
          exact ⟨rfl, rfl⟩
  case rest =>
    obtain ⟨rfl, rfl⟩ := hcut
    clear hb' he
    go_wp2_with fail
    go_ret
    exact ⟨rfl, rfl⟩
theorem newB_sep {w0 w : World} {L : List Ent} (eng : Int) (p n : Nat) (hp : isPowB (p : Int) = true) (h1 : 2 ≤ n) (h2 : n ≤ 65536) (hS : Sep w0 w L) :
    Sep w0 ((w.alloc (.map #[] 0)).alloc (.cells #[.int .i64 eng, .int .i64 (p : Int), .int .i64 (n : Int), .map (some w.heap.size), .int .i64 0] 76)) (benchE (w.heap.size + 1) w.heap.size (fun _ => none) (emptyB eng p n) :: L) := by
  have hB : Below w.heap.size w ((w.alloc (.map #[] 0)).alloc (.cells #[.int .i64 eng, .int .i64 (p : Int), .int .i64 (n : Int), .map (some w.heap.size), .int .i64 0] 76)) := ((Below.refl _ _).alloc (Nat.le_refl _) _).alloc (by simp) _
  have hM := MapAt.made w
  refine hS.new hB ⟨?_, ?_, ?_, by omega, fun _ => ⟨fun _ => rfl, fun _ => rfl⟩, fun _ _ h => by cases h⟩ (fun g hg => ?_)
  · have := OBlk.new' (w.alloc (.map #[] 0)) 76 [.int .i64 eng, .int .i64 (p : Int), .int .i64 (n : Int), .map (some w.heap.size), .int .i64 0]
    rw [World.size_alloc] at this
    exact this
  · have e : cntB (emptyB eng p n) = 0 := by
      unfold cntB emptyB
      simp
    rw [e]
    exact hM.heap (Below.heap_alloc _ _ _ (by simp))
  · exact ⟨hp, h1, h2, fun _ h => by simp [emptyB] at h, fun _ _ h => by simp [emptyB] at h⟩
  · rcases hg with rfl | rfl | ⟨m, v, hv, _⟩
    · constructor <;> simp <;> omega
    · constructor <;> simp <;> omega
    · cases hv
set_option maxRecDepth 20000 in
set_option maxHeartbeats 4000000 in
theorem NewB_ok (eng page pages : Int) (he : eng = 1 ∨ eng = 2) (hb : newB page pages = true) (w0 w : World) (L : List Ent) (hS : Sep w0 w L) :
    Calls Try.prog 21 #[.int .i64 eng, .int .i64 page, .int .i64 pages] w fun e w' => ∃ gb gm, e = .returned (.pointer (some ⟨gb, 0, none⟩)) ∧ Sep w0 w' (benchE gb gm (fun _ => none) (emptyB eng page pages) :: L) := by
  have hb' : isPowB page = true ∧ 2 ≤ pages ∧ pages ≤ 65536 := by
    unfold newB at hb
    cases h1 : isPowB page with
    | false => rw [h1] at hb; cases hb
    | true =>
      rw [h1] at hb
      simp at hb
      exact ⟨rfl, hb⟩
  clear hb
  obtain ⟨hpw, hl, hh⟩ := hb'
  obtain ⟨hp1, hp2⟩ := isPowB_range hpw
  have hmm := @run_makeMap Try.prog
  go_enter Try.func21, Try.ntmps21
  go_upto_region 1 with (fail)
  go_cut [35] (fun s wx => s = .bool false ∧ w = wx)
  case first =>
    have ht := pow_test page (by omega) (by omega)
    rw [hpw] at ht
    have h1 : ¬ page < 512 := by omega
    have h2 : ¬ 65536 < page := by omega
    have h3 : ¬ pages < 2 := by omega
    have h4 : ¬ 65536 < pages := by omega
    have hww : IntKind.i64.wrap (page - 1) = page - 1 := by rw [IntKind.wrap_i64]; omega
    rcases he with rfl | rfl
    · go_wp2_with fail
      go_meet
      exact ⟨rfl, rfl⟩
    · go_wp2_with fail
      go_meet
      exact ⟨rfl, rfl⟩
  case rest =>
    obtain ⟨rfl, rfl⟩ := hcut
    clear he
    go_wp2_with fail
    go_ret
    obtain ⟨p, rfl⟩ : ∃ p : Nat, page = (p : Int) := ⟨page.toNat, by omega⟩
    obtain ⟨n, rfl⟩ : ∃ n : Nat, pages = (n : Int) := ⟨pages.toNat, by omega⟩
    exact ⟨_, _, rfl, newB_sep eng p n hpw (by omega) (by omega) hS⟩
end Go.Proofs.Ytgnhakgfgdelpaa
