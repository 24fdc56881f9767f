/- espalierlaw09.SpillEncodes: the statement 'SpillEncodesSaid' is proved: whatever the input, the law returns true and the input reads as it did. -/
import Derived.Test.YtgnhakgfgdelpaaE1
import Derived.Test.YtgnhakgfgdelpaaE7
import Derived.Test.YtgnhakgfgdelpaaE8
import Derived.Below
import Derived.ChangeSame
import Derived.WalkKit
import Derived.ProofKit
import Derived.OpenShut
import Derived.SizedLaws
import Derived.Carry
import Derived.Lib.SmallJoins
import Derived.WideKeyArgs
import Derived.Test.YtgnhakgfgdelpaaRows
import Derived.JoinedCond
-- espalierlaw09.SpillEncodes: the walk.
namespace Go.Proofs.Ytgnhakgfgdelpaa
open Go.RowKit
section
variable {w0 w : World} {L : List Ent}
theorem SEncode_sep (h : Sep w0 w L) (next : Int) {va : Value} {d : List UInt8} {P : Int} (hP : i64w P) (hd : RdB w va d) :
    Calls Try.prog 15 #[.int .i64 next, va, .int .i64 P] w fun e w' => ∃ u, e = .returned (.tuple #[u, .int .i64 (spZ next d P)]) ∧ Sep w0 w' (bytesE u (spL next d P) :: L) := by
  refine (SEncode_any next va d P hP w hd).mono ?_
  rintro e w' ⟨u, rfl, ho, hB⟩
  exact ⟨u, rfl, h.bytes hB ho (Nat.le_refl _)⟩
theorem RSEncode_sep (h : Sep w0 w L) (next : Int) {va : Value} {d : List UInt8} {P : Int} (hd : RdB w va d) :
    Calls Try.prog 12 #[.int .i64 next, va, .int .i64 P] w fun e w' => ∃ u, e = .returned (.tuple #[u, .int .i64 (spZ next d P)]) ∧ Sep w0 w' (bytesE u (spL next d P) :: L) := by
  refine (RSEncode_any next va d P w hd).mono ?_
  rintro e w' ⟨u, rfl, ho, hB⟩
  exact ⟨u, rfl, h.bytes hB ho (Nat.le_refl _)⟩
theorem Turned_sep (h : Sep w0 w L) {v : Value} {l : List UInt8} (hv : RdB w v l) (hl : l.length ≤ 140737488355328) :
    Calls Try.prog 13 #[v] w fun e w' => ∃ u, e = .returned u ∧ Sep w0 w' (bytesE u (turnedF l) :: L) := by
  refine (Turned_any v l w hv hl).mono ?_
  rintro e w' ⟨u, rfl, ho, hB⟩
  exact ⟨u, rfl, h.bytes hB ho (Nat.le_refl _)⟩
end
theorem splice_full (a b m : List UInt8) (h : a.length = b.length) : splice (a ++ m) 0 b = b ++ m := by
  have e := splice_ov a b m
  have e2 : ovF a b = b := by unfold ovF; rw [h, Nat.min_self, List.take_length, List.drop_eq_nil_of_le (by omega), List.append_nil]
  rw [h, Nat.min_self, List.take_length] at e
  rw [e, e2]
set_option maxRecDepth 100000 in
set_option maxHeartbeats 8000000 in
theorem encodes_any (nx : Int) (vd : Value) (b : List UInt8) (P : Int) (hnx : -9223372036854775808 ≤ nx ∧ nx ≤ 9223372036854775807) (hP : -9223372036854775808 ≤ P ∧ P ≤ 9223372036854775807) (w : World) (hb : RdB w vd b) (hbl : b.length ≤ 140737488351232) :
    Calls Try.prog 5 #[.int .i64 nx, vd, .int .i64 P] w fun e w' => e = .returned (.bool true) ∧ Below w.heap.size w w' := by
  go_enter Try.func5, Try.ntmps5
  go_upto_region 4 with (first
    | (go_at_call 9; (with_reducible refine (awake_any _).mono ?_); rintro e w1 ⟨rfl, hw1⟩)
    | fail)
  have HB := Lib.hid (hb.below hw1 (Nat.le_refl _))
  clear hb
  obtain ⟨n, hn⟩ : ∃ n, b.length = n := ⟨_, rfl⟩
  rw [hn] at hbl
  have HN := Lib.hid hn
  have htl : (turnedF b).length = n := by rw [turnedF_length, hn]
  have HTL := Lib.hid htl
  clear hn htl
  have hS1 := Sep.start w1
  have hE := RSEncode_sep hS1 nx (P := P) HB.out
  generalize hz1 : spZ nx b P = z1 at hE
  have HZ1 := Lib.hid hz1
  clear hz1
  go_upto_region 5 with (first | (go_at_call 12; (with_reducible refine hE.mono ?_); rintro e w2 ⟨uw, rfl, hS2⟩) | fail)
  clear hS1 hE
  have hT := Turned_sep hS2 (hS2.rd (v := w1) (by simp) HB.out) (by rw [HN.out]; omega)
  go_upto_region 6 with (first | (go_at_call 13; (with_reducible refine hT.mono ?_); rintro e w3 ⟨ut, rfl, hS3⟩) | fail)
  clear hS2 hT
  have hE := RSEncode_sep hS3 nx (P := P) (OwB.rd (hS3.head : OwB w3 0 ut (turnedF b)))
  generalize hz2 : spZ nx (turnedF b) P = z2 at hE
  have HZ2 := Lib.hid hz2
  clear hz2
  go_upto_region 7 with (first | (go_at_call 12; (with_reducible refine hE.mono ?_); rintro e w4 ⟨uo, rfl, hS4⟩) | fail)
  clear hS3 hE
  have hL := LentB_sep hS4 (l := b) (hS4.rd (v := w1) (by simp) HB.out) (by rw [HN.out]; omega)
  rw [HN.out] at hL
  go_upto_region 8 with (first | (go_at_call 14; (with_reducible refine hL.mono ?_); rintro e w5 ⟨g1, rfl, hS5⟩) | fail)
  clear hS4 hL
  have hE := SEncode_sep hS5 nx hP (lentC_rd0 hS5.head HN.out)
  rw [HZ1.out] at hE
  go_upto_region 9 with (first | (go_at_call 15; (with_reducible refine hE.mono ?_); rintro e w6 ⟨ua, rfl, hS6⟩) | fail)
  clear hS5 hE
  have hE := SEncode_sep hS6 nx hP (lentC_rd0 hS6.tail.head HN.out)
  rw [HZ1.out] at hE
  go_upto_region 10 with (first | (go_at_call 15; (with_reducible refine hE.mono ?_); rintro e w7 ⟨ub, rfl, hS7⟩) | fail)
  clear hS6 hE
  have s1 := run_B_string (lentC_rd0 hS7.tail.tail.head HN.out)
  have s2 := run_B_string (hS7.rd (v := w1) (by simp) HB.out)
  go_upto_region 11 with (fail)
  clear s1 s2
  have hSB : Sep w1 w7 (bytesE (.slice (some ⟨g1, 0, none⟩) (n + 9) (n + 9)) (b ++ marks9) :: [bytesE ub (spL nx b P), bytesE ua (spL nx b P), bytesE uo (spL nx (turnedF b) P), bytesE ut (turnedF b), bytesE uw (spL nx b P), oldE w1]) := hS7.sw [_, _]
  have hrc : RdB w7 ut (turnedF b) := OwB.rd (hSB.of_mem (E := bytesE ut (turnedF b)) (by simp))
  have hbh : OwB w7 0 (.slice (some ⟨g1, 0, none⟩) (n + 9) (n + 9)) (b ++ marks9) := hSB.head
  have HLB : Hid ((b ++ marks9).length = n + 9) := Lib.hid (by rw [List.length_append, HN.out]; rfl)
  clear hS7
  go_upto_region 12 with (first
    | ((with_reducible refine at_copy ?_); refine wp_copy_At rfl (.tmp 63) (.tmp 64) rfl 0 g1 (n + 9) (n + 9) 0 _ n (n + 9) rfl (fun _ => rfl) _ hbh HLB.out (by omega) _ (turnedF b) rfl hrc ?_; intro w8 hc8 hg8)
    | fail)
  have hov : splice (b ++ marks9) 0 ((turnedF b).take (min (turnedF b).length n)) = turnedF b ++ marks9 := by
    rw [HTL.out, Nat.min_self, List.take_of_length_le (by rw [HTL.out]; exact Nat.le_refl _)]
    exact splice_full _ _ _ (by rw [HN.out, HTL.out])
  rw [hov] at hc8
  have hS8 : Sep w1 w8 (bytesE (.slice (some ⟨g1, 0, none⟩) (n + 9) (n + 9)) (turnedF b ++ marks9) :: [bytesE ub (spL nx b P), bytesE ua (spL nx b P), bytesE uo (spL nx (turnedF b) P), bytesE ut (turnedF b), bytesE uw (spL nx b P), oldE w1]) := hSB.upd (E' := bytesE (.slice (some ⟨g1, 0, none⟩) (n + 9) (n + 9)) (turnedF b ++ marks9)) (Turn.of_grown hg8 (fun k e => e)) hc8 (fun g hg => ⟨.inl hg, (Own.lt hc8 g hg).2⟩)
  clear hov hbh hrc hSB hc8 hg8
  have hE := SEncode_sep hS8 nx hP (lentC_rd0 hS8.head HTL.out)
  rw [HZ2.out] at hE
  go_upto_region 13 with (first | (go_at_call 15; (with_reducible refine hE.mono ?_); rintro e w9 ⟨uc, rfl, hS9⟩) | fail)
  clear hS8 hE
  have hSA : Sep w1 w9 (bytesE (.slice (some ⟨g1, 0, none⟩) (n + 9) (n + 9)) (turnedF b ++ marks9) :: [bytesE uc (spL nx (turnedF b) P), bytesE ub (spL nx b P), bytesE ua (spL nx b P), bytesE uo (spL nx (turnedF b) P), bytesE ut (turnedF b), bytesE uw (spL nx b P), oldE w1]) := hS9.sw [_]
  have hA := AsLentB_sep hSA HTL.out (OwB.rd (hSA.of_mem (E := bytesE ut (turnedF b)) (by simp))) (by omega)
  go_upto_region 14 with (first | (go_at_call 16; (with_reducible refine hA.mono ?_); rintro e w10 ⟨rfl, hS10⟩) | fail)
  clear hS9 hSA hA
  have s1 := run_B_string (OwB.rd (hS10.of_mem (E := bytesE uc (spL nx (turnedF b) P)) (by simp)))
  have s2 := run_B_string (OwB.rd (hS10.of_mem (E := bytesE ub (spL nx b P)) (by simp)))
  have s3 := run_B_string (OwB.rd (hS10.of_mem (E := bytesE ua (spL nx b P)) (by simp)))
  have s4 := run_B_string (OwB.rd (hS10.of_mem (E := bytesE uo (spL nx (turnedF b) P)) (by simp)))
  have s5 := run_B_string (OwB.rd (hS10.of_mem (E := bytesE uw (spL nx b P)) (by simp)))
  go_upto_region 16 with (fail)
  clear s1 s2 s3 s4 s5
  have hlm : ∀ d, (spL nx d P).length ≤ 65536 := fun d => spL_length nx d P
  have HLM := Lib.hid hlm
  clear hlm
  have hBk := hS10.book
  go_upto_region 17 with (fail)
  generalize w10.alloc (.cells #[.slice none 0 0] 34) = w11 at *
  generalize w10.heap.size = bb at *
  have hT : Sep w1 w11 (bookE bb (.slice none 0 0) [] :: bytesE ua (spL nx b P) :: [bytesE uc (spL nx (turnedF b) P), bytesE ub (spL nx b P), bytesE uo (spL nx (turnedF b) P), bytesE ut (turnedF b), bytesE uw (spL nx b P), oldE w1]) := hBk.sn [_, _]
  have hT := Take_sep hT (by simp)
  go_upto_region 18 with (first | (go_at_call 17; (with_reducible refine hT.mono ?_); rintro e w12 ⟨⟨_, rfl⟩, _, hS12⟩) | fail)
  clear hT hBk hS10
  have hT : Sep w1 w12 (bookE bb _ ([] ++ [(ua, spL nx b P)]) :: bytesE ub (spL nx b P) :: [bytesE uc (spL nx (turnedF b) P), bytesE uo (spL nx (turnedF b) P), bytesE ut (turnedF b), bytesE uw (spL nx b P), oldE w1]) := hS12.sn [_]
  have hT := Take_sep hT (by simp)
  go_upto_region 19 with (first | (go_at_call 17; (with_reducible refine hT.mono ?_); rintro e w13 ⟨⟨_, rfl⟩, _, hS13⟩) | fail)
  clear hT hS12
  have hT := Take_sep hS13 (by simp)
  go_upto_region 20 with (first | (go_at_call 17; (with_reducible refine hT.mono ?_); rintro e w14 ⟨⟨_, rfl⟩, _, hS14⟩) | fail)
  clear hT hS13
  have hO := Owned_sep hS14 (by simp) (fun p hp => by
    simp only [List.nil_append, List.cons_append, List.mem_cons, List.not_mem_nil, or_false] at hp
    have h1 := HLM.out b
    have h2 := HLM.out (turnedF b)
    rcases hp with rfl | rfl | rfl <;> simp only <;> omega)
  go_wp2_with (first | (go_at_call 18; (with_reducible refine hO.mono ?_); rintro e w15 ⟨rfl, hS15⟩) | fail)
  go_ret
  exact ⟨rfl, hw1.trans ((hS15.belowOld (v := w1) (by simp)).mono hw1.size)⟩
end Go.Proofs.Ytgnhakgfgdelpaa

-- The row's last step from 'Below' alone (the guide's small lemma 9).
namespace Go.Proofs.Ytgnhakgfgdelpaa
open Go.RowKit Go.WideShapes Go.ChangeShapes
section
variable {H : Type} {enc : TypeId × Value → H} {P : Program}
theorem post_of_below {f : Func} {s : ChangeSpec} {apart fresh handsOn again : Bool} {W W' : World} {args : Array Value} {v : Value} {ds gs : List (DataW H)} {before pa pv : List MemPlace}
    (hW : DataW.Whole enc P f.params.toList s.vars apart W args.toList ds gs before)
    (hres : ∀ (b : Nat) (sp : Nat → Bool) (hd : Bool), DataW.TrodAll enc P W' b sp hd f.resultTypes.toList (v.resultList f.resultTypes.size) (s.fn H (ds ++ gs)).results [])
    (hargs : ∀ sp : Nat → Bool, (∀ p ∈ before, sp p.block = true) → DataW.TrodAll enc P W' 0 sp true f.params.toList args.toList (s.fn H (ds ++ gs)).args pa)
    (hvars : ∀ sp : Nat → Bool, (∀ p ∈ before, sp p.block = true) → DataW.TrodVars enc P W' sp s.vars (s.fn H (ds ++ gs)).vars pv)
    (hps : before = pa ++ pv) (hb : Below W.heap.size W W')
    (hok : ∀ (j : Nat) (t : TypeId) (r : Value), f.resultTypes[j]? = some t → (v.resultList f.resultTypes.size)[j]? = some r → Value.okWide P W' .any 0 t r) :
    s.post enc P f apart fresh handsOn again W args v W' := by
  have hlt : ∀ p ∈ before, p.block < W.heap.size := fun p hp => hW.lt p hp
  have hold : ∀ p ∈ before, (fun b => decide (b < W.heap.size)) p.block = true := fun p hp => by simpa using hlt p hp
  refine ⟨ds, gs, before, [], pa, pv, hW, hres _ _ _, hargs _ hold, hvars _ hold, World.keptBut_mono (fun p hp => ⟨hp, ?_⟩) (hb.frame (· ∈ before)), fun _ => ?_⟩
  · rw [hps, List.mem_append] at hp
    exact Or.inr hp
  · obtain ⟨_, _, _, _, _, hz, hn⟩ := hW
    refine ⟨hok, _, _, ([] ++ pa) ++ pv, ⟨[] ++ pa, pv, trodAll_append (hargs _ (fun _ _ => rfl)) (hres _ _ _), hvars _ (fun _ _ => rfl), rfl, ?_, ?_⟩, ?_⟩
    · intro b off hp
      have hin : MemPlace.cell b off ∈ before := by rw [hps]; simpa using hp
      rw [hb.frozen (hlt _ hin)]
      exact hz b off hin
    · intro ha
      have := hn ha
      rw [hps] at this
      simpa using this
    · intro p hp _
      rw [hps]
      simpa using hp
end
end Go.Proofs.Ytgnhakgfgdelpaa

-- A law that returns true and changes nothing below: from its walk to the row's own form.
namespace Go.Proofs.Ytgnhakgfgdelpaa
open Go.RowKit Go.WideShapes Go.ChangeShapes Go.Joins
section
variable {H : Type} {enc : TypeId × Value → H} {P : Program}
theorem trodAll_stays (hl : laidOutB P = true) {W W' : World} {sp' : Nat → Bool} : ∀ {ts : List TypeId} {vs : List Value} {ds : List (DataW H)} {ps : List MemPlace}, (ts.all fun t => P.readableRec t && decide (t < P.types.size)) = true →
    DataW.TrodAll enc P W 0 (fun _ => true) true ts vs ds ps → (∀ p ∈ ps, W.sameAt W' p) → (∀ p ∈ ps, sp' p.block = true) → DataW.TrodAll enc P W' 0 sp' true ts vs ds ps
  | [], [], [], _, _, h, _, _ => h
  | t :: ts, _ :: _, _ :: _, _, hr, ⟨p, q, h1, h2, e⟩, hk, hs => by
    simp only [List.all_cons, Bool.and_eq_true, decide_eq_true_eq] at hr
    obtain ⟨⟨hr1, hr2⟩, hr3⟩ := hr
    exact ⟨p, q, WideElems.Trod_stays hl hr1 hr2 h1 (fun x hx => hk x (by rw [e]; exact List.mem_append_left _ hx)) (fun x hx => hs x (by rw [e]; exact List.mem_append_left _ hx)),
      trodAll_stays hl hr3 h2 (fun x hx => hk x (by rw [e]; exact List.mem_append_right _ hx)) (fun x hx => hs x (by rw [e]; exact List.mem_append_right _ hx)), e⟩
theorem trodAll_len {w : World} {base : Nat} {spare : Nat → Bool} {held : Bool} : ∀ {ts : List TypeId} {vs : List Value} {ds : List (DataW H)} {ps : List MemPlace}, DataW.TrodAll enc P w base spare held ts vs ds ps → ds.length = ts.length
  | [], [], [], _, _ => rfl
  | _ :: _, _ :: _, _ :: _, _, ⟨_, _, _, h2, _⟩ => by simp [trodAll_len h2]
theorem law_post {fn : Func} {s : ChangeSpec} {tb : TypeId} {W W' : World} {args : Array Value} {ds gs : List (DataW H)} {before : List MemPlace} (hvars : s.vars = []) (hrt : fn.resultTypes = #[tb]) (htb : P.underlying tb = some .bool) (hl : laidOutB P = true)
    (hr : (fn.params.toList.all fun t => P.readableRec t && decide (t < P.types.size)) = true) (hs : ∀ ds : List (DataW H), ds.length = fn.params.size → s.fn H ds = { results := [.lit (.bool true)], args := ds })
    (hW : DataW.Whole enc P fn.params.toList s.vars false W args.toList ds gs before) (hb : Below W.heap.size W W') : s.post enc P fn false true false false W args (.bool true) W' := by
  have hW' := hW
  obtain ⟨p, q, hA, hV, rfl, hfz, hnd⟩ := hW
  rw [hvars] at hV
  obtain ⟨rfl, rfl⟩ := trodVars_none hV
  have hlen : ds.length = fn.params.size := by simpa using trodAll_len hA
  have hfn := hs ds hlen
  have hlt : ∀ x ∈ p, x.block < W.heap.size := fun x hx => hW'.lt x (List.mem_append_left _ hx)
  refine post_of_below (pa := p) (pv := []) hW' ?_ ?_ ?_ (by simp) hb (ok_one hrt rfl (okWide_bool_mk htb _))
  · intro b sp hd
    rw [List.append_nil, hfn, hrt]
    exact trodAll_cons_mk (shut_bool htb _) trodAll_mk0
  · intro sp hsp
    rw [List.append_nil, hfn]
    exact trodAll_stays hl hr hA (fun x hx => hb.same (hlt x hx)) (fun x hx => hsp x (List.mem_append_left _ hx))
  · intro sp _
    rw [List.append_nil, hfn, hvars]
    exact (rfl : DataW.TrodVars enc P W' sp [] [] [])
end
theorem law_lifts {H : Type} {enc : TypeId × Value → H} {C : Checked} {os : Os} {fno : FuncId} {fn : Func} {s : ChangeSpec} {conds : List PathCond} {tb : TypeId}
    (own : ownKnob C.prog.godebug = none) (started : os.Started) (noInit : C.prog.inits.idxOf? fno = none) (hfn : C.prog.funcs[fno]? = some fn)
    (witness : ∃ (w : World) (tape : Tape) (i : Input), w.os = os ∧ (w.forCall tape i).Shaped C.prog ∧ i.vars = [] ∧ Input.okWide C.prog (w.forCall tape i) .any w.heap.size fno i ∧
      s.pre6 enc C.prog fn conds false (w.forCall tape i).memory i.args ∧ ({} : Assume).holds C.prog (lone (Frame.enter C.prog fno i.args .normal) [] (w.forCall tape i)))
    (hvars : s.vars = []) (hrt : fn.resultTypes = #[tb]) (htb : C.prog.underlying tb = some .bool) (hl : laidOutB C.prog = true)
    (hr : (fn.params.toList.all fun t => C.prog.readableRec t && decide (t < C.prog.types.size)) = true) (hs : ∀ ds : List (DataW H), ds.length = fn.params.size → s.fn H ds = { results := [.lit (.bool true)], args := ds })
    (walk : ∀ (W : World) (base : Nat) (args : Array Value) (ds : List (DataW H)) (p : List MemPlace), (∀ (j : Nat) t v, fn.params[j]? = some t → args[j]? = some v → Value.okWide C.prog W .any base t v) →
      DataW.TrodAll enc C.prog W 0 (fun _ => true) true fn.params.toList args.toList ds p → (DataW.weightsEach C.prog fn.params.toList ds).all (· ≤ reachBytes) = true →
      Calls C.prog fno args W fun e W' => e = .returned (.bool true) ∧ Below W.heap.size W W') :
    ReturnsInHanded {} C os fno .any (s.pre6 enc C.prog fn conds false) (s.post enc C.prog fn false true false false) := by
  refine returnsInHanded_of_change_sized own started noInit hfn witness ?_
  intro W base args ds gs before hval hW _ hsz _
  have hW' := hW
  obtain ⟨p, q, hA, hV, _, _, _⟩ := hW
  rw [hvars] at hV
  obtain ⟨rfl, rfl⟩ := trodVars_none hV
  have hv : s.plain.varTypes C.prog = [] := by
    unfold ChangeSpec.plain DataSpec.varTypes
    simp [hvars]
  rw [hv, List.append_nil, List.append_nil] at hsz
  refine (walk W base args ds p hval hA hsz).mono fun e W' h => ?_
  obtain ⟨rfl, hb⟩ := h
  exact ⟨_, rfl, law_post hvars hrt htb hl hr hs hW' hb⟩
section
variable {H : Type} {enc : TypeId × Value → H} {W : World}
theorem cells_u8 : Try.prog.cellsOf 5 = 1 := by kernel_rfl
theorem bytes_u8 : Try.prog.bytesOf 5 = 1 := by kernel_rfl
set_option maxRecDepth 100000 in
/-- An argument of type []byte. -/
theorem open_bytes {base : Nat} {v : Value} {d : DataW H} {p : List MemPlace} {ts : List TypeId} {ds : List (DataW H)} {j : Nat} (hv : Value.okWide Try.prog W .any base 25 v) (h : DataW.Trod enc Try.prog W 0 (fun _ => true) true 25 v d p)
    (hsz : (DataW.weightsEach Try.prog ts ds).all (· ≤ reachBytes) = true) (ht : ts[j]? = some 25) (hd : ds[j]? = some d) :
    ∃ l : List UInt8, RdB W v l ∧ l.length ≤ 140737488351232 := by
  obtain ⟨a0, len, cap, rfl⟩ := okWide_slice Try.underlying25 hv
  obtain ⟨fuel, hf⟩ := h
  rcases open_ints Try.underlying25 Try.underlying5 cells_u8 hf with ⟨hcs, _⟩ | ⟨a, len', cap', zs, hcs, _, hl, hm, hz, hx, hcell, hwz⟩
  · simp [Value.cells] at hcs
    obtain ⟨rfl, rfl, rfl⟩ := hcs
    exact ⟨[], RdB.nil, by simp⟩
  · simp [Value.cells] at hcs
    obtain ⟨rfl, rfl, rfl⟩ := hcs
    simp only [if_true] at hz
    simp only [Prod.mk.injEq] at hx
    obtain ⟨rfl, _⟩ := hx
    have hs := sized_slice hsz ht hd Try.underlying25
    rw [bytes_u8] at hs
    simp only [lits, List.length_map, List.length_take, List.length_drop, reachBytes] at hs
    refine ⟨(zs.take len).map fun z => UInt8.ofNat z.toNat, ?_, by simp; omega⟩
    have hlen : ((zs.take len).map fun z => UInt8.ofNat z.toNat).length = len := by simp; omega
    refine ⟨some a, cap, by rw [hlen], by rw [hlen]; exact hl, hm, fun j hj => ⟨a, rfl, ?_⟩⟩
    rw [hlen] at hj
    rw [hcell j (by omega)]
    have hjz : j < zs.length := by omega
    have hmem : zs[j] ∈ zs := List.getElem_mem hjz
    have hw := hwz _ hmem
    have hg : zs.getD j 0 = zs[j] := by simp [List.getD, hjz]
    rw [hg]
    simp [Lit.wf, IntKind.min, IntKind.max, IntKind.signed, IntKind.bits] at hw
    simp
    omega
end
end Go.Proofs.Ytgnhakgfgdelpaa

-- The bounds of an integer that came in; a row whose statement bears the bound on the bulk.
namespace Go.Proofs.Ytgnhakgfgdelpaa
open Go.RowKit Go.WideShapes Go.ChangeShapes
theorem wf_i64 {n : Int} (h : (Lit.int .i64 n).wf = true) : -9223372036854775808 ≤ n ∧ n ≤ 9223372036854775807 := by
  simp [Lit.wf, IntKind.min, IntKind.max, IntKind.signed, IntKind.bits] at h
  exact h
theorem wf_u64 {n : Int} (h : (Lit.int .u64 n).wf = true) : ∃ k : Nat, n = (k : Int) ∧ k < 18446744073709551616 := by
  simp [Lit.wf, IntKind.min, IntKind.max, IntKind.signed, IntKind.bits] at h
  exact ⟨n.toNat, by omega, by omega⟩
theorem wf_u32 {n : Int} (h : (Lit.int .u32 n).wf = true) : ∃ k : Nat, n = (k : Int) ∧ k < 4294967296 := by
  simp [Lit.wf, IntKind.min, IntKind.max, IntKind.signed, IntKind.bits] at h
  exact ⟨n.toNat, by omega, by omega⟩
end Go.Proofs.Ytgnhakgfgdelpaa

-- espalierlaw09.SpillEncodes: the statement 'SpillEncodesSaid' is proved: whatever the input, the law returns true and the input reads as it did.
namespace Go.Proofs.Ytgnhakgfgdelpaa.spillEncodes
open Go.ChangeShapes Go.WideShapes Go.ChangeAt Go.RowKit
theorem own : ownKnob Try.prog.godebug = none := by kernel_rfl
theorem laidOut : laidOutB Try.prog = true := by kernel_rfl
set_option maxRecDepth 100000 in
theorem lifted (os : Os) (started : os.Started) (H : Type) (enc : TypeId × Value → H) :
    ReturnsInHanded {} Try.checked os 5 .any (Rows.spillEncodesSpec.pre6 enc Try.prog Try.f5 Rows.spillEncodesRow.domain false) (Rows.spillEncodesSpec.post enc Try.prog Try.f5 false true false false) := by
  refine law_lifts (C := Try.checked) (tb := 4) own started (by kernel_rfl) Try.func5
    (ChangeSpec.witness6 (enc := enc) (C := Try.checked) false ⟨#[], #[.int .i64 0, .slice none 0 0, .int .i64 0], []⟩ 8 (by kernel_rfl) (by kernel_rfl) (by kernel_rfl) (by kernel_rfl))
    rfl rfl Try.underlying4 laidOut (by kernel_rfl) (fun ds hd => ?_) ?_
  · match ds, hd with
    | [d0, d1, d2], _ => rfl
  · intro W base args ds p hval0 hA0 hsz0
    have hval : ∀ (j : Nat) t v, Try.f5.params[j]? = some t → args[j]? = some v → Value.okWide Try.prog W .any base t v := hval0
    have hA : DataW.TrodAll enc Try.prog W 0 (fun _ => true) true Try.f5.params.toList args.toList ds p := hA0
    have hsz : (DataW.weightsEach Try.prog Try.f5.params.toList ds).all (· ≤ reachBytes) = true := hsz0
    clear hval0 hA0 hsz0
    rw [Try.params5] at hA hval hsz
    obtain ⟨v0, v1, v2, d0, d1, d2, p0, p1, p2, rfl, rfl, rfl, h0, h1, h2⟩ := trodAll_three hA
    obtain ⟨n0, rfl, _, _, g0⟩ := open_int Try.underlying3 (hval 0 _ v0 rfl rfl) h0
    have l0 := wf_i64 g0
    obtain ⟨b1, r1, l1⟩ := open_bytes (j := 1) (hval 1 _ v1 rfl rfl) h1 hsz rfl rfl
    obtain ⟨n2, rfl, _, _, g2⟩ := open_int Try.underlying3 (hval 2 _ v2 rfl rfl) h2
    have l2 := wf_i64 g2
    exact encodes_any n0 v1 b1 n2 l0 l2 W r1 l1
theorem proved : Rows.SpillEncodesSaid :=
  OpenClaim.holds_of_wide 5 Try.f5 rfl rfl rfl rfl rfl rfl rfl ⟨rfl, rfl, rfl, rfl, rfl⟩ rfl rfl rfl rfl rfl (by kernel_rfl) Try.func5 (by kernel_rfl)
    (of_decide_eq_true (by kernel_rfl)) (by unfold Func.isWrapper; first | (rw [if_pos (by decide +kernel)]; kernel_rfl) | (rw [if_neg (by decide +kernel)]; exact ⟨rfl, rfl⟩))
    (fun os started H enc _ => lifted os started H enc)
end Go.Proofs.Ytgnhakgfgdelpaa.spillEncodes
