/- Texts joined: espalierlaw08.value; Bytes made of a constant.; A piece; espalierlaw08.awake; The row's last step from 'Below' alone (the guide's small lemma 9).; A law that returns true and changes nothing below; An argument of type []api.Cell.; Scripts over nodes (espalierlaw08.Op); espalierlaw08.NodeTwins; The bounds of an integer that came in; a row whose statement bears the bound on  -/
import Derived.Test.YtfcnkpofcekmgaaGreatNT2
import Derived.Test.YtfcnkpofcekmgaaGreatNT3
import Derived.Test.YtfcnkpofcekmgaaGreatNT6
import Derived.Test.YtfcnkpofcekmgaaGreatNT8
import Derived.Test.YtfcnkpofcekmgaaGreatNT9
import Derived.Test.YtfcnkpofcekmgaaGreatNT18
import Derived.Test.YtfcnkpofcekmgaaGreatNT19
import Derived.Test.YtfcnkpofcekmgaaGreatNT25
import Derived.Test.YtfcnkpofcekmgaaGreatNT26
import Derived.Deep.RegionHeld3
import Derived.Deep.CutBlock
import Derived.Lib.SlBytesConst
import Derived.Below
import Derived.ChangeSame
import Derived.WalkKit
import Derived.ProofKit
import Derived.OpenShut
import Derived.SizedLaws
import Derived.Carry
import Derived.Lib.SmallJoins
import Derived.WideKeyArgs
import Derived.Deep.Slices
import Derived.Deep.Fields
import Derived.Test.YtfcnkpofcekmgaaGreatRows
import Derived.JoinedCond
-- espalierlaw08.value: the walk.
namespace Go.Proofs.YtfcnkpofcekmgaaGreat
open Go.RowKit
set_option maxRecDepth 20000 in
set_option maxHeartbeats 1000000 in
theorem value_sep {w0 w : World} {L : List Ent} (hS : Sep w0 w L) (key val : List UInt8) (hk : key.length ≤ 1000) (hl : val.length ≤ 1000) : Calls Tryz.prog 37 #[.string ⟨key.toArray⟩, .string ⟨val.toArray⟩] w fun e w' =>
    ∃ y : CV, e = .returned (cellV y) ∧ y.c = ⟨key, 1, val, 0, 0⟩ ∧ Sep w0 w' (bytesE y.kv y.c.key :: bytesE y.vv y.c.val :: L) := by
  have hS1 := hS.alloc 43 [.slice none 0 0, .int .i64 0, .slice none 0 0, .int .i64 0, .int .i64 0]
  clear hS
  go_enter Tryz.func37, Tryz.ntmps37
  go_upto_region 1 with (fail)
  generalize hW1 : w.alloc (.cells #[.slice none 0 0, .int .i64 0, .slice none 0 0, .int .i64 0, .int .i64 0] 43) = w1 at *
  generalize w.heap.size = g at *
  clear hW1
  have z1 : (⟨key.toArray⟩ : ByteArray).size = key.length := by simp [ByteArray.size]
  have z2 : (⟨val.toArray⟩ : ByteArray).size = val.length := by simp [ByteArray.size]
  obtain ⟨c2, w2, q2, ho2, hb2, -⟩ := run_string_B w1 ⟨key.toArray⟩ (by rw [z1]; simp only [maxLen]; omega)
  obtain ⟨c3, w3, q3, ho3, hb3, -⟩ := run_string_B w2 ⟨val.toArray⟩ (by rw [z2]; simp only [maxLen]; omega)
  rw [z1] at q2 ho2
  rw [z2] at q3 ho3
  have ho2 : OwB w2 w1.heap.size (.slice (some ⟨w1.heap.size, 0, none⟩) key.length c2) key := ho2
  have ho3 : OwB w3 w2.heap.size (.slice (some ⟨w2.heap.size, 0, none⟩) val.length c3) val := ho3
  have hS2 := hS1.bytes hb2 ho2 (Nat.le_refl _)
  have hS3 := (hS2.bytes hb3 ho3 (Nat.le_refl _)).sw2
  generalize w1.heap.size = g2 at *
  generalize w2.heap.size = g3 at *
  obtain ⟨y0, y1, y2, y3, y4⟩ := cells5 hS3.blk
  obtain ⟨f0, f1, f2, f3, f4⟩ := froz5 hS3.blk
  have HS := Lib.hid (hS3.set5 (.slice (some ⟨g2, 0, none⟩) key.length c2) (.int .i64 1) (.slice (some ⟨g3, 0, none⟩) val.length c3) (.int .i64 0) (.int .i64 0))
  clear hS1 hS2 hS3 ho2 ho3 hb2 hb3 z1 z2
  go_wp2_with fail
  obtain ⟨e0, e1, e2, e3, e4⟩ := cells5 HS.out.blk
  refine bodyPost_ret (v := .agg #[.slice (some ⟨g2, 0, none⟩) key.length c2, .int .i64 1, .slice (some ⟨g3, 0, none⟩) val.length c3, .int .i64 0, .int .i64 0]) ?_ rfl ?_
  · simp [results, Tryz.results37, go_sem, e0, e1, e2, e3, e4]
  · exact ⟨⟨.slice (some ⟨g2, 0, none⟩) key.length c2, .slice (some ⟨g3, 0, none⟩) val.length c3, ⟨key, 1, val, 0, 0⟩⟩, rfl, rfl, HS.out.tail.sw1⟩
end Go.Proofs.YtfcnkpofcekmgaaGreat

-- Bytes made of a constant.
namespace Go.Proofs.YtfcnkpofcekmgaaGreat
open Go.RowKit
theorem conv_id (w : World) (C : Array Value) (n c g : Nat) (hg : g = w.heap.size) : (convert 41 41 (.slice (some ⟨g, 0, none⟩) n c)).run Tryz.prog (w.alloc (.cells C 5)) = .ok (.slice (some ⟨g, 0, none⟩) n c) (w.alloc (.cells C 5 (C.size, C.size + 1))) := by
  subst hg; exact Lib.run_convert_bytes_const w _ _ C n c Tryz.underlying41 Tryz.underlying5
theorem RdB.litm (w : World) (l : List UInt8) (cells : Array Value) (T : TypeId) (fr : Nat × Nat) (n : Nat) (h : cells = (bvs l).toArray) (hn : l.length = n) (hm : n ≤ maxLen) : RdB (w.alloc (.cells cells T fr)) (.slice (some ⟨w.heap.size, 0, none⟩) n n) l := by
  subst h; subst hn
  refine ⟨_, _, rfl, Nat.le_refl _, hm, fun j hj => ⟨_, rfl, ?_⟩⟩
  rw [add_row, Nat.zero_add, World.cell?_alloc_mark]
  have := bvs_get' l j hj
  simpa using this
end Go.Proofs.YtfcnkpofcekmgaaGreat

-- A piece: bytes of a block, as they are read.
namespace Go.Proofs.YtfcnkpofcekmgaaGreat
open Go.RowKit
/-- Bytes of a block, as they are read. -/
def litE (g n : Nat) (l : List UInt8) : Ent :=
  ⟨fun b => b = g, fun w => RdB w (.slice (some ⟨g, 0, none⟩) n n) l, fun {w w'} h k => by
    obtain ⟨A, c, hv, h1, h2, h3⟩ := k
    refine ⟨A, c, hv, h1, h2, fun j hj => ?_⟩
    obtain ⟨ad, hA, hc⟩ := h3 j hj
    refine ⟨ad, hA, ?_⟩
    obtain rfl : (⟨g, 0, none⟩ : Addr) = ad := by
      injection hv with hv1
      rw [← hv1] at hA
      injection hA
    rw [add_row] at hc ⊢
    rw [World.cell?_of_block (h g rfl)]
    exact hc⟩
theorem Sep.lit {w0 w : World} {L : List Ent} (h : Sep w0 w L) (l : List UInt8) (cells : Array Value) (T : TypeId) (fr : Nat × Nat) (n : Nat) (hc : cells = (bvs l).toArray) (hn : l.length = n) (hm : n ≤ maxLen) : Sep w0 (w.alloc (.cells cells T fr)) (litE w.heap.size n l :: L) :=
  h.new ((Below.refl _ _).alloc (Nat.le_refl _) _) (RdB.litm w l cells T fr n hc hn hm) (fun g hg => by have hg' : g = w.heap.size := hg; rw [World.size_alloc]; omega)
end Go.Proofs.YtfcnkpofcekmgaaGreat

-- espalierlaw08.awake: the walk.
namespace Go.Proofs.YtfcnkpofcekmgaaGreat
open Go.RowKit
theorem XIn.own {L : List Ent} {y : CV} (h1 : bytesE y.kv y.c.key ∈ L) (h2 : bytesE y.vv y.c.val ∈ L) (hr : RngY y.c) (s1 : y.c.key.length ≤ 140737488355328) (s2 : y.c.val.length ≤ 140737488355328) : XIn L y :=
  ⟨⟨_, h1, fun _ h => OwB.rd h⟩, ⟨_, h2, fun _ h => OwB.rd h⟩, hr.1, hr.2.1, hr.2.2, s1, s2⟩
theorem nA_r : RngY nA := by refine ⟨?_, ?_, ?_⟩ <;> (show _ ≤ _ ∧ _ ≤ _; simp only [nA]; omega)
theorem nB_r : RngY nB := by refine ⟨?_, ?_, ?_⟩ <;> (show _ ≤ _ ∧ _ ≤ _; simp only [nB]; omega)
section
variable {w0 w : World} {L : List Ent} {p q : Nat}
theorem aw_ins {s : KP} {y : CV} {c : PC} (hP : NdP1 w0 w L p 512 2 s) (hI : NdI1 2 512 s) (hy : y.c = c) (h1 : bytesE y.kv y.c.key ∈ L) (h2 : bytesE y.vv y.c.val ∈ L) (hr : RngY c) (s1 : c.key.length ≤ 10) (s2 : c.val.length ≤ 10) (hz : insZ1 2 512 s 0 0 c = 0) :
    Calls Tryz.prog 201 #[.pointer (some ⟨p, 0, none⟩), .int .i64 0, cellV y] w fun e w' => e = .returned (.int .i64 0) ∧ NdP1 w0 w' L p 512 2 (insS1 2 512 s 0 0 c) := by
  subst hy
  have h := NdIns1 hP hI (.inl rfl) (by omega) y (XIn.own h1 h2 hr (by omega) (by omega)) 0 (by unfold i64r; omega)
  rw [hz] at h
  exact h
theorem aw_ins2 {y : CV} {c : PC} (hP : NdP2 w0 w L p 512 2 n0) (hy : y.c = c) (h1 : bytesE y.kv y.c.key ∈ L) (h2 : bytesE y.vv y.c.val ∈ L) (hr : RngY c) (s1 : c.key.length ≤ 10) (s2 : c.val.length ≤ 10) (hz : insZ2 2 512 n0 0 0 c = 0) :
    Calls Tryz.prog 219 #[.pointer (some ⟨p, 0, none⟩), .int .i64 0, cellV y] w fun e w' => e = .returned (.int .i64 0) ∧ NdP2 w0 w' L p 512 2 (insS2 2 512 n0 0 0 c) := by
  subst hy
  have h := NdIns2 hP nd_I2 (.inl rfl) (by omega) y (XIn.own h1 h2 hr (by omega) (by omega)) 0 (by unfold i64r; omega)
  rw [hz] at h
  exact h
end
theorem aw_open {w0 w : World} {L : List Ent} {v : Value} {s : KP} (hS : Sep w0 w (bytesE v (laidF 2 s.l 512) :: L)) (hI : NdI1 2 512 s) :
    Calls Tryz.prog 12 #[v] w fun e w' => ∃ p, e = .returned (.tuple #[ndV1 p, .int .i64 0]) ∧ NdP1 w0 w' (bytesE v (laidF 2 s.l 512) :: L) p 512 2 ⟨s.l, [], 0⟩ := by
  have hll : (laidF 2 s.l 512).length = 512 := laidF_length hI.size
  have ho : OwB w 0 v (laidF 2 s.l 512) := hS.head
  have hpl : isPln (laidF 2 s.l 512) 2 s.l := ⟨by rw [hll]; decide, by decide, by rw [hll]; exact Wk.enc hI, by rw [hll]⟩
  have he : egB (laidF 2 s.l 512) = 1 := by
    unfold egB
    have h : (laidF 2 s.l 512).getD 1 0 = 1 := by unfold laidF preF; rfl
    rw [h]; rfl
  refine (NdOpn1 hS ho.rd (by omega) he).mono ?_
  rintro e w' (⟨p, kind, l, hp, rfl, hN⟩ | ⟨hn, -, -⟩)
  · obtain ⟨h1, h2⟩ := isPln_parse hp
    obtain ⟨h3, h4⟩ := isPln_parse hpl
    rw [h1] at h3
    injection h3 with h3
    subst h3
    rw [h4] at h2
    subst h2
    rw [hll] at hN
    exact ⟨p, rfl, hN⟩
  · exact absurd hpl (hn _ _)
theorem NdP1.drop2 {w0 w : World} {a b c d : Ent} {p P : Nat} {kind : Int} {s : KP} (h : NdP1 w0 w ([a, b, c] ++ [d]) p P kind s) : NdP1 w0 w (c :: [d]) p P kind s := by
  obtain ⟨E, hS, B⟩ := h.sep
  exact B _ _ (Sep.pick (L := [_, _, _, _]) [0, 3] (by decide) rfl hS)
theorem NdP1.drop2' {w0 w : World} {a b c d : Ent} {p P : Nat} {kind : Int} {s : KP} (h : NdP1 w0 w ([a, b] ++ [c, d]) p P kind s) : NdP1 w0 w (c :: [d]) p P kind s := by
  obtain ⟨E, hS, B⟩ := h.sep
  exact B _ _ (Sep.pick (L := [_, _, _, _]) [0, 3] (by decide) rfl hS)
theorem NdP2.drop2 {w0 w : World} {a b c d : Ent} {p P : Nat} {kind : Int} {s : KP} (h : NdP2 w0 w ([a, b, c] ++ [d]) p P kind s) : NdP2 w0 w (c :: [d]) p P kind s := by
  obtain ⟨E, hS, B⟩ := NdP2.sep h
  exact B _ _ (Sep.pick (L := [_, _, _, _]) [0, 3] (by decide) rfl hS)
set_option maxRecDepth 100000 in
set_option maxHeartbeats 8000000 in
theorem nawake_any (w : World) : Calls Tryz.prog 7 #[] w fun e w' => e = .returned (.bool true) ∧ Below w.heap.size w w' := by
  have kc := fun (w : World) (C : Array Value) (n c g : Nat) (hg : g = w.heap.size) => conv_id w C n c g hg
  have hmf : ∀ (fn : Fn) (first cap : Array Value) (w : World), (Instr.makeFunc fn first cap).run Tryz.prog w = .ok (.func fn first cap) w := fun _ _ _ _ => rfl
  have i1 := im1_insert
  have i2 := im1_nil
  have i3 := im1_find
  have i4 := im1_bytes
  have i5 := im1_used
  have i6 := im1_len
  have i7 := im2_insert
  have i8 := im2_nil
  have i9 := im2_len
  go_enter Tryz.func7, Tryz.ntmps7
  go_upto_region 2 with (first
    | (go_at_call 8; (with_reducible refine (NdNew_no 3 2 512 (by decide) (by decide) _).mono ?_); rintro e w1 ⟨rfl, hw1⟩)
    | fail)
  have hn1 := NdNewOk1 (kind := 2) (P := 512) ((Sep.start w).below hw1) (by decide) (by decide)
  rw [show ((512 : Nat) : Int) = 512 from rfl] at hn1
  go_upto_region 3 with (first
    | (go_at_call 8; (with_reducible refine hn1.mono ?_); rintro e w2 ⟨p, rfl, hP⟩)
    | fail)
  obtain ⟨E1, hS2, B1⟩ := hP.sep
  have hn2 := NdNewOk2 (kind := 2) (P := 512) hS2 (by decide) (by decide)
  rw [show ((512 : Nat) : Int) = 512 from rfl] at hn2
  clear hn1 hP hw1
  go_upto_region 4 with (first
    | (go_at_call 8; (with_reducible refine hn2.mono ?_); rintro e w3 ⟨q, rfl, hQ⟩)
    | fail)
  obtain ⟨E2, hS3, B2⟩ := hQ.sep
  have hv := value_sep hS3.drew [98] [120] (by simp) (by simp)
  have hI1 := fun (W : World) (y : CV) (hy : y.c = nB) (h : Sep w W (bytesE y.kv y.c.key :: bytesE y.vv y.c.val :: E2 :: [E1, oldE w])) => aw_ins (s := n0) (B1 _ _ (h.sw [_, _, _])) nd_I1 hy (by simp) (by simp) nB_r (by decide) (by decide) nd_z1
  have HI1 := Lib.hid hI1
  have hI2 := fun (W : World) (M : List Ent) (y : CV) (hy : y.c = nA) (h1 : bytesE y.kv y.c.key ∈ M) (h2 : bytesE y.vv y.c.val ∈ M) (h : Sep w W (E2 :: M)) => aw_ins2 (B2 _ _ h) hy h1 h2 nA_r (by decide) (by decide) nd_k1
  have HI2 := Lib.hid hI2
  clear hI1 hI2
  clear hn2 hQ hS2 B1 B2
  go_upto_region 6 with (fail)
  go_cut [7] (fun z wx => z = .int .i64 0 ∧ NdP1 w wx (E2 :: [oldE w]) p 512 2 (insS1 2 512 n0 0 0 nB))
  case first =>
    go_region_held3 (fun _ => True) (exact trivial) (first
      | (go_at_call 37; (with_reducible refine hv.mono ?_); rintro e w4 ⟨y, rfl, hy0, hS4⟩; have hy : y.c = nB := hy0)
      | (go_at_call 201; (with_reducible refine (HI1.out _ y hy hS4).mono ?_); rintro e w5 ⟨rfl, hP5⟩; have hP6 := NdP1.drop2 hP5)
      | fail)
    all_goals
      go_wp2_with fail
      go_meet
      exact ⟨rfl, hP6⟩
  case rest =>
  obtain ⟨rfl, hP5⟩ := hcut
  obtain ⟨E3, hS5, B3⟩ := hP5.sep
  have hv := value_sep hS5.drew [97] [121] (by simp) (by simp)
  have hI3 := fun (W : World) (y : CV) (hy : y.c = nA) (h : Sep w W (bytesE y.kv y.c.key :: bytesE y.vv y.c.val :: E3 :: [E2, oldE w])) => aw_ins (s := insS1 2 512 n0 0 0 nB) (B3 _ _ (h.sw [_, _])) (nd_I1.ins 0 (by omega) nB) hy (by simp) (by simp) nA_r (by decide) (by decide) nd_z2
  have HI3 := Lib.hid hI3
  clear hP5 B3 HI1 hS3 hI3
  go_upto_region 7 with (fail)
  go_cut [8] (fun z wx => z = .int .i64 0 ∧ NdP1 w wx (E2 :: [oldE w]) p 512 2 (insS1 2 512 (insS1 2 512 n0 0 0 nB) 0 0 nA))
  case first =>
    go_region_held3 (fun _ => True) (exact trivial) (first
      | (go_at_call 37; (with_reducible refine hv.mono ?_); rintro e w6 ⟨y2, rfl, hy0, hS7⟩; have hy2 : y2.c = nA := hy0)
      | (go_at_call 201; (with_reducible refine (HI3.out _ y2 hy2 hS7).mono ?_); rintro e w7 ⟨rfl, hP7⟩; have hP8 := NdP1.drop2' hP7)
      | fail)
    all_goals
      go_wp2_with fail
      go_meet
      exact ⟨rfl, hP8⟩
  case rest =>
  obtain ⟨rfl, hP7⟩ := hcut
  have hI7 : NdI1 2 512 (insS1 2 512 (insS1 2 512 n0 0 0 nB) 0 0 nA) := (nd_I1.ins 0 (by omega) nB).ins 0 (by omega) nA
  have hl7 := nd_s2
  have hu7 := nd_usd
  generalize insS1 2 512 (insS1 2 512 n0 0 0 nB) 0 0 nA = s2 at *
  obtain ⟨E4, hS9, B4⟩ := hP7.sep
  have HB4 := Lib.hid B4
  have HI7 := Lib.hid hI7
  have HL7 := Lib.hid hl7
  have HU7 := Lib.hid hu7
  have hS10 := hS9.lit [98] #[.int .u8 98] 5 (1, 2) 1 rfl rfl (by decide)
  have hfi := NdFnd1 (B4 _ _ (hS10.sw1)) hI7 (by omega) (.slice (some ⟨wc.heap.size, 0, none⟩) 1 1) [98] (show RdB _ _ _ from hS10.head)
  rw [hl7, nd_find.1, nd_find.2, show ((1 : Nat) : Int) = 1 from rfl] at hfi
  clear hP7 hS9 B4 HI3 hv hS5 hI7 hl7 hu7
  go_upto_region 9 with (first
    | (go_at_call 200; (with_reducible refine hfi.mono ?_); rintro e w8 ⟨rfl, hw8⟩)
    | fail)
  have hS11 := (hS10.below hw8).tail
  have hv := value_sep hS11.drew [97] [121] (by simp) (by simp)
  clear hS10 hfi hw8
  go_upto_region 9 with (fail)
  go_cut [11] (fun z wx => z = .int .i64 0 ∧ NdP2 w wx (E4 :: [oldE w]) q 512 2 (insS2 2 512 n0 0 0 nA))
  case first =>
    go_region_held3 (fun _ => True) (exact trivial) (first
      | (go_at_call 37; (with_reducible refine hv.mono ?_); rintro e w9 ⟨y3, rfl, hy0, hS12⟩; have hy3 : y3.c = nA := hy0)
      | (go_at_call 219; (with_reducible refine (HI2.out _ _ y3 hy3 (by simp) (by simp) (hS12.sw [_, _, _])).mono ?_); rintro e w10 ⟨rfl, hQ10⟩; have hQ11 := NdP2.drop2 hQ10)
      | fail)
    all_goals
      go_wp2_with fail
      go_meet
      exact ⟨rfl, hQ11⟩
  case rest =>
  obtain ⟨rfl, hQ10⟩ := hcut
  obtain ⟨E5, hS13, B5⟩ := hQ10.sep
  have HB5 := Lib.hid B5
  have hby := NdByt1 (HB4.out _ _ hS13.sw1) HI7.out (by decide) (by decide)
  clear hv hS11 hQ10 B5 HI2 hS13
  go_upto_region 11 with (first
    | (go_at_call 198; (with_reducible refine hby.mono ?_); rintro e w11 ⟨bv, rfl, hP11⟩; obtain ⟨E6, hS14, B6⟩ := hP11.sep)
    | (go_at_call 12; (with_reducible refine (aw_open (hS14.sw1) HI7.out).mono ?_); rintro e w12 ⟨o, rfl, hO12⟩)
    | fail)
  obtain ⟨E7, hS15, B7⟩ := hO12.sep
  have hS16 : Sep w w12 (E7 :: E6 :: E5 :: [oldE w]) := Sep.pick (L := [_, _, _, _, _]) [0, 2, 3, 4] (by decide) rfl hS15
  have hus := NdUsd1 (B6 _ _ hS16.sw1)
  have hl1 := NdLen1 (B7 _ _ hS16)
  have hl2 := NdLen2 (HB5.out _ _ hS16.sw2)
  rw [HU7.out, show ((26 : Nat) : Int) = 26 from rfl] at hus
  rw [HL7.out, show (([nA, nB] : List PC).length : Int) = 2 from rfl] at hl1
  rw [nd_kl, show ((1 : Nat) : Int) = 1 from rfl] at hl2
  have hmk := fun W => NdMostKey_ok 512 (by decide) W
  have hmv := fun W => NdMostValue_ok 512 (by decide) W
  rw [show ((512 : Nat) : Int) = 512 from rfl, show ((512 / 8 : Nat) : Int) = 64 from rfl] at hmk
  rw [show ((512 : Nat) : Int) = 512 from rfl, show ((512 / 16 * 3 : Nat) : Int) = 96 from rfl] at hmv
  have hB := hS16.belowOld (_v := w) (by simp)
  clear hby hP11 hS14 B6 hO12 hS15 B7 hS16 HB4 HB5 HL7 HU7 HI7
  go_wp2_with (first
    | (go_at_call 206; (with_reducible refine hus.mono ?_); rintro e w13 ⟨rfl, rfl⟩)
    | (go_at_call 203; (with_reducible refine hl1.mono ?_); rintro e w13 ⟨rfl, rfl⟩)
    | (go_at_call 221; (with_reducible refine hl2.mono ?_); rintro e w13 ⟨rfl, rfl⟩)
    | (go_at_call 33; (with_reducible refine (hmk _).mono ?_); rintro e w13 ⟨rfl, rfl⟩)
    | (go_at_call 35; (with_reducible refine (hmv _).mono ?_); rintro e w13 ⟨rfl, rfl⟩)
    | fail)
  go_ret
  exact ⟨rfl, hB⟩
end Go.Proofs.YtfcnkpofcekmgaaGreat

-- The row's last step from 'Below' alone (the guide's small lemma 9).
namespace Go.Proofs.YtfcnkpofcekmgaaGreat
open Go.RowKit Go.WideShapes Go.ChangeShapes
section
variable {H : Type} {enc : TypeId × Value → H} {P : Program}
theorem post_of_below {f : Func} {s : ChangeSpec} {apart fresh handsOn again : Bool} {W W' : World} {args : Array Value} {v : Value} {ds gs : List (DataW H)} {before pa pv : List MemPlace}
    (hW : DataW.Whole enc P f.params.toList s.vars apart W args.toList ds gs before)
    (hres : ∀ (b : Nat) (sp : Nat → Bool) (hd : Bool), DataW.TrodAll enc P W' b sp hd f.resultTypes.toList (v.resultList f.resultTypes.size) (s.fn H (ds ++ gs)).results [])
    (hargs : ∀ sp : Nat → Bool, (∀ p ∈ before, sp p.block = true) → DataW.TrodAll enc P W' 0 sp true f.params.toList args.toList (s.fn H (ds ++ gs)).args pa)
    (hvars : ∀ sp : Nat → Bool, (∀ p ∈ before, sp p.block = true) → DataW.TrodVars enc P W' sp s.vars (s.fn H (ds ++ gs)).vars pv)
    (hps : before = pa ++ pv) (hb : Below W.heap.size W W')
    (hok : ∀ (j : Nat) (t : TypeId) (r : Value), f.resultTypes[j]? = some t → (v.resultList f.resultTypes.size)[j]? = some r → Value.okWide P W' .any 0 t r) :
    s.post enc P f apart fresh handsOn again W args v W' := by
  have hlt : ∀ p ∈ before, p.block < W.heap.size := fun p hp => hW.lt p hp
  have hold : ∀ p ∈ before, (fun b => decide (b < W.heap.size)) p.block = true := fun p hp => by simpa using hlt p hp
  refine ⟨ds, gs, before, [], pa, pv, hW, hres _ _ _, hargs _ hold, hvars _ hold, World.keptBut_mono (fun p hp => ⟨hp, ?_⟩) (hb.frame (· ∈ before)), fun _ => ?_⟩
  · rw [hps, List.mem_append] at hp
    exact Or.inr hp
  · obtain ⟨_, _, _, _, _, hz, hn⟩ := hW
    refine ⟨hok, _, _, ([] ++ pa) ++ pv, ⟨[] ++ pa, pv, trodAll_append (hargs _ (fun _ _ => rfl)) (hres _ _ _), hvars _ (fun _ _ => rfl), rfl, ?_, ?_⟩, ?_⟩
    · intro b off hp
      have hin : MemPlace.cell b off ∈ before := by rw [hps]; simpa using hp
      rw [hb.frozen (hlt _ hin)]
      exact hz b off hin
    · intro ha
      have := hn ha
      rw [hps] at this
      simpa using this
    · intro p hp _
      rw [hps]
      simpa using hp
end
end Go.Proofs.YtfcnkpofcekmgaaGreat

-- A law that returns true and changes nothing below: from its walk to the row's own form.
namespace Go.Proofs.YtfcnkpofcekmgaaGreat
open Go.RowKit Go.WideShapes Go.ChangeShapes Go.Joins
section
variable {H : Type} {enc : TypeId × Value → H} {P : Program}
theorem trodAll_stays (hl : laidOutB P = true) {W W' : World} {sp' : Nat → Bool} : ∀ {ts : List TypeId} {vs : List Value} {ds : List (DataW H)} {ps : List MemPlace}, (ts.all fun t => P.readableRec t && decide (t < P.types.size)) = true →
    DataW.TrodAll enc P W 0 (fun _ => true) true ts vs ds ps → (∀ p ∈ ps, W.sameAt W' p) → (∀ p ∈ ps, sp' p.block = true) → DataW.TrodAll enc P W' 0 sp' true ts vs ds ps
  | [], [], [], _, _, h, _, _ => h
  | t :: ts, _ :: _, _ :: _, _, hr, ⟨p, q, h1, h2, e⟩, hk, hs => by
    simp only [List.all_cons, Bool.and_eq_true, decide_eq_true_eq] at hr
    obtain ⟨⟨hr1, hr2⟩, hr3⟩ := hr
    exact ⟨p, q, WideElems.Trod_stays hl hr1 hr2 h1 (fun x hx => hk x (by rw [e]; exact List.mem_append_left _ hx)) (fun x hx => hs x (by rw [e]; exact List.mem_append_left _ hx)),
      trodAll_stays hl hr3 h2 (fun x hx => hk x (by rw [e]; exact List.mem_append_right _ hx)) (fun x hx => hs x (by rw [e]; exact List.mem_append_right _ hx)), e⟩
theorem trodAll_len {w : World} {base : Nat} {spare : Nat → Bool} {held : Bool} : ∀ {ts : List TypeId} {vs : List Value} {ds : List (DataW H)} {ps : List MemPlace}, DataW.TrodAll enc P w base spare held ts vs ds ps → ds.length = ts.length
  | [], [], [], _, _ => rfl
  | _ :: _, _ :: _, _ :: _, _, ⟨_, _, _, h2, _⟩ => by simp [trodAll_len h2]
theorem law_post {fn : Func} {s : ChangeSpec} {tb : TypeId} {W W' : World} {args : Array Value} {ds gs : List (DataW H)} {before : List MemPlace} (hvars : s.vars = []) (hrt : fn.resultTypes = #[tb]) (htb : P.underlying tb = some .bool) (hl : laidOutB P = true)
    (hr : (fn.params.toList.all fun t => P.readableRec t && decide (t < P.types.size)) = true) (hs : ∀ ds : List (DataW H), ds.length = fn.params.size → s.fn H ds = { results := [.lit (.bool true)], args := ds })
    (hW : DataW.Whole enc P fn.params.toList s.vars false W args.toList ds gs before) (hb : Below W.heap.size W W') : s.post enc P fn false true false false W args (.bool true) W' := by
  have hW' := hW
  obtain ⟨p, q, hA, hV, rfl, hfz, hnd⟩ := hW
  rw [hvars] at hV
  obtain ⟨rfl, rfl⟩ := trodVars_none hV
  have hlen : ds.length = fn.params.size := by simpa using trodAll_len hA
  have hfn := hs ds hlen
  have hlt : ∀ x ∈ p, x.block < W.heap.size := fun x hx => hW'.lt x (List.mem_append_left _ hx)
  refine post_of_below (pa := p) (pv := []) hW' ?_ ?_ ?_ (by simp) hb (ok_one hrt rfl (okWide_bool_mk htb _))
  · intro b sp hd
    rw [List.append_nil, hfn, hrt]
    exact trodAll_cons_mk (shut_bool htb _) trodAll_mk0
  · intro sp hsp
    rw [List.append_nil, hfn]
    exact trodAll_stays hl hr hA (fun x hx => hb.same (hlt x hx)) (fun x hx => hsp x (List.mem_append_left _ hx))
  · intro sp _
    rw [List.append_nil, hfn, hvars]
    exact (rfl : DataW.TrodVars enc P W' sp [] [] [])
end
theorem law_lifts {H : Type} {enc : TypeId × Value → H} {C : Checked} {os : Os} {fno : FuncId} {fn : Func} {s : ChangeSpec} {conds : List PathCond} {tb : TypeId}
    (own : ownKnob C.prog.godebug = none) (started : os.Started) (noInit : C.prog.inits.idxOf? fno = none) (hfn : C.prog.funcs[fno]? = some fn)
    (witness : ∃ (w : World) (tape : Tape) (i : Input), w.os = os ∧ (w.forCall tape i).Shaped C.prog ∧ i.vars = [] ∧ Input.okWide C.prog (w.forCall tape i) .any w.heap.size fno i ∧
      s.pre6 enc C.prog fn conds false (w.forCall tape i).memory i.args ∧ ({} : Assume).holds C.prog (lone (Frame.enter C.prog fno i.args .normal) [] (w.forCall tape i)))
    (hvars : s.vars = []) (hrt : fn.resultTypes = #[tb]) (htb : C.prog.underlying tb = some .bool) (hl : laidOutB C.prog = true)
    (hr : (fn.params.toList.all fun t => C.prog.readableRec t && decide (t < C.prog.types.size)) = true) (hs : ∀ ds : List (DataW H), ds.length = fn.params.size → s.fn H ds = { results := [.lit (.bool true)], args := ds })
    (walk : ∀ (W : World) (base : Nat) (args : Array Value) (ds : List (DataW H)) (p : List MemPlace), (∀ (j : Nat) t v, fn.params[j]? = some t → args[j]? = some v → Value.okWide C.prog W .any base t v) →
      DataW.TrodAll enc C.prog W 0 (fun _ => true) true fn.params.toList args.toList ds p → (DataW.weightsEach C.prog fn.params.toList ds).all (· ≤ reachBytes) = true →
      Calls C.prog fno args W fun e W' => e = .returned (.bool true) ∧ Below W.heap.size W W') :
    ReturnsInHanded {} C os fno .any (s.pre6 enc C.prog fn conds false) (s.post enc C.prog fn false true false false) := by
  refine returnsInHanded_of_change_sized own started noInit hfn witness ?_
  intro W base args ds gs before hval hW _ hsz _
  have hW' := hW
  obtain ⟨p, q, hA, hV, _, _, _⟩ := hW
  rw [hvars] at hV
  obtain ⟨rfl, rfl⟩ := trodVars_none hV
  have hv : s.plain.varTypes C.prog = [] := by
    unfold ChangeSpec.plain DataSpec.varTypes
    simp [hvars]
  rw [hv, List.append_nil, List.append_nil] at hsz
  refine (walk W base args ds p hval hA hsz).mono fun e W' h => ?_
  obtain ⟨rfl, hb⟩ := h
  exact ⟨_, rfl, law_post hvars hrt htb hl hr hs hW' hb⟩
section
variable {H : Type} {enc : TypeId × Value → H} {W : World}
theorem cells_u8 : Tryz.prog.cellsOf 5 = 1 := by kernel_rfl
theorem bytes_u8 : Tryz.prog.bytesOf 5 = 1 := by kernel_rfl
end
end Go.Proofs.YtfcnkpofcekmgaaGreat

-- An argument of type []api.Cell.
namespace Go.Proofs.YtfcnkpofcekmgaaGreat
open Go.RowKit Go.WideShapes Go.ChangeShapes Go.Deep
section
variable {H : Type} {enc : TypeId × Value → H} {W : World}
/-- A field, or an element, of type []byte. -/
theorem trod_bytes {fuel : Nat} {cs : List Value} {x : DataW H × List MemPlace} (h : DataW.trod enc Tryz.prog W 0 (fun _ => true) true fuel 41 cs = some x) :
    ∃ (v : Value) (l : List UInt8), cs = [v] ∧ RdB W v l ∧ ((x.1 = .nil ∧ l = []) ∨ ∃ e s, x.1 = .slice e s ∧ l.length ≤ e.length + s.length) := by
  rcases open_ints Tryz.underlying41 Tryz.underlying5 cells_u8 h with ⟨rfl, rfl⟩ | ⟨a, len, cap, zs, rfl, _, hl, hm, hz, rfl, hcell, hwz⟩
  · exact ⟨_, [], rfl, RdB.nil, .inl ⟨rfl, rfl⟩⟩
  · simp only [if_true] at hz
    have hlen : ((zs.take len).map fun z => UInt8.ofNat z.toNat).length = len := by simp; omega
    refine ⟨_, (zs.take len).map fun z => UInt8.ofNat z.toNat, rfl, ⟨some a, cap, by rw [hlen], by rw [hlen]; exact hl, hm, fun j hj => ⟨a, rfl, ?_⟩⟩, .inr ⟨_, _, rfl, by rw [hlen]; simp [lits]; omega⟩⟩
    rw [hlen] at hj
    rw [hcell j (by omega)]
    have hjz : j < zs.length := by omega
    have hw := hwz _ (List.getElem_mem hjz)
    have hg : zs.getD j 0 = zs[j] := by simp [List.getD, hjz]
    rw [hg]
    simp [Lit.wf, IntKind.min, IntKind.max, IntKind.signed, IntKind.bits] at hw
    simp
    omega
theorem trod_i64 {fuel : Nat} {cs : List Value} {x : DataW H × List MemPlace} (h : DataW.trod enc Tryz.prog W 0 (fun _ => true) true fuel 3 cs = some x) : ∃ n : Int, cs = [.int .i64 n] ∧ -9223372036854775808 ≤ n ∧ n ≤ 9223372036854775807 := by
  obtain ⟨n, rfl, _, hw⟩ := DataW.trod_int Tryz.underlying3 h
  simp [Lit.wf, IntKind.min, IntKind.max, IntKind.signed, IntKind.bits] at hw
  exact ⟨n, rfl, hw⟩
theorem weightsAll_in {P : Program} {e : TypeId} : ∀ {l : List (DataW H)} {d : DataW H}, d ∈ l → ∀ n ∈ d.weights P e, n ∈ DataW.weightsAll P e l
  | [], _, h => by cases h
  | x :: r, d, h => by
    intro n hn
    rw [DataW.weightsAll, List.mem_append]
    rcases List.mem_cons.1 h with rfl | h
    · exact .inl hn
    · exact .inr (weightsAll_in h n hn)
theorem cells_Cell : Tryz.prog.cellsOf 43 = 5 := by kernel_rfl
set_option maxRecDepth 100000 in
theorem open_cell {fuel : Nat} {cs : List Value} {x : DataW H × List MemPlace} (h : DataW.trod enc Tryz.prog W 0 (fun _ => true) true fuel 43 cs = some x) :
    ∃ o : CV, cs = o.cells ∧ o.ok W ∧ ∃ y0 y1 y2 y3 y4, x.1 = .agg [y0, y1, y2, y3, y4] ∧ ((y0 = .nil ∧ o.c.key = []) ∨ ∃ e s, y0 = .slice e s ∧ o.c.key.length ≤ e.length + s.length) ∧ ((y2 = .nil ∧ o.c.val = []) ∨ ∃ e s, y2 = .slice e s ∧ o.c.val.length ≤ e.length + s.length) := by
  obtain ⟨xs, n, _, rfl, hcl, hxl, hg⟩ := DataW.trod_struct Tryz.underlying43 h
  rw [cells_Cell] at hcl
  match cs, hcl with
  | [c0, c1, c2, c3, c4], _ =>
    match xs, hxl with
    | [z0, z1, z2, z3, z4], _ =>
      have g0 := hg 0 _ rfl
      have g1 := hg 1 _ rfl
      have g2 := hg 2 _ rfl
      have g3 := hg 3 _ rfl
      have g4 := hg 4 _ rfl
      obtain ⟨kv, key, e0, hd, w0⟩ := trod_bytes (cs := [c0]) g0
      obtain ⟨k, e1, r1⟩ := trod_i64 (cs := [c1]) g1
      obtain ⟨vv, val, e2, hv, w2⟩ := trod_bytes (cs := [c2]) g2
      obtain ⟨pg, e3, r3⟩ := trod_i64 (cs := [c3]) g3
      obtain ⟨ct, e4, r4⟩ := trod_i64 (cs := [c4]) g4
      injection e0 with e0
      injection e1 with e1
      injection e2 with e2
      injection e3 with e3
      injection e4 with e4
      subst e0 e1 e2 e3 e4
      exact ⟨⟨c0, c2, ⟨key, k, val, pg, ct⟩⟩, rfl, ⟨hd, hv, r1, r3, r4⟩, z0.1, z1.1, z2.1, z3.1, z4.1, rfl, w0, w2⟩
end
end Go.Proofs.YtfcnkpofcekmgaaGreat

-- Scripts over nodes (espalierlaw08.Op): an argument of type []Op.
namespace Go.Proofs.YtfcnkpofcekmgaaGreat
open Go.RowKit Go.WideShapes Go.ChangeShapes Go.Deep
structure OpX.ok (W : World) (o : OpX) : Prop where
  x : o.x.ok W
  k : RdB W o.kv o.key
  r0 : i64r o.kind
  r1 : i64r o.at_
structure RdOps (W : World) (v : Value) (l : List OpX) : Prop where
  form : ∃ A c, v = .slice A l.length c ∧ l.length ≤ c ∧ c ≤ maxLen ∧ ∀ i (h : i < l.length), ∃ ad, A = some ad ∧ ∀ r u, l[i].cells[r]? = some u → W.cell? (ad.add (i * 8 + r)) = some u
  ok : ∀ o ∈ l, o.ok W
section
variable {H : Type} {enc : TypeId × Value → H} {W : World}
theorem cells_Op : Tryz.prog.cellsOf 45 = 8 := by kernel_rfl
theorem bytes_Op : Tryz.prog.bytesOf 45 = 112 := by kernel_rfl
set_option maxRecDepth 100000 in
theorem open_op {fuel : Nat} {cs : List Value} {x : DataW H × List MemPlace} (h : DataW.trod enc Tryz.prog W 0 (fun _ => true) true fuel 45 cs = some x) :
    ∃ o : OpX, cs = o.cells ∧ o.ok W ∧ ∃ y0 y1 y2 y3 y4 y5 y6 y7, x.1 = .agg [y0, y1, .agg [y2, y3, y4, y5, y6], y7] ∧ ((y2 = .nil ∧ o.x.c.key = []) ∨ ∃ e s, y2 = .slice e s ∧ o.x.c.key.length ≤ e.length + s.length) ∧ ((y4 = .nil ∧ o.x.c.val = []) ∨ ∃ e s, y4 = .slice e s ∧ o.x.c.val.length ≤ e.length + s.length) ∧ ((y7 = .nil ∧ o.key = []) ∨ ∃ e s, y7 = .slice e s ∧ o.key.length ≤ e.length + s.length) := by
  obtain ⟨xs, n, _, rfl, hcl, hxl, hg⟩ := DataW.trod_struct Tryz.underlying45 h
  rw [cells_Op] at hcl
  match cs, hcl with
  | [c0, c1, c2, c3, c4, c5, c6, c7], _ =>
    match xs, hxl with
    | [z0, z1, z2, z3], _ =>
      have g0 := hg 0 _ rfl
      have g1 := hg 1 _ rfl
      have g2 := hg 2 _ rfl
      have g3 := hg 3 _ rfl
      obtain ⟨k, e0, r0⟩ := trod_i64 (cs := [c0]) g0
      obtain ⟨i, e1, r1⟩ := trod_i64 (cs := [c1]) g1
      obtain ⟨o, e2, hok, y0, y1, y2, y3, y4, hy, w0, w2⟩ := open_cell (cs := [c2, c3, c4, c5, c6]) g2
      obtain ⟨kv, key, e3, hd, w3⟩ := trod_bytes (cs := [c7]) g3
      injection e0 with e0
      injection e1 with e1
      injection e3 with e3
      subst e0 e1 e3
      have e4 : ([c2, c3, c4, c5, c6] : List Value) = [o.kv, .int .i64 o.c.kind, o.vv, .int .i64 o.c.page, .int .i64 o.c.count] := e2
      simp only [List.cons.injEq, and_true] at e4
      obtain ⟨rfl, rfl, rfl, rfl, rfl⟩ := e4
      exact ⟨⟨k, i, o, c7, key⟩, rfl, ⟨hok, hd, r0, r1⟩, z0.1, z1.1, y0, y1, y2, y3, y4, z3.1, by rw [← hy]; rfl, w0, w2, w3⟩
set_option maxRecDepth 100000 in
theorem open_ops {base : Nat} {v : Value} {d : DataW H} {p : List MemPlace} (hv : Value.okWide Tryz.prog W .any base 22 v) {ts : List TypeId} {ds : List (DataW H)} {j : Nat} (h : DataW.Trod enc Tryz.prog W 0 (fun _ => true) true 22 v d p)
    (hsz : (DataW.weightsEach Tryz.prog ts ds).all (· ≤ reachBytes) = true) (ht : ts[j]? = some 22) (hd : ds[j]? = some d) :
    ∃ l : List OpX, RdOps W v l ∧ l.length * 112 ≤ 140737488351232 ∧ ∀ o ∈ l, o.x.c.key.length ≤ 140737488351232 ∧ o.x.c.val.length ≤ 140737488351232 ∧ o.key.length ≤ 140737488351232 := by
  obtain ⟨a0, len, cap, rfl⟩ := okWide_slice Tryz.underlying22 hv
  obtain ⟨fuel, hf⟩ := h
  rcases open_slice Tryz.underlying22 hf with ⟨hcs, _⟩ | ⟨a, len', cap', m, n, D, Pl, hcs, _, hl, hm, hmm, hx, hi⟩
  · simp [Value.cells] at hcs
    obtain ⟨rfl, rfl, rfl⟩ := hcs
    exact ⟨[], ⟨⟨none, 0, rfl, by simp, by simp, fun i hi => by simp at hi⟩, by simp⟩, by simp, by simp⟩
  · simp [Value.cells] at hcs
    obtain ⟨rfl, rfl, rfl⟩ := hcs
    simp only [if_true] at hmm
    subst hmm
    simp only [Prod.mk.injEq] at hx
    obtain ⟨rfl, _⟩ := hx
    have key : ∀ i, i < m → ∃ o : OpX, (∀ r u, o.cells[r]? = some u → W.cell? (a.add (i * 8 + r)) = some u) ∧ o.ok W ∧ ∃ y0 y1 y2 y3 y4 y5 y6 y7, D i = .agg [y0, y1, .agg [y2, y3, y4, y5, y6], y7] ∧ ((y2 = .nil ∧ o.x.c.key = []) ∨ ∃ e s, y2 = .slice e s ∧ o.x.c.key.length ≤ e.length + s.length) ∧ ((y4 = .nil ∧ o.x.c.val = []) ∨ ∃ e s, y4 = .slice e s ∧ o.x.c.val.length ≤ e.length + s.length) ∧ ((y7 = .nil ∧ o.key = []) ∨ ∃ e s, y7 = .slice e s ∧ o.key.length ≤ e.length + s.length) := fun i him => by
      obtain ⟨cs', hc, ht'⟩ := hi i him
      obtain ⟨o, rfl, hok, hy⟩ := open_op ht'
      refine ⟨o, fun r u hu => ?_, hok, hy⟩
      obtain ⟨_, hcl, hat⟩ := World.cells?_some hc
      have hr : r < Tryz.prog.cellsOf 45 := by
        have := (List.getElem?_eq_some_iff.1 hu).1
        rw [← hcl]; exact this
      have := hat r hr
      rw [cells_Op] at this
      rw [← add_of_add, this, hu]
    obtain ⟨f, hf'⟩ := choose_lt key
    refine ⟨(List.range len).map f, ⟨⟨some a, m, by simp, by simpa using hl, hm, fun i hi' => ⟨a, rfl, ?_⟩⟩, ?_⟩, ?_, ?_⟩
    · have hil : i < len := by simpa using hi'
      simpa using (hf' i (by omega)).1
    · intro o ho
      obtain ⟨i, hi', rfl⟩ := List.mem_map.1 ho
      have := List.mem_range.1 hi'
      exact (hf' i (by omega)).2.1
    · have hs := sized_slice hsz ht hd Tryz.underlying22
      rw [bytes_Op] at hs
      simp only [List.length_map, List.length_range, reachBytes] at hs
      simp only [List.length_map, List.length_range]
      omega
    · intro o ho
      obtain ⟨i, hi', rfl⟩ := List.mem_map.1 ho
      have hil := List.mem_range.1 hi'
      obtain ⟨_, _, y0, y1, y2, y3, y4, y5, y6, y7, hD, w2, w4, w7⟩ := hf' i (by omega)
      have hin : ∀ k ∈ (D i).weights Tryz.prog 45, k ≤ reachBytes := fun k hk => by
        have h1 := weightsAll_in (P := Tryz.prog) (e := 45) (List.mem_map.2 ⟨i, hi', rfl⟩ : D i ∈ (List.range len).map D) k hk
        have h2 := List.all_eq_true.1 hsz k (DataW.weights_mem_each ht hd _ (by
          simp only [DataW.weights, Tryz.underlying22]
          exact List.mem_cons.2 (.inr (List.mem_append.2 (.inl h1)))))
        simpa using h2
      rw [hD] at hin
      refine ⟨?_, ?_, ?_⟩
      · rcases w2 with ⟨_, e⟩ | ⟨e, s, rfl, hle⟩
        · rw [e]; simp
        · have := hin ((e.length + s.length) * Tryz.prog.bytesOf 5) (by
            simp only [DataW.weights, Tryz.underlying45]
            refine DataW.weights_mem_each (j := 2) rfl rfl _ ?_
            simp only [DataW.weights, Tryz.underlying43]
            refine DataW.weights_mem_each (j := 0) rfl rfl _ ?_
            simp only [DataW.weights, Tryz.underlying41]
            exact List.mem_cons.2 (.inl rfl))
          rw [bytes_u8] at this
          simp only [reachBytes] at this
          omega
      · rcases w4 with ⟨_, e⟩ | ⟨e, s, rfl, hle⟩
        · rw [e]; simp
        · have := hin ((e.length + s.length) * Tryz.prog.bytesOf 5) (by
            simp only [DataW.weights, Tryz.underlying45]
            refine DataW.weights_mem_each (j := 2) rfl rfl _ ?_
            simp only [DataW.weights, Tryz.underlying43]
            refine DataW.weights_mem_each (j := 2) rfl rfl _ ?_
            simp only [DataW.weights, Tryz.underlying41]
            exact List.mem_cons.2 (.inl rfl))
          rw [bytes_u8] at this
          simp only [reachBytes] at this
          omega
      · rcases w7 with ⟨_, e⟩ | ⟨e, s, rfl, hle⟩
        · rw [e]; simp
        · have := hin ((e.length + s.length) * Tryz.prog.bytesOf 5) (by
            simp only [DataW.weights, Tryz.underlying45]
            refine DataW.weights_mem_each (j := 3) rfl rfl _ ?_
            simp only [DataW.weights, Tryz.underlying41]
            exact List.mem_cons.2 (.inl rfl))
          rw [bytes_u8] at this
          simp only [reachBytes] at this
          omega
/-- The i-th call. -/
theorem RdOps.at_ {W : World} {A : Option Addr} {m c i : Nat} {l : List OpX} (h : RdOps W (.slice A m c) l) (hi : i < l.length) :
    ∃ ad, A = some ad ∧ W.cell? (ad.add (i * 8)) = some (.int .i64 l[i].kind) ∧ W.cell? ⟨(ad.add (i * 8)).block, (ad.add (i * 8)).off + 1, none⟩ = some (.int .i64 l[i].at_) ∧ W.cell? ⟨(ad.add (i * 8)).block, (ad.add (i * 8)).off + 2, none⟩ = some l[i].x.kv ∧
      W.cell? ⟨(ad.add (i * 8)).block, (ad.add (i * 8)).off + 3, none⟩ = some (.int .i64 l[i].x.c.kind) ∧ W.cell? ⟨(ad.add (i * 8)).block, (ad.add (i * 8)).off + 4, none⟩ = some l[i].x.vv ∧ W.cell? ⟨(ad.add (i * 8)).block, (ad.add (i * 8)).off + 5, none⟩ = some (.int .i64 l[i].x.c.page) ∧
      W.cell? ⟨(ad.add (i * 8)).block, (ad.add (i * 8)).off + 6, none⟩ = some (.int .i64 l[i].x.c.count) ∧ W.cell? ⟨(ad.add (i * 8)).block, (ad.add (i * 8)).off + 7, none⟩ = some l[i].kv := by
  obtain ⟨A', c', hv, _, _, h3⟩ := h.form
  injection hv with hA
  subst hA
  obtain ⟨ad, rfl, h4⟩ := h3 i hi
  have key : ∀ r u, l[i].cells[r]? = some u → W.cell? ((ad.add (i * 8)).add r) = some u := fun r u hu => by rw [add_of_add]; exact h4 r u hu
  exact ⟨ad, rfl, h4 0 _ rfl, key 1 _ rfl, key 2 _ rfl, key 3 _ rfl, key 4 _ rfl, key 5 _ rfl, key 6 _ rfl, key 7 _ rfl⟩
end
end Go.Proofs.YtfcnkpofcekmgaaGreat

-- espalierlaw08.NodeTwins: the walk.
namespace Go.Proofs.YtfcnkpofcekmgaaGreat
open Go.RowKit
theorem XIn.oldN {v : World} {L : List Ent} {x : CV} (hx : x.ok v) (hm : oldE v ∈ L) (s1 : x.c.key.length ≤ 140737488355328) (s2 : x.c.val.length ≤ 140737488355328) : XIn L x :=
  ⟨⟨oldE v, hm, fun _ h => hx.k.keep fun p hp => World.cell?_of_block (h p.block hp)⟩, ⟨oldE v, hm, fun _ h => hx.v.keep fun p hp => World.cell?_of_block (h p.block hp)⟩, hx.r1, hx.r2, hx.r3, s1, s2⟩
theorem RdIn.oldN {v : World} {L : List Ent} {x : Value} {l : List UInt8} (hr : RdB v x l) (hm : oldE v ∈ L) : RdIn L x l :=
  ⟨oldE v, hm, fun _ h => hr.keep fun p hp => World.cell?_of_block (h p.block hp)⟩
theorem Sep.cellO {w0 w v : World} {L : List Ent} {p : Addr} {u : Value} (h : Sep w0 w L) (hm : oldE v ∈ L) (hc : v.cell? p = some u) : w.cell? p = some u := (h.old_cell hm p (World.block_lt_of_cell? v p hc)).trans hc
set_option maxRecDepth 100000 in
set_option maxHeartbeats 32000000 in
theorem twins_any (kind page : Int) (hpr : i64r page) (v : Value) (l : List OpX) (w : World) (hl : RdOps w v l) (hsz : ∀ o ∈ l, o.x.c.key.length ≤ 140737488351232 ∧ o.x.c.val.length ≤ 140737488351232 ∧ o.key.length ≤ 140737488351232) :
    Calls Tryz.prog 4 #[.int .i64 kind, .int .i64 page, v] w fun e w' => e = .returned (.bool true) ∧ Below w.heap.size w w' := by
  obtain ⟨A, c, rfl, hlc, hcm, -⟩ := hl.form
  have hcm' : c ≤ 9223372036854775807 := hcm
  have HL := Lib.hid hl
  have HSZ := Lib.hid hsz
  clear hcm hl hsz
  go_enter Tryz.func4, Tryz.ntmps4
  go_upto_region 4 with (first | (go_at_call 7; (with_reducible refine (nawake_any _).mono ?_); rintro e w1 ⟨rfl, hB⟩) | fail)
  cases hnb : (isKindB kind && isPowB page) with
  | false =>
    have hN1 := fun W => NdNewBad1 (kind := kind) page hpr hnb W
    have hN2 := fun W => NdNewBad2 (kind := kind) page hpr hnb W
    clear hnb
    go_upto_region 6 with (first
      | (go_at_call 8; (with_reducible refine (hN1 _).mono ?_); rintro e w2 ⟨rfl, hw2⟩)
      | (go_at_call 8; (with_reducible refine (hN2 _).mono ?_); rintro e w3 ⟨rfl, hw3⟩)
      | fail)
    go_quiet (fail)
    go_wp2_with fail
    go_ret
    have hB2 := hB.trans (hw2.mono hB.size)
    exact ⟨rfl, below_drewN (hB2.trans (hw3.mono hB2.size)) _⟩
  | true =>
    rw [Bool.and_eq_true] at hnb
    obtain ⟨hkb, hpb⟩ := hnb
    have hrg := isPowB_range hpb
    obtain ⟨P, rfl⟩ : ∃ P : Nat, page = (P : Int) := ⟨page.toNat, by omega⟩
    have hkd : kind = 2 ∨ kind = 3 := of_decide_eq_true hkb
    have hP : P ≤ 65536 := by omega
    have hS1 := (Sep.start w).below hB
    have hN1 := NdNewOk1 hS1 hkb hpb
    have HKB := Lib.hid hkb
    have HPB := Lib.hid hpb
    have HKD := Lib.hid hkd
    clear hS1 hkb hpb hB hkd
    go_upto_region 5 with (first
      | (go_at_call 8; (with_reducible refine hN1.mono ?_); rintro e w2 ⟨p1, rfl, hP1⟩)
      | fail)
    obtain ⟨E1, hS2, B1⟩ := NdP1.sep hP1
    have hN2 := NdNewOk2 hS2 HKB.out HPB.out
    have HB1 := Lib.hid B1
    clear hN1 hP1 hS2 B1
    go_upto_region 6 with (first
      | (go_at_call 8; (with_reducible refine hN2.mono ?_); rintro e w3 ⟨p2, rfl, hP2⟩)
      | fail)
    obtain ⟨E2, hS3, B2⟩ := NdP2.sep hP2
    have HB2 := Lib.hid B2
    clear hN2 hP2 B2
    have hS4 := Sep.pick (L := [_, _, _]) [1, 0, 2] (by decide) rfl hS3
    clear hS3
    have i1 := im1_nil
    have i2 := im2_nil
    go_quiet (fail)
    have hS5 := hS4.below (below_drewN (Below.refl w3.heap.size w3) nq)
    generalize w3.drewN nq = w4 at *
    clear hS4
    go_upto_region 11 with (fail)
    obtain ⟨n, hnn⟩ : ∃ n, l.length = n := ⟨_, rfl⟩
    have HN := Lib.hid hnn
    rw [hnn] at hlc
    rw [hnn]
    clear hnn
    go_loopw [12] (fun iv wr => ∃ (i : Nat) (s1 s2 : KP) (E1 E2 : Ent), i ≤ n ∧ iv = .int .i64 (i : Int) ∧ Hid (s1.l = s2.l) ∧ NdI1 kind P s1 ∧ NdI2 kind P s2 ∧ Sep w wr [E1, E2, oldE w] ∧ Hid (∀ (W : World) (M : List Ent), Sep w W (E1 :: M) → NdP1 w W M p1 P kind s1) ∧ Hid (∀ (W : World) (M : List Ent), Sep w W (E2 :: M) → NdP2 w W M p2 P kind s2)) (fun iv _ => n - (intOf iv).toNat)
    case atStart => exact ⟨0, ⟨[], [], 0⟩, ⟨[], [], 0⟩, E1, E2, Nat.zero_le _, rfl, Lib.hid rfl, ⟨List.Pairwise.nil, by simp, by show 8 ≤ P; omega⟩, new_inv (by omega), hS5, HB1, HB2⟩
    case round =>
      clear hS5 HB1 HB2
      obtain ⟨i, s1, s2, E1, E2, hi, rfl, HS, hI1, hI2, hS, HB1, HB2⟩ := hrel
      by_cases hlt : i < n
      · have ik : (i : Int) < (n : Int) := by omega
        have ik0 : (0 : Int) ≤ (i : Int) := by omega
        have hil : i < l.length := by rw [HN.out]; exact hlt
        have HLo := HL.out
        have hok := HLo.ok _ (List.getElem_mem hil)
        have hsz := HSZ.out _ (List.getElem_mem hil)
        obtain ⟨ad, rfl, c0, c1, c2, c3, c4, c5, c6, c7⟩ := HLo.at_ hil
        replace c0 := hS.cellO (v := w) (by simp) c0
        replace c1 := hS.cellO (v := w) (by simp) c1
        replace c2 := hS.cellO (v := w) (by simp) c2
        replace c3 := hS.cellO (v := w) (by simp) c3
        replace c4 := hS.cellO (v := w) (by simp) c4
        replace c5 := hS.cellO (v := w) (by simp) c5
        replace c6 := hS.cellO (v := w) (by simp) c6
        replace c7 := hS.cellO (v := w) (by simp) c7
        generalize l[i] = q at *
        obtain ⟨K, at_, x, kv, okey⟩ := q
        obtain ⟨hxo, hko, hr0, hr1⟩ := hok
        simp only at c0 c1 c2 c3 c4 c5 c6 c7 hxo hko hr0 hr1 hsz
        obtain ⟨D, cd, rfl, -⟩ := hko.form
        obtain ⟨xA, xa, xB, xb, key, ck, val, pg, ct, rfl, -, -⟩ := CV.form hxo
        simp only at c0 c1 c2 c3 c4 c5 c6 c7 hsz
        have HXO := Lib.hid hxo
        have HKO := Lib.hid hko
        have HSQ := Lib.hid hsz
        have HR := Lib.hid (And.intro hr0 hr1)
        have hS2 := hS.alloc 45 [.int .i64 K, .int .i64 at_, .slice xA key.length xa, .int .i64 ck, .slice xB val.length xb, .int .i64 pg, .int .i64 ct, .slice D okey.length cd]
        clear hS HLo hxo hko hsz hr0 hr1
        go_upto_region 14 with (fail)
        generalize hW2 : wr.alloc (.cells #[.int .i64 K, .int .i64 at_, .slice xA key.length xa, .int .i64 ck, .slice xB val.length xb, .int .i64 pg, .int .i64 ct, .slice D okey.length cd] 45) = w2 at *
        generalize wr.heap.size = b at *
        clear hW2 c0 c1 c2 c3 c4 c5 c6 c7
        have hN2 : NdP1 w w2 ([blkE b 45 [.int .i64 K, .int .i64 at_, .slice xA key.length xa, .int .i64 ck, .slice xB val.length xb, .int .i64 pg, .int .i64 ct, .slice D okey.length cd], E2, oldE w]) p1 P kind s1 := HB1.out _ _ hS2.sw1
        have hc := NdCells_1 hN2 hI1 hP
        clear hS2 hN2
        go_upto_region 15 with (first
          | (go_at_call 10; (with_reducible refine hc.mono ?_); rintro e w3 ⟨mA, mc, m, rfl, hm, hmr, hN3⟩)
          | fail)
        have HM := Lib.hid hm
        obtain ⟨E3, hS3, -⟩ := NdP1.sep hN3
        obtain ⟨c0, c1, c2, c3, c4, c5, c6, c7⟩ := cells8 hS3.tail.tail.blk
        have ht := Twin_1 hN3 hI1 HKD.out hP ⟨K, at_, ⟨.slice xA key.length xa, .slice xB val.length xb, ⟨key, ck, val, pg, ct⟩⟩, .slice D okey.length cd, okey⟩ (XIn.oldN HXO.out (by simp) (by have := HSQ.out.1; simp only; omega) (by have := HSQ.out.2.1; simp only; omega)) (RdIn.oldN HKO.out (by simp)) HR.out.1 HR.out.2
        unfold opV at ht
        simp only at ht
        have hI1' := twF1_inv hI1 K at_ ⟨key, ck, val, pg, ct⟩ okey
        obtain ⟨⟨z1, i1, q1, y1c, t1⟩, hr1⟩ : ∃ r, twF1 kind P s1 K at_ ⟨key, ck, val, pg, ct⟩ okey = r := ⟨_, rfl⟩
        rw [hr1] at ht hI1'
        have HR1 := Lib.hid hr1
        clear hr1 hc hm hN3 hS3
        go_wp2_with fail
        refine ht.mono ?_
        rintro e w4 ⟨y1, rfl, hy1, hyr1, hN4⟩
        simp only at hy1 hN4 hI1'
        obtain ⟨E4, hS4, B4⟩ := NdP1.sep hN4
        have HB4 := Lib.hid B4
        obtain ⟨kv1, vv1, key1, ck1, val1, pg1, ct1⟩ := y1
        simp only at hy1 hyr1 hS4
        have HY1 := Lib.hid hy1
        obtain ⟨xK, xk, rfl⟩ := Own.slice (show OwB w4 0 kv1 key1 from hS4.tail.head)
        obtain ⟨xV, xv, rfl⟩ := Own.slice (show OwB w4 0 vv1 val1 from hS4.tail.tail.head)
        have hS5 := hS4.alloc 53 [.int .i64 z1, .int .i64 i1, .bool q1, .slice xK key1.length xk, .int .i64 ck1, .slice xV val1.length xv, .int .i64 pg1, .int .i64 ct1]
        clear ht hN4 hS4 B4 hy1 c0 c1 c2 c3 c4 c5 c6 c7
        unfold ansV
        simp only
        go_upto_region 16 with (fail)
        generalize hW5 : w4.alloc (.cells #[.int .i64 z1, .int .i64 i1, .bool q1, .slice xK key1.length xk, .int .i64 ck1, .slice xV val1.length xv, .int .i64 pg1, .int .i64 ct1] 53) = w5 at *
        generalize w4.heap.size = ba at *
        clear hW5
        have hS6 := Sep.pick (L := [_, _, _, _, _, _, _, _]) [6, 0, 1, 2, 3, 4, 5, 7] (by decide) rfl hS5
        have hN6 := HB2.out _ _ hS6
        obtain ⟨c0, c1, c2, c3, c4, c5, c6, c7⟩ := cells8 hS6.tail.tail.tail.tail.tail.tail.blk
        have ht := Twin_2 hN6 hI2 HKD.out hP ⟨K, at_, ⟨.slice xA key.length xa, .slice xB val.length xb, ⟨key, ck, val, pg, ct⟩⟩, .slice D okey.length cd, okey⟩ (XIn.oldN HXO.out (by simp) (by have := HSQ.out.1; simp only; omega) (by have := HSQ.out.2.1; simp only; omega)) (RdIn.oldN HKO.out (by simp)) HR.out.1 HR.out.2
        unfold opV at ht
        simp only at ht
        have hI2' := twF2_inv hI2 K at_ ⟨key, ck, val, pg, ct⟩ okey
        obtain ⟨⟨z2, i2, q2, y2c, t2⟩, hr2⟩ : ∃ r, twF2 kind P s2 K at_ ⟨key, ck, val, pg, ct⟩ okey = r := ⟨_, rfl⟩
        rw [hr2] at ht hI2'
        have HR2 := Lib.hid hr2
        clear hr2 hS5 hS6 hN6
        go_wp2_with fail
        refine ht.mono ?_
        rintro e w6 ⟨y2, rfl, hy2, hyr2, hN7⟩
        simp only at hy2 hN7 hI2'
        obtain ⟨E5, hS7, B5⟩ := NdP2.sep hN7
        have HB5 := Lib.hid B5
        obtain ⟨kv2, vv2, key2, ck2, val2, pg2, ct2⟩ := y2
        simp only at hy2 hyr2 hS7
        have HY2 := Lib.hid hy2
        obtain ⟨xK2, xk2, rfl⟩ := Own.slice (show OwB w6 0 kv2 key2 from hS7.tail.head)
        obtain ⟨xV2, xv2, rfl⟩ := Own.slice (show OwB w6 0 vv2 val2 from hS7.tail.tail.head)
        have hS8 := hS7.alloc 53 [.int .i64 z2, .int .i64 i2, .bool q2, .slice xK2 key2.length xk2, .int .i64 ck2, .slice xV2 val2.length xv2, .int .i64 pg2, .int .i64 ct2]
        clear ht hN7 hS7 B5 hy2 c0 c1 c2 c3 c4 c5 c6 c7
        unfold ansV
        simp only
        go_upto_region 17 with (fail)
        generalize hW7 : w6.alloc (.cells #[.int .i64 z2, .int .i64 i2, .bool q2, .slice xK2 key2.length xk2, .int .i64 ck2, .slice xV2 val2.length xv2, .int .i64 pg2, .int .i64 ct2] 53) = w7 at *
        generalize w6.heap.size = bb at *
        clear hW7
        obtain ⟨d0, d1, d2, d3, d4, d5, d6, d7⟩ := cells8 hS8.blk
        obtain ⟨a0, a1, a2, a3, a4, a5, a6, a7⟩ := cells8 hS8.tail.tail.tail.tail.blk
        obtain ⟨c0, c1, c2, c3, c4, c5, c6, c7⟩ := cells8 hS8.tail.tail.tail.tail.tail.tail.tail.tail.tail.blk
        have hB7 := hS8.belowOld (_v := w) (by simp)
        have hmln := hI1.len hP
        have hh1 := fun (e0 : K = 0) (e1 : z1 = 61) => HalvesC_1 HKD.out HKB.out HPB.out hI1 ⟨K, at_, ⟨.slice xA key.length xa, .slice xB val.length xb, ⟨key, ck, val, pg, ct⟩⟩, .slice D okey.length cd, okey⟩ (by have := HR1.out; unfold twF1 at this; rw [if_pos e0] at this; have := congrArg Prod.fst this; exact this.trans e1) m HM.out (.slice mA m.length mc) w7 (csE_rd (hS8.of_mem (E := csE (.slice mA m.length mc) m) (by simp)) hmr) (hS8.ok8 (v := w) (by simp) HXO.out) (hS8.rd (v := w) (by simp) HKO.out) (by rw [← pcs_length, HM.out]; omega)
        have hh2 := fun (e0 : K = 0) (e1 : z2 = 61) => HalvesC_2 HKD.out HKB.out HPB.out hI2 ⟨K, at_, ⟨.slice xA key.length xa, .slice xB val.length xb, ⟨key, ck, val, pg, ct⟩⟩, .slice D okey.length cd, okey⟩ (by have := HR2.out; unfold twF2 at this; rw [if_pos e0] at this; have := congrArg Prod.fst this; exact this.trans e1) m (HM.out.trans HS.out) (.slice mA m.length mc) w7 (csE_rd (hS8.of_mem (E := csE (.slice mA m.length mc) m) (by simp)) hmr) (hS8.ok8 (v := w) (by simp) HXO.out) (hS8.rd (v := w) (by simp) HKO.out) (by rw [← pcs_length, HM.out]; omega)
        unfold opV at hh1 hh2
        simp only at hh1 hh2
        have HH1 := Lib.hid hh1
        have HH2 := Lib.hid hh2
        have HB7 := Lib.hid hB7
        clear hh1 hh2 hB7 hmln
        by_cases h61 : z1 = 61 ∨ z2 = 61
        · clear hS8
          by_cases hK0 : K = 0
          · by_cases hz1 : z1 = 61
            · have hh := HH1.out hK0 hz1
              subst hK0 hz1
              clear h61
              go_wp2_with (first
                | (go_at_call 18; (with_reducible refine hh.mono ?_); rintro e w8 ⟨rfl, hw8⟩)
                | fail)
              go_ret
              exact ⟨rfl, HB7.out.trans (hw8.mono HB7.out.size)⟩
            · have hz2 : z2 = 61 := by rcases h61 with h | h; exact absurd h hz1; exact h
              have hh := HH2.out hK0 hz2
              have zb : ((z1 : Int) == 61) = false := beq_eq_false_iff_ne.2 hz1
              subst hK0 hz2
              clear h61 hz1
              go_wp2_with (first
                | (go_at_call 18; (with_reducible refine hh.mono ?_); rintro e w8 ⟨rfl, hw8⟩)
                | fail)
              go_ret
              exact ⟨rfl, HB7.out.trans (hw8.mono HB7.out.size)⟩
          · have kb : ((K : Int) == 0) = false := beq_eq_false_iff_ne.2 hK0
            by_cases hz1 : z1 = 61
            · subst hz1
              clear h61 hK0
              go_wp2_with fail
              all_goals
                go_ret
                exact ⟨rfl, HB7.out⟩
            · have hz2 : z2 = 61 := by rcases h61 with h | h; exact absurd h hz1; exact h
              have zb : ((z1 : Int) == 61) = false := beq_eq_false_iff_ne.2 hz1
              subst hz2
              clear h61 hz1 hK0
              go_wp2_with fail
              go_ret
              exact ⟨rfl, HB7.out⟩
        · have hz1 : z1 ≠ 61 := fun e => h61 (.inl e)
          have hz2 : z2 ≠ 61 := fun e => h61 (.inr e)
          have htw := twins_same (kind := kind) (P := P) HS.out (k := K) (i := at_) (c := ⟨key, ck, val, pg, ct⟩) (key := okey) (by rw [HR1.out]; exact hz1) (by rw [HR2.out]; exact hz2)
          rw [HR1.out, HR2.out] at htw
          obtain ⟨rfl, rfl, rfl, hyc, htl⟩ := htw
          simp only at hyc htl
          have zb : ((z1 : Int) == 61) = false := beq_eq_false_iff_ne.2 hz1
          have HTL := Lib.hid htl
          have hsc := SameCell_eq ⟨.slice xK key1.length xk, .slice xV val1.length xv, ⟨key1, ck1, val1, pg1, ct1⟩⟩ ⟨.slice xK2 key2.length xk2, .slice xV2 val2.length xv2, ⟨key2, ck2, val2, pg2, ct2⟩⟩ w7
            ⟨OwB.rd (hS8.of_mem (E := bytesE (.slice xK key1.length xk) key1) (by simp)), OwB.rd (hS8.of_mem (E := bytesE (.slice xV val1.length xv) val1) (by simp)), hyr1.1, hyr1.2.1, hyr1.2.2⟩
            ⟨OwB.rd (hS8.of_mem (E := bytesE (.slice xK2 key2.length xk2) key2) (by simp)), OwB.rd (hS8.of_mem (E := bytesE (.slice xV2 val2.length xv2) val2) (by simp)), hyr2.1, hyr2.2.1, hyr2.2.2⟩
            (by rw [HY1.out, HY2.out, hyc])
          unfold cellV at hsc
          simp only at hsc
          have hS9 := Sep.pick (L := [_, _, _, _, _, _, _, _, _, _, _]) [5, 1, 0, 4, 10] (by decide) rfl hS8
          clear hS8 h61 hz1 hz2 hyc htl HH1 HH2 HB7
          go_upto_region 23 with (fail)
          have hu1 := usd1_le hI1'
          have hu2 := usd2_le hI2'
          have HS9 := Lib.hid hS9
          clear hS9
          have hI1n := hI1'
          have hI2n := hI2'
          go_upto_region 24 with (first
            | (go_at_call 19; (with_reducible refine hsc.mono ?_); rintro e w8 ⟨rfl, hw8⟩; have hS10 := HS9.out.below hw8; have hn1 := NdCells_1 (HB4.out _ _ hS10) hI1n hP)
            | (go_at_call 10; (with_reducible refine hn1.mono ?_); rintro e w9 ⟨uA, uc, m1, rfl, hm1, hmr1, hN9⟩; obtain ⟨E6, hS11, B6⟩ := NdP1.sep hN9; have HM1 := Lib.hid hm1; have HB6 := Lib.hid B6; have hS12 := Sep.pick (L := [_, _, _, _, _, _]) [2, 0, 1, 3, 4, 5] (by decide) rfl hS11; have hn2 := NdCells_2 (HB5.out _ _ hS12) hI2n hP; clear hm1 B6)
            | (go_at_call 10; (with_reducible refine hn2.mono ?_); rintro e w10 ⟨vA, vc, m2, rfl, hm2, hmr2, hN10⟩; obtain ⟨E7, hS13, B7⟩ := NdP2.sep hN10; have HM2 := Lib.hid hm2; have HB7 := Lib.hid B7; have hss := SameCells_eq (.slice uA m1.length uc) (.slice vA m2.length vc) m1 m2 w10 (csE_rd (hS13.of_mem (E := csE (.slice uA m1.length uc) m1) (by simp)) hmr1) (csE_rd (hS13.of_mem (E := csE (.slice vA m2.length vc) m2) (by simp)) hmr2) (HM1.out.trans (HTL.out.trans hm2.symm)); clear hm2 B7)
            | (go_at_call 20; (with_reducible refine hss.mono ?_); rintro e w11 ⟨rfl, hw11⟩)
            | fail)
          have hS14 := hS13.below hw11
          clear hsc hS10 hn1 hN9 hS11 hS12 hn2 hN10 hss hS13 hw8 hw11 a0 a1 a2 a3 a4 a5 a6 a7 d0 d1 d2 d3 d4 d5 d6 d7
          obtain ⟨d0, d1, d2, d3, d4, d5, d6, d7⟩ := cells8 hS14.tail.tail.tail.tail.blk
          obtain ⟨a0, a1, a2, a3, a4, a5, a6, a7⟩ := cells8 hS14.tail.tail.tail.tail.tail.blk
          have hS15 := Sep.pick (L := [_, _, _, _, _, _, _]) [2, 0, 6] (by decide) rfl hS14
          have hn1 := HB6.out _ _ hS15
          have hn2 := HB7.out _ _ hS14
          have hl1 := NdLen1 hn1
          have hl2 := NdLen2 hn2
          have hs1 := NdUsd1 hn1
          have hs2 := NdUsd2 hn2
          rw [← HTL.out] at hl2
          have HS15 := Lib.hid hS15
          generalize usd1 kind t1 = ua at *
          generalize usd2 kind t2 = ub at *
          have k1 : (ua : Int) ≤ (P : Int) := by omega
          have k2 : (ub : Int) ≤ (P : Int) := by omega
          have l1 := im1_len
          have l2 := im2_len
          have l3 := im1_used
          have l4 := im2_used
          clear hS14 hS15 hn1 hn2 hu1 hu2
          go_wp2_with (first
            | (go_at_call 203; (with_reducible refine hl1.mono ?_); rintro e w12 ⟨rfl, rfl⟩)
            | (go_at_call 221; (with_reducible refine hl2.mono ?_); rintro e w12 ⟨rfl, rfl⟩)
            | (go_at_call 206; (with_reducible refine hs1.mono ?_); rintro e w12 ⟨rfl, rfl⟩)
            | (go_at_call 224; (with_reducible refine hs2.mono ?_); rintro e w12 ⟨rfl, rfl⟩)
            | fail)
          go_roundw
          case rel => exact ⟨i + 1, t1, t2, E6, E7, by omega, by go_num, HTL, hI1n, hI2n, HS15.out, HB6, HB7⟩
          case measure => simp [intOf]; omega
      · obtain rfl : i = n := by omega
        have HB9 := Lib.hid (hS.belowOld (_v := w) (by simp))
        clear hS
        go_wp2_with fail
        go_ret
        exact ⟨rfl, HB9.out⟩
end Go.Proofs.YtfcnkpofcekmgaaGreat

-- The bounds of an integer that came in; a row whose statement bears the bound on the bulk.
namespace Go.Proofs.YtfcnkpofcekmgaaGreat
open Go.RowKit Go.WideShapes Go.ChangeShapes
theorem wf_i64 {n : Int} (h : (Lit.int .i64 n).wf = true) : -9223372036854775808 ≤ n ∧ n ≤ 9223372036854775807 := by
  simp [Lit.wf, IntKind.min, IntKind.max, IntKind.signed, IntKind.bits] at h
  exact h
end Go.Proofs.YtfcnkpofcekmgaaGreat
