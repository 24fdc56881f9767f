/- Texts joined: The example of chapter 08; espalierlaw08.value; node.isPage, MostKey, MostValue; Bytes made of a constant.; A piece; espalierlaw08.awake; A byte of a piece is set.; espalierlaw08.NodeReads; The row's last step from 'Below' alone (the guide's small lemma 9).; A law that returns true and changes nothing below -/
import Derived.Test.YtfcnkpofcekmgaaGreatNR2
import Derived.Test.YtfcnkpofcekmgaaGreatNR3
import Derived.Test.YtfcnkpofcekmgaaGreatNR8
import Derived.Test.YtfcnkpofcekmgaaGreatNR9
import Derived.Test.YtfcnkpofcekmgaaGreatNR18
import Derived.Test.YtfcnkpofcekmgaaGreatNR25
import Derived.Test.YtfcnkpofcekmgaaGreatNR28
import Derived.Deep.RegionHeld3
import Derived.Deep.CutBlock
import Derived.Lib.SlBytesConst
import Derived.Laws.Concat
import Derived.Below
import Derived.ChangeSame
import Derived.WalkKit
import Derived.ProofKit
import Derived.OpenShut
import Derived.SizedLaws
import Derived.Carry
import Derived.Lib.SmallJoins
import Derived.WideKeyArgs
-- The example of chapter 08: plain laws.
namespace Go.Proofs.YtfcnkpofcekmgaaGreat
open Go.RowKit
def nA : PC := ⟨[97], 1, [121], 0, 0⟩
def nB : PC := ⟨[98], 1, [120], 0, 0⟩
def n0 : KP := ⟨[], [], 0⟩
theorem nd_z1 : insZ1 2 512 n0 0 0 nB = 0 := by decide
theorem nd_s1 : (insS1 2 512 n0 0 0 nB).l = [nB] := by
  show insL 2 512 [] 0 0 nB = _
  rw [insL_eq (show insZ 2 512 [] 0 0 nB = 0 by decide)]; rfl
theorem nd_z2 : insZ1 2 512 (insS1 2 512 n0 0 0 nB) 0 0 nA = 0 := by
  show insZ 2 512 (insS1 2 512 n0 0 0 nB).l 0 0 nA = 0
  rw [nd_s1]; decide
theorem nd_s2 : (insS1 2 512 (insS1 2 512 n0 0 0 nB) 0 0 nA).l = [nA, nB] := by
  show insL 2 512 (insS1 2 512 n0 0 0 nB).l 0 0 nA = _
  rw [nd_s1, insL_eq (show insZ 2 512 [nB] 0 0 nA = 0 by decide)]; rfl
theorem nd_find : findF [98] [nA, nB] = 1 ∧ isF [98] [nA, nB] = true := by decide
theorem nd_usd : usd1 2 (insS1 2 512 (insS1 2 512 n0 0 0 nB) 0 0 nA) = 26 := by
  show sizeF (insS1 2 512 (insS1 2 512 n0 0 0 nB) 0 0 nA).l = 26
  rw [nd_s2]; rfl
theorem nd_k1 : insZ2 2 512 n0 0 0 nA = 0 := by
  show insKZ 2 512 [] 0 0 nA = 0
  unfold insKZ
  rw [if_neg (by decide)]
  unfold putK
  have h : psizeF 2 (withF [] (0 : Int).toNat 0 nA) ≤ 512 := three_fit (kind := 2) (l := [nA]) (P := 512) (by omega) (by omega) (by omega) (by decide) (by decide)
  rw [if_neg (by decide), if_neg (by decide), if_neg (by omega)]
theorem nd_kl : (insS2 2 512 n0 0 0 nA).l.length = 1 := by
  show (insKS 2 512 n0 0 0 nA).l.length = 1
  unfold insKS
  rw [if_pos (show insKZ 2 512 n0.l 0 0 nA = 0 from nd_k1)]
  unfold putS changeS
  split <;> rfl
theorem nd_I1 : NdI1 2 512 n0 := ⟨List.Pairwise.nil, by simp [n0], by decide⟩
theorem nd_I2 : NdI2 2 512 n0 := tidy_inv (kind := 2) (P := 512) (l := []) List.Pairwise.nil (by simp) (by decide)
end Go.Proofs.YtfcnkpofcekmgaaGreat

-- espalierlaw08.value: the walk.
namespace Go.Proofs.YtfcnkpofcekmgaaGreat
open Go.RowKit
set_option maxRecDepth 20000 in
set_option maxHeartbeats 1000000 in
theorem value_sep {w0 w : World} {L : List Ent} (hS : Sep w0 w L) (key val : List UInt8) (hk : key.length ≤ 1000) (hl : val.length ≤ 1000) : Calls Tryz.prog 37 #[.string ⟨key.toArray⟩, .string ⟨val.toArray⟩] w fun e w' =>
    ∃ y : CV, e = .returned (cellV y) ∧ y.c = ⟨key, 1, val, 0, 0⟩ ∧ Sep w0 w' (bytesE y.kv y.c.key :: bytesE y.vv y.c.val :: L) := by
  have hS1 := hS.alloc 43 [.slice none 0 0, .int .i64 0, .slice none 0 0, .int .i64 0, .int .i64 0]
  clear hS
  go_enter Tryz.func37, Tryz.ntmps37
  go_upto_region 1 with (fail)
  generalize hW1 : w.alloc (.cells #[.slice none 0 0, .int .i64 0, .slice none 0 0, .int .i64 0, .int .i64 0] 43) = w1 at *
  generalize w.heap.size = g at *
  clear hW1
  have z1 : (⟨key.toArray⟩ : ByteArray).size = key.length := by simp [ByteArray.size]
  have z2 : (⟨val.toArray⟩ : ByteArray).size = val.length := by simp [ByteArray.size]
  obtain ⟨c2, w2, q2, ho2, hb2, -⟩ := run_string_B w1 ⟨key.toArray⟩ (by rw [z1]; simp only [maxLen]; omega)
  obtain ⟨c3, w3, q3, ho3, hb3, -⟩ := run_string_B w2 ⟨val.toArray⟩ (by rw [z2]; simp only [maxLen]; omega)
  rw [z1] at q2 ho2
  rw [z2] at q3 ho3
  have ho2 : OwB w2 w1.heap.size (.slice (some ⟨w1.heap.size, 0, none⟩) key.length c2) key := ho2
  have ho3 : OwB w3 w2.heap.size (.slice (some ⟨w2.heap.size, 0, none⟩) val.length c3) val := ho3
  have hS2 := hS1.bytes hb2 ho2 (Nat.le_refl _)
  have hS3 := (hS2.bytes hb3 ho3 (Nat.le_refl _)).sw2
  generalize w1.heap.size = g2 at *
  generalize w2.heap.size = g3 at *
  obtain ⟨y0, y1, y2, y3, y4⟩ := cells5 hS3.blk
  obtain ⟨f0, f1, f2, f3, f4⟩ := froz5 hS3.blk
  have HS := Lib.hid (hS3.set5 (.slice (some ⟨g2, 0, none⟩) key.length c2) (.int .i64 1) (.slice (some ⟨g3, 0, none⟩) val.length c3) (.int .i64 0) (.int .i64 0))
  clear hS1 hS2 hS3 ho2 ho3 hb2 hb3 z1 z2
  go_wp2_with fail
  obtain ⟨e0, e1, e2, e3, e4⟩ := cells5 HS.out.blk
  refine bodyPost_ret (v := .agg #[.slice (some ⟨g2, 0, none⟩) key.length c2, .int .i64 1, .slice (some ⟨g3, 0, none⟩) val.length c3, .int .i64 0, .int .i64 0]) ?_ rfl ?_
  · simp [results, Tryz.results37, go_sem, e0, e1, e2, e3, e4]
  · exact ⟨⟨.slice (some ⟨g2, 0, none⟩) key.length c2, .slice (some ⟨g3, 0, none⟩) val.length c3, ⟨key, 1, val, 0, 0⟩⟩, rfl, rfl, HS.out.tail.sw1⟩
end Go.Proofs.YtfcnkpofcekmgaaGreat

-- node.isPage, MostKey, MostValue: walks.
namespace Go.Proofs.YtfcnkpofcekmgaaGreat
open Go.RowKit
set_option maxRecDepth 20000 in
set_option maxHeartbeats 1000000 in
theorem NdIsPage_any (p : Int) (hp : -9223372036854775808 ≤ p ∧ p ≤ 9223372036854775807) (w : World) : Calls Tryz.prog 62 #[.int .i64 p] w fun e w' => e = .returned (.bool (isPowB p)) ∧ w = w' := by
  by_cases h1 : p < 512
  · have HV := Lib.hid (isPowB_out (.inl h1))
    go_enter Tryz.func62, Tryz.ntmps62
    go_wp2_with fail
    go_ret
    rw [HV.out]
    exact ⟨rfl, rfl⟩
  by_cases h2 : 65536 < p
  · have HV := Lib.hid (isPowB_out (.inr h2))
    go_enter Tryz.func62, Tryz.ntmps62
    go_wp2_with fail
    go_ret
    rw [HV.out]
    exact ⟨rfl, rfl⟩
  have hq := pow_eq p (by omega) (by omega)
  go_enter Tryz.func62, Tryz.ntmps62
  go_wp2_with fail
  go_ret
  exact ⟨rfl, rfl⟩
set_option maxRecDepth 20000 in
set_option maxHeartbeats 1000000 in
theorem NdMostKey_ok (P : Nat) (hp : isPowB (P : Int) = true) (w : World) : Calls Tryz.prog 33 #[.int .i64 (P : Int)] w fun e w' => e = .returned (.int .i64 ((P / 8 : Nat) : Int)) ∧ w = w' := by
  have hr := isPowB_range hp
  have hi := NdIsPage_any (P : Int) (by omega) w
  rw [hp] at hi
  have e1 : IntKind.i64.wrap ((P : Int) / 8) = (P : Int) / 8 := by rw [IntKind.wrap_i64]; omega
  have e2 : IntKind.i64.wrap ((P : Int) / 16) = (P : Int) / 16 := by rw [IntKind.wrap_i64]; omega
  have e3 : IntKind.i64.wrap ((P : Int) / 16 * 3) = (P : Int) / 16 * 3 := by rw [IntKind.wrap_i64]; omega
  clear hp
  go_enter Tryz.func33, Tryz.ntmps33
  go_wp2_with (first
    | (go_at_call 62; (with_reducible refine hi.mono ?_); rintro e w1 ⟨rfl, rfl⟩)
    | fail)
  go_ret
  exact ⟨rfl, rfl⟩
set_option maxRecDepth 20000 in
set_option maxHeartbeats 1000000 in
theorem NdMostValue_ok (P : Nat) (hp : isPowB (P : Int) = true) (w : World) : Calls Tryz.prog 35 #[.int .i64 (P : Int)] w fun e w' => e = .returned (.int .i64 ((P / 16 * 3 : Nat) : Int)) ∧ w = w' := by
  have hr := isPowB_range hp
  have hi := NdIsPage_any (P : Int) (by omega) w
  rw [hp] at hi
  have e1 : IntKind.i64.wrap ((P : Int) / 8) = (P : Int) / 8 := by rw [IntKind.wrap_i64]; omega
  have e2 : IntKind.i64.wrap ((P : Int) / 16) = (P : Int) / 16 := by rw [IntKind.wrap_i64]; omega
  have e3 : IntKind.i64.wrap ((P : Int) / 16 * 3) = (P : Int) / 16 * 3 := by rw [IntKind.wrap_i64]; omega
  clear hp
  go_enter Tryz.func35, Tryz.ntmps35
  go_wp2_with (first
    | (go_at_call 62; (with_reducible refine hi.mono ?_); rintro e w1 ⟨rfl, rfl⟩)
    | fail)
  go_ret
  exact ⟨rfl, rfl⟩
end Go.Proofs.YtfcnkpofcekmgaaGreat

-- Bytes made of a constant.
namespace Go.Proofs.YtfcnkpofcekmgaaGreat
open Go.RowKit
theorem conv_id (w : World) (C : Array Value) (n c g : Nat) (hg : g = w.heap.size) : (convert 41 41 (.slice (some ⟨g, 0, none⟩) n c)).run Tryz.prog (w.alloc (.cells C 5)) = .ok (.slice (some ⟨g, 0, none⟩) n c) (w.alloc (.cells C 5 (C.size, C.size + 1))) := by
  subst hg; exact Lib.run_convert_bytes_const w _ _ C n c Tryz.underlying41 Tryz.underlying5
theorem RdB.litm (w : World) (l : List UInt8) (cells : Array Value) (T : TypeId) (fr : Nat × Nat) (n : Nat) (h : cells = (bvs l).toArray) (hn : l.length = n) (hm : n ≤ maxLen) : RdB (w.alloc (.cells cells T fr)) (.slice (some ⟨w.heap.size, 0, none⟩) n n) l := by
  subst h; subst hn
  refine ⟨_, _, rfl, Nat.le_refl _, hm, fun j hj => ⟨_, rfl, ?_⟩⟩
  rw [add_row, Nat.zero_add, World.cell?_alloc_mark]
  have := bvs_get' l j hj
  simpa using this
end Go.Proofs.YtfcnkpofcekmgaaGreat

-- A piece: bytes of a block, as they are read.
namespace Go.Proofs.YtfcnkpofcekmgaaGreat
open Go.RowKit
/-- Bytes of a block, as they are read. -/
def litE (g n : Nat) (l : List UInt8) : Ent :=
  ⟨fun b => b = g, fun w => RdB w (.slice (some ⟨g, 0, none⟩) n n) l, fun {w w'} h k => by
    obtain ⟨A, c, hv, h1, h2, h3⟩ := k
    refine ⟨A, c, hv, h1, h2, fun j hj => ?_⟩
    obtain ⟨ad, hA, hc⟩ := h3 j hj
    refine ⟨ad, hA, ?_⟩
    obtain rfl : (⟨g, 0, none⟩ : Addr) = ad := by
      injection hv with hv1
      rw [← hv1] at hA
      injection hA
    rw [add_row] at hc ⊢
    rw [World.cell?_of_block (h g rfl)]
    exact hc⟩
theorem Sep.lit {w0 w : World} {L : List Ent} (h : Sep w0 w L) (l : List UInt8) (cells : Array Value) (T : TypeId) (fr : Nat × Nat) (n : Nat) (hc : cells = (bvs l).toArray) (hn : l.length = n) (hm : n ≤ maxLen) : Sep w0 (w.alloc (.cells cells T fr)) (litE w.heap.size n l :: L) :=
  h.new ((Below.refl _ _).alloc (Nat.le_refl _) _) (RdB.litm w l cells T fr n hc hn hm) (fun g hg => by have hg' : g = w.heap.size := hg; rw [World.size_alloc]; omega)
end Go.Proofs.YtfcnkpofcekmgaaGreat

-- espalierlaw08.awake: the walk.
namespace Go.Proofs.YtfcnkpofcekmgaaGreat
open Go.RowKit
theorem XIn.own {L : List Ent} {y : CV} (h1 : bytesE y.kv y.c.key ∈ L) (h2 : bytesE y.vv y.c.val ∈ L) (hr : RngY y.c) (s1 : y.c.key.length ≤ 140737488355328) (s2 : y.c.val.length ≤ 140737488355328) : XIn L y :=
  ⟨⟨_, h1, fun _ h => OwB.rd h⟩, ⟨_, h2, fun _ h => OwB.rd h⟩, hr.1, hr.2.1, hr.2.2, s1, s2⟩
theorem nA_r : RngY nA := by refine ⟨?_, ?_, ?_⟩ <;> (show _ ≤ _ ∧ _ ≤ _; simp only [nA]; omega)
theorem nB_r : RngY nB := by refine ⟨?_, ?_, ?_⟩ <;> (show _ ≤ _ ∧ _ ≤ _; simp only [nB]; omega)
section
variable {w0 w : World} {L : List Ent} {p q : Nat}
theorem aw_ins {s : KP} {y : CV} {c : PC} (hP : NdP1 w0 w L p 512 2 s) (hI : NdI1 2 512 s) (hy : y.c = c) (h1 : bytesE y.kv y.c.key ∈ L) (h2 : bytesE y.vv y.c.val ∈ L) (hr : RngY c) (s1 : c.key.length ≤ 10) (s2 : c.val.length ≤ 10) (hz : insZ1 2 512 s 0 0 c = 0) :
    Calls Tryz.prog 201 #[.pointer (some ⟨p, 0, none⟩), .int .i64 0, cellV y] w fun e w' => e = .returned (.int .i64 0) ∧ NdP1 w0 w' L p 512 2 (insS1 2 512 s 0 0 c) := by
  subst hy
  have h := NdIns1 hP hI (.inl rfl) (by omega) y (XIn.own h1 h2 hr (by omega) (by omega)) 0 (by unfold i64r; omega)
  rw [hz] at h
  exact h
theorem aw_ins2 {y : CV} {c : PC} (hP : NdP2 w0 w L p 512 2 n0) (hy : y.c = c) (h1 : bytesE y.kv y.c.key ∈ L) (h2 : bytesE y.vv y.c.val ∈ L) (hr : RngY c) (s1 : c.key.length ≤ 10) (s2 : c.val.length ≤ 10) (hz : insZ2 2 512 n0 0 0 c = 0) :
    Calls Tryz.prog 219 #[.pointer (some ⟨p, 0, none⟩), .int .i64 0, cellV y] w fun e w' => e = .returned (.int .i64 0) ∧ NdP2 w0 w' L p 512 2 (insS2 2 512 n0 0 0 c) := by
  subst hy
  have h := NdIns2 hP nd_I2 (.inl rfl) (by omega) y (XIn.own h1 h2 hr (by omega) (by omega)) 0 (by unfold i64r; omega)
  rw [hz] at h
  exact h
end
theorem aw_open {w0 w : World} {L : List Ent} {v : Value} {s : KP} (hS : Sep w0 w (bytesE v (laidF 2 s.l 512) :: L)) (hI : NdI1 2 512 s) :
    Calls Tryz.prog 12 #[v] w fun e w' => ∃ p, e = .returned (.tuple #[ndV1 p, .int .i64 0]) ∧ NdP1 w0 w' (bytesE v (laidF 2 s.l 512) :: L) p 512 2 ⟨s.l, [], 0⟩ := by
  have hll : (laidF 2 s.l 512).length = 512 := laidF_length hI.size
  have ho : OwB w 0 v (laidF 2 s.l 512) := hS.head
  have hpl : isPln (laidF 2 s.l 512) 2 s.l := ⟨by rw [hll]; decide, by decide, by rw [hll]; exact Wk.enc hI, by rw [hll]⟩
  have he : egB (laidF 2 s.l 512) = 1 := by
    unfold egB
    have h : (laidF 2 s.l 512).getD 1 0 = 1 := by unfold laidF preF; rfl
    rw [h]; rfl
  refine (NdOpn1 hS ho.rd (by omega) he).mono ?_
  rintro e w' (⟨p, kind, l, hp, rfl, hN⟩ | ⟨hn, -, -⟩)
  · obtain ⟨h1, h2⟩ := isPln_parse hp
    obtain ⟨h3, h4⟩ := isPln_parse hpl
    rw [h1] at h3
    injection h3 with h3
    subst h3
    rw [h4] at h2
    subst h2
    rw [hll] at hN
    exact ⟨p, rfl, hN⟩
  · exact absurd hpl (hn _ _)
theorem NdP1.drop2 {w0 w : World} {a b c d : Ent} {p P : Nat} {kind : Int} {s : KP} (h : NdP1 w0 w ([a, b, c] ++ [d]) p P kind s) : NdP1 w0 w (c :: [d]) p P kind s := by
  obtain ⟨E, hS, B⟩ := h.sep
  exact B _ _ (Sep.pick (L := [_, _, _, _]) [0, 3] (by decide) rfl hS)
theorem NdP1.drop2' {w0 w : World} {a b c d : Ent} {p P : Nat} {kind : Int} {s : KP} (h : NdP1 w0 w ([a, b] ++ [c, d]) p P kind s) : NdP1 w0 w (c :: [d]) p P kind s := by
  obtain ⟨E, hS, B⟩ := h.sep
  exact B _ _ (Sep.pick (L := [_, _, _, _]) [0, 3] (by decide) rfl hS)
theorem NdP2.drop2 {w0 w : World} {a b c d : Ent} {p P : Nat} {kind : Int} {s : KP} (h : NdP2 w0 w ([a, b, c] ++ [d]) p P kind s) : NdP2 w0 w (c :: [d]) p P kind s := by
  obtain ⟨E, hS, B⟩ := NdP2.sep h
  exact B _ _ (Sep.pick (L := [_, _, _, _]) [0, 3] (by decide) rfl hS)
set_option maxRecDepth 100000 in
set_option maxHeartbeats 8000000 in
theorem nawake_any (w : World) : Calls Tryz.prog 7 #[] w fun e w' => e = .returned (.bool true) ∧ Below w.heap.size w w' := by
  have kc := fun (w : World) (C : Array Value) (n c g : Nat) (hg : g = w.heap.size) => conv_id w C n c g hg
  have hmf : ∀ (fn : Fn) (first cap : Array Value) (w : World), (Instr.makeFunc fn first cap).run Tryz.prog w = .ok (.func fn first cap) w := fun _ _ _ _ => rfl
  have i1 := im1_insert
  have i2 := im1_nil
  have i3 := im1_find
  have i4 := im1_bytes
  have i5 := im1_used
  have i6 := im1_len
  have i7 := im2_insert
  have i8 := im2_nil
  have i9 := im2_len
  go_enter Tryz.func7, Tryz.ntmps7
  go_upto_region 2 with (first
    | (go_at_call 8; (with_reducible refine (NdNew_no 3 2 512 (by decide) (by decide) _).mono ?_); rintro e w1 ⟨rfl, hw1⟩)
    | fail)
  have hn1 := NdNewOk1 (kind := 2) (P := 512) ((Sep.start w).below hw1) (by decide) (by decide)
  rw [show ((512 : Nat) : Int) = 512 from rfl] at hn1
  go_upto_region 3 with (first
    | (go_at_call 8; (with_reducible refine hn1.mono ?_); rintro e w2 ⟨p, rfl, hP⟩)
    | fail)
  obtain ⟨E1, hS2, B1⟩ := hP.sep
  have hn2 := NdNewOk2 (kind := 2) (P := 512) hS2 (by decide) (by decide)
  rw [show ((512 : Nat) : Int) = 512 from rfl] at hn2
  clear hn1 hP hw1
  go_upto_region 4 with (first
    | (go_at_call 8; (with_reducible refine hn2.mono ?_); rintro e w3 ⟨q, rfl, hQ⟩)
    | fail)
  obtain ⟨E2, hS3, B2⟩ := hQ.sep
  have hv := value_sep hS3.drew [98] [120] (by simp) (by simp)
  have hI1 := fun (W : World) (y : CV) (hy : y.c = nB) (h : Sep w W (bytesE y.kv y.c.key :: bytesE y.vv y.c.val :: E2 :: [E1, oldE w])) => aw_ins (s := n0) (B1 _ _ (h.sw [_, _, _])) nd_I1 hy (by simp) (by simp) nB_r (by decide) (by decide) nd_z1
  have HI1 := Lib.hid hI1
  have hI2 := fun (W : World) (M : List Ent) (y : CV) (hy : y.c = nA) (h1 : bytesE y.kv y.c.key ∈ M) (h2 : bytesE y.vv y.c.val ∈ M) (h : Sep w W (E2 :: M)) => aw_ins2 (B2 _ _ h) hy h1 h2 nA_r (by decide) (by decide) nd_k1
  have HI2 := Lib.hid hI2
  clear hI1 hI2
  clear hn2 hQ hS2 B1 B2
  go_upto_region 6 with (fail)
  go_cut [7] (fun z wx => z = .int .i64 0 ∧ NdP1 w wx (E2 :: [oldE w]) p 512 2 (insS1 2 512 n0 0 0 nB))
  case first =>
    go_region_held3 (fun _ => True) (exact trivial) (first
      | (go_at_call 37; (with_reducible refine hv.mono ?_); rintro e w4 ⟨y, rfl, hy0, hS4⟩; have hy : y.c = nB := hy0)
      | (go_at_call 201; (with_reducible refine (HI1.out _ y hy hS4).mono ?_); rintro e w5 ⟨rfl, hP5⟩; have hP6 := NdP1.drop2 hP5)
      | fail)
    all_goals
      go_wp2_with fail
      go_meet
      exact ⟨rfl, hP6⟩
  case rest =>
  obtain ⟨rfl, hP5⟩ := hcut
  obtain ⟨E3, hS5, B3⟩ := hP5.sep
  have hv := value_sep hS5.drew [97] [121] (by simp) (by simp)
  have hI3 := fun (W : World) (y : CV) (hy : y.c = nA) (h : Sep w W (bytesE y.kv y.c.key :: bytesE y.vv y.c.val :: E3 :: [E2, oldE w])) => aw_ins (s := insS1 2 512 n0 0 0 nB) (B3 _ _ (h.sw [_, _])) (nd_I1.ins 0 (by omega) nB) hy (by simp) (by simp) nA_r (by decide) (by decide) nd_z2
  have HI3 := Lib.hid hI3
  clear hP5 B3 HI1 hS3 hI3
  go_upto_region 7 with (fail)
  go_cut [8] (fun z wx => z = .int .i64 0 ∧ NdP1 w wx (E2 :: [oldE w]) p 512 2 (insS1 2 512 (insS1 2 512 n0 0 0 nB) 0 0 nA))
  case first =>
    go_region_held3 (fun _ => True) (exact trivial) (first
      | (go_at_call 37; (with_reducible refine hv.mono ?_); rintro e w6 ⟨y2, rfl, hy0, hS7⟩; have hy2 : y2.c = nA := hy0)
      | (go_at_call 201; (with_reducible refine (HI3.out _ y2 hy2 hS7).mono ?_); rintro e w7 ⟨rfl, hP7⟩; have hP8 := NdP1.drop2' hP7)
      | fail)
    all_goals
      go_wp2_with fail
      go_meet
      exact ⟨rfl, hP8⟩
  case rest =>
  obtain ⟨rfl, hP7⟩ := hcut
  have hI7 : NdI1 2 512 (insS1 2 512 (insS1 2 512 n0 0 0 nB) 0 0 nA) := (nd_I1.ins 0 (by omega) nB).ins 0 (by omega) nA
  have hl7 := nd_s2
  have hu7 := nd_usd
  generalize insS1 2 512 (insS1 2 512 n0 0 0 nB) 0 0 nA = s2 at *
  obtain ⟨E4, hS9, B4⟩ := hP7.sep
  have HB4 := Lib.hid B4
  have HI7 := Lib.hid hI7
  have HL7 := Lib.hid hl7
  have HU7 := Lib.hid hu7
  have hS10 := hS9.lit [98] #[.int .u8 98] 5 (1, 2) 1 rfl rfl (by decide)
  have hfi := NdFnd1 (B4 _ _ (hS10.sw1)) hI7 (by omega) (.slice (some ⟨wc.heap.size, 0, none⟩) 1 1) [98] (show RdB _ _ _ from hS10.head)
  rw [hl7, nd_find.1, nd_find.2, show ((1 : Nat) : Int) = 1 from rfl] at hfi
  clear hP7 hS9 B4 HI3 hv hS5 hI7 hl7 hu7
  go_upto_region 9 with (first
    | (go_at_call 200; (with_reducible refine hfi.mono ?_); rintro e w8 ⟨rfl, hw8⟩)
    | fail)
  have hS11 := (hS10.below hw8).tail
  have hv := value_sep hS11.drew [97] [121] (by simp) (by simp)
  clear hS10 hfi hw8
  go_upto_region 9 with (fail)
  go_cut [11] (fun z wx => z = .int .i64 0 ∧ NdP2 w wx (E4 :: [oldE w]) q 512 2 (insS2 2 512 n0 0 0 nA))
  case first =>
    go_region_held3 (fun _ => True) (exact trivial) (first
      | (go_at_call 37; (with_reducible refine hv.mono ?_); rintro e w9 ⟨y3, rfl, hy0, hS12⟩; have hy3 : y3.c = nA := hy0)
      | (go_at_call 219; (with_reducible refine (HI2.out _ _ y3 hy3 (by simp) (by simp) (hS12.sw [_, _, _])).mono ?_); rintro e w10 ⟨rfl, hQ10⟩; have hQ11 := NdP2.drop2 hQ10)
      | fail)
    all_goals
      go_wp2_with fail
      go_meet
      exact ⟨rfl, hQ11⟩
  case rest =>
  obtain ⟨rfl, hQ10⟩ := hcut
  obtain ⟨E5, hS13, B5⟩ := hQ10.sep
  have HB5 := Lib.hid B5
  have hby := NdByt1 (HB4.out _ _ hS13.sw1) HI7.out (by decide) (by decide)
  clear hv hS11 hQ10 B5 HI2 hS13
  go_upto_region 11 with (first
    | (go_at_call 198; (with_reducible refine hby.mono ?_); rintro e w11 ⟨bv, rfl, hP11⟩; obtain ⟨E6, hS14, B6⟩ := hP11.sep)
    | (go_at_call 12; (with_reducible refine (aw_open (hS14.sw1) HI7.out).mono ?_); rintro e w12 ⟨o, rfl, hO12⟩)
    | fail)
  obtain ⟨E7, hS15, B7⟩ := hO12.sep
  have hS16 : Sep w w12 (E7 :: E6 :: E5 :: [oldE w]) := Sep.pick (L := [_, _, _, _, _]) [0, 2, 3, 4] (by decide) rfl hS15
  have hus := NdUsd1 (B6 _ _ hS16.sw1)
  have hl1 := NdLen1 (B7 _ _ hS16)
  have hl2 := NdLen2 (HB5.out _ _ hS16.sw2)
  rw [HU7.out, show ((26 : Nat) : Int) = 26 from rfl] at hus
  rw [HL7.out, show (([nA, nB] : List PC).length : Int) = 2 from rfl] at hl1
  rw [nd_kl, show ((1 : Nat) : Int) = 1 from rfl] at hl2
  have hmk := fun W => NdMostKey_ok 512 (by decide) W
  have hmv := fun W => NdMostValue_ok 512 (by decide) W
  rw [show ((512 : Nat) : Int) = 512 from rfl, show ((512 / 8 : Nat) : Int) = 64 from rfl] at hmk
  rw [show ((512 : Nat) : Int) = 512 from rfl, show ((512 / 16 * 3 : Nat) : Int) = 96 from rfl] at hmv
  have hB := hS16.belowOld (_v := w) (by simp)
  clear hby hP11 hS14 B6 hO12 hS15 B7 hS16 HB4 HB5 HL7 HU7 HI7
  go_wp2_with (first
    | (go_at_call 206; (with_reducible refine hus.mono ?_); rintro e w13 ⟨rfl, rfl⟩)
    | (go_at_call 203; (with_reducible refine hl1.mono ?_); rintro e w13 ⟨rfl, rfl⟩)
    | (go_at_call 221; (with_reducible refine hl2.mono ?_); rintro e w13 ⟨rfl, rfl⟩)
    | (go_at_call 33; (with_reducible refine (hmk _).mono ?_); rintro e w13 ⟨rfl, rfl⟩)
    | (go_at_call 35; (with_reducible refine (hmv _).mono ?_); rintro e w13 ⟨rfl, rfl⟩)
    | fail)
  go_ret
  exact ⟨rfl, hB⟩
end Go.Proofs.YtfcnkpofcekmgaaGreat

-- A byte of a piece is set.
namespace Go.Proofs.YtfcnkpofcekmgaaGreat
open Go.RowKit
theorem Sep.setB {w0 w : World} {L : List Ent} {g m c : Nat} {l : List UInt8} (h : Sep w0 w (bytesE (.slice (some ⟨g, 0, none⟩) m c) l :: L)) (j : Nat) (x : UInt8) : Sep w0 (w.setCell ⟨g, j, none⟩ (.int .u8 (x.toNat : Int))) (bytesE (.slice (some ⟨g, 0, none⟩) m c) (l.set j x) :: L) :=
  h.upd (Turn.of_grown (grownBy_setCell w ⟨g, j, none⟩ _) (fun k e => e)) (OwB.set (show OwB w 0 _ l from h.head) j x) (fun b hb => ⟨.inl hb, by have h' := h.lt b hb; simpa using h'⟩)
end Go.Proofs.YtfcnkpofcekmgaaGreat

-- espalierlaw08.NodeReads: the walk.
namespace Go.Proofs.YtfcnkpofcekmgaaGreat
open Go.RowKit
theorem Sep.book6 {w0 w : World} {L : List Ent} (h : Sep w0 w L) : Sep w0 (w.alloc (.cells #[.slice none 0 0, .slice none 0 0] 40)) (bookTE 40 w.heap.size [.slice none 0 0] (.slice none 0 0) [] :: listsE (.slice none 0 0) [] :: L) := by
  have h1 := h.alloc 40 [.slice none 0 0, .slice none 0 0]
  have h2 : Sep w0 _ (bookTE 40 w.heap.size [.slice none 0 0] (.slice none 0 0) [] :: L) := h1.weak (fun hp => ⟨hp, Own.nil _ _ _ _, fun j u hj => by simp at hj, fun i j u u' _ hi => by simp at hi⟩) (fun g hg => by
    rcases hg with rfl | hg | ⟨j, u, hj, _⟩
    · rfl
    · cases hg
    · simp at hj)
  refine Sep.sw1 (h2.cons (E := listsE (.slice none 0 0) []) ⟨Own.nil _ _ _ _, fun j u hj => by simp at hj, fun i j u u' _ hi => by simp at hi⟩ (fun g hg => ?_) (fun A _ g hg => ?_))
  · rcases hg with hg | ⟨j, u, hj, _⟩
    · cases hg
    · simp at hj
  · rcases hg with hg | ⟨j, u, hj, _⟩
    · cases hg
    · simp at hj
def behind6 : List UInt8 := [98, 101, 104, 105, 110, 100]
theorem beh_add (l : List UInt8) (hl : l.length ≤ 140737488351232) (w : World) : (Op.stringOp .add ⟨l.toArray⟩ ⟨#[98, 101, 104, 105, 110, 100]⟩).run Tryz.prog w = .ok (.string ⟨(l ++ behind6).toArray⟩) w := by
  have h1 : (⟨l.toArray⟩ : ByteArray).size = l.length := by show l.toArray.size = _; simp
  have h2 : (⟨#[98, 101, 104, 105, 110, 100]⟩ : ByteArray).size = 6 := rfl
  have h3 : (⟨l.toArray⟩ : ByteArray) ++ ⟨#[98, 101, 104, 105, 110, 100]⟩ = ⟨(l ++ behind6).toArray⟩ := by
    rw [ByteArray.mk_append_mk]
    simp [behind6]
  rw [run_string_add_sum w _ _ (by rw [h1, h2]; omega), h3]
theorem rd_beh {w : World} {g n cap : Nat} {b : List UInt8} (h : OwB w 0 (.slice (some ⟨g, 0, none⟩) (n + 6) cap) (b ++ behind6)) (hn : b.length = n) : RdB w (.slice (some ⟨g, 0, none⟩) n cap) b := by
  have h1 := (OwB.take h (m := n) (by omega)).rd
  rw [← hn, List.take_left] at h1
  rw [← hn]; exact h1
theorem OwB.room8 {w : World} {b n c : Nat} {A : Option Addr} {l : List UInt8} (h : OwB w b (.slice A n c) l) : n ≤ c ∧ c ≤ 9223372036854775807 := by
  rcases h.form with ⟨h, _⟩ | ⟨g', cap', h, _, _, h1, h2⟩
  · injection h with _ h3 h4
    omega
  · injection h with _ h3 h4
    simp only [maxLen] at h2
    omega
theorem pairs_small {m : List CV} {l : List PC} {P : Nat} (hm : pcs m = l) (h : ∀ c ∈ l, OkC P c) (hP : P ≤ 65536) : ∀ p ∈ pairsC m, p.2.length ≤ 1000000000 := fun p hp => by
  obtain ⟨x, hx, hp⟩ := List.mem_flatMap.1 hp
  have hk := okc_key (h x.c (by rw [← hm]; exact List.mem_map_of_mem hx)) hP
  simp only [List.mem_cons, List.not_mem_nil, or_false] at hp
  rcases hp with rfl | rfl <;> simp only <;> omega
theorem pln_inv {b : List UInt8} {kind : Int} {l : List PC} (h : isPln b kind l) : Wk kind b.length l := by
  obtain ⟨-, -, h3, -⟩ := h
  obtain ⟨h1, h2⟩ := encE_zero.1 h3
  exact ⟨(scan_sorted h1).2, fun c hc => scan_may h1 c hc, h2⟩
theorem opI1 {b : List UInt8} {kind : Int} {l : List PC} (h : isPln b kind l) : NdI1 kind b.length (opS1 kind l) := pln_inv h
theorem opI2 {b : List UInt8} {kind : Int} {l : List PC} (h : isPk b kind l) : NdI2 kind b.length (opS2 kind l) := open_inv h
set_option maxRecDepth 100000 in
set_option maxHeartbeats 32000000 in
theorem nreads_1 (v : Value) (b : List UInt8) (w : World) (hv : RdB w v b) (hbl : b.length ≤ 140737488351232) (kind : Int) (lp : List PC) (h2 : 2 ≤ b.length) (he : egB b = 1) (hp : isPln b kind lp) :
    Calls Tryz.prog 5 #[v] w fun e w' => e = .returned (.bool true) ∧ Below w.heap.size w w' := by
  have hI := opI1 hp
  have hP := (isPowB_range hp.1).2
  have HI := Lib.hid hI
  have HP := Lib.hid hp
  have H2 := Lib.hid h2
  have HE0 := Lib.hid he
  have hV0 := hv
  obtain ⟨n, hn⟩ : ∃ n, b.length = n := ⟨_, rfl⟩
  have HN := Lib.hid hn
  obtain ⟨V, vc, rfl, hm⟩ := hv.form
  rw [hn] at hbl hV0 hm hP ⊢
  have HV0 := Lib.hid hV0
  clear hI hp h2 he hv hV0 hn hm
  go_enter Tryz.func5, Tryz.ntmps5
  go_upto_region 4 with (first | (go_at_call 7; (with_reducible refine (nawake_any _).mono ?_); rintro e w1 ⟨rfl, hw1⟩) | fail)
  have HV := Lib.hid (HV0.out.below hw1 (Nat.le_refl _))
  have HW1 := Lib.hid hw1
  have q1 := run_B_string HV.out
  obtain ⟨c2, w2, q2, ho2, hb2, hs2⟩ := run_string_B w1 ⟨b.toArray⟩ (by show b.toArray.size ≤ _; simp [maxLen]; have := HN.out; omega)
  have hsz : (⟨b.toArray⟩ : ByteArray).size = n := by show b.toArray.size = _; simp [HN.out]
  rw [hsz] at q2 ho2
  have ho2' : OwB w2 w1.heap.size (.slice (some ⟨w1.heap.size, 0, none⟩) n c2) b := ho2
  have hl6 : b.length + 6 ≤ 140737488355328 := by rw [HN.out]; omega
  have HL6 := Lib.hid hl6
  clear hw1 hsz ho2 hl6
  go_upto_region 7 with (first
    | (at_builtin; refine wp_append_S rfl (.tmp 35) _ rfl w1.heap.size _ b rfl ho2' ⟨#[98, 101, 104, 105, 110, 100]⟩ rfl HL6.out hb2.size ?_; intro v3 w3 ho3 hg3 hbk3; obtain ⟨g3, c3, rfl⟩ := ho3.some' (n := n + 6) (by simp [HN.out]) (by omega); have hc3 := ho3.room8; have hc4 : (n : Int) ≤ (c3 : Int) := by omega)
    | fail)
  have ho3' : OwB w3 w1.heap.size (.slice (some ⟨g3, 0, none⟩) (n + 6) c3) (b ++ behind6) := ho3
  have hb3 : Below w1.heap.size w1 w3 := hb2.grown hg3 hb2.size (fun k hk => Nat.le_of_eq (Option.some.inj hk))
  have hS3 := (Sep.start w1).bytes hb3 ho3' (Nat.le_refl _)
  have hO := NOpnY1 H2.out HE0.out HP.out hS3 (rd_beh hS3.head HN.out)
  rw [HN.out] at hO
  clear q1 q2 ho2' hb2 hs2 ho3 hg3 hbk3 hc3 hc4 ho3' hb3 hS3
  go_upto_region 8 with (first
    | (go_at_call 12; (with_reducible refine hO.mono ?_); rintro e w4 ⟨p, rfl, hN⟩)
    | fail)
  obtain ⟨E, hS4, B⟩ := NdP1.sep hN
  have HE := Lib.hid B
  have hD := NDecY1 H2.out HE0.out HP.out hS4 (rd_beh (hS4.of_mem (E := bytesE (.slice (some ⟨g3, 0, none⟩) (n + 6) c3) (b ++ behind6)) (by simp)) HN.out)
  clear hO hN B
  go_upto_region 9 with (first
    | (go_at_call 21; (with_reducible refine hD.mono ?_); rintro e w5 ⟨A1, d1, m1, rfl, hm1, hr1, hS5⟩)
    | fail)
  have HM1 := Lib.hid hm1
  have hD := NDecY1 H2.out HE0.out HP.out hS5 (rd_beh (hS5.of_mem (E := bytesE (.slice (some ⟨g3, 0, none⟩) (n + 6) c3) (b ++ behind6)) (by simp)) HN.out)
  clear hS4 hm1
  go_upto_region 10 with (first
    | (go_at_call 21; (with_reducible refine hD.mono ?_); rintro e w6 ⟨A2, d2, m2, rfl, hm2, hr2, hS6⟩)
    | fail)
  have HM2 := Lib.hid hm2
  have q1 := run_B_string (hS6.rd (v := w1) (by simp) HV.out)
  have q2 := run_B_string (show OwB w6 0 (.slice (some ⟨g3, 0, none⟩) (n + 6) c3) (b ++ behind6) from hS6.of_mem (E := bytesE (.slice (some ⟨g3, 0, none⟩) (n + 6) c3) (b ++ behind6)) (by simp)).rd
  have q3 := beh_add b (by rw [HN.out]; exact hbl) w6
  clear hD hS5 hm2
  go_upto_region 13 with (fail)
  have hS7 : Sep w1 w6 (bytesE (.slice (some ⟨g3, 0, none⟩) (n + 6) c3) (b ++ behind6) :: [csE (.slice A2 m2.length d2) m2, csE (.slice A1 m1.length d1) m1, E, oldE w1]) := hS6.sw [_, _, _]
  have HBL : Hid ((b ++ behind6).length = n + 6) := Lib.hid (by rw [List.length_append, HN.out]; rfl)
  clear q1 q2 q3 hS6
  go_loopw [17] (fun iv wr => ∃ (i : Nat) (x : List UInt8), i ≤ n + 6 ∧ iv = .int .i64 (i : Int) ∧ Hid (x.length = n + 6) ∧ Sep w1 wr (bytesE (.slice (some ⟨g3, 0, none⟩) (n + 6) c3) x :: [csE (.slice A2 m2.length d2) m2, csE (.slice A1 m1.length d1) m1, E, oldE w1])) (fun iv _ => n + 6 - (intOf iv).toNat)
  case atStart => exact ⟨0, _, Nat.zero_le _, rfl, HBL, hS7⟩
  case round =>
    clear hS7
    obtain ⟨i, x, hi, rfl, HX, hS⟩ := hrel
    by_cases hlt : i < n + 6
    · have ik : (i : Int) < (n : Int) + 6 := by omega
      have hix : i < x.length := by rw [HX.out]; exact hlt
      have hox : OwB wr 0 (.slice (some ⟨g3, 0, none⟩) (n + 6) c3) x := hS.head
      have y0 := hox.cell hix
      have f0 := hox.frozen hix
      have HS2 := Lib.hid (hS.setB i 77)
      have HX2 : Hid ((x.set i 77).length = n + 6) := Lib.hid (by rw [List.length_set]; exact HX.out)
      clear hS hox
      go_wp2_with fail
      go_roundw
      case rel => exact ⟨i + 1, x.set i 77, by omega, by go_num, HX2, HS2.out⟩
      case measure => simp [intOf]; omega
    · obtain rfl : i = n + 6 := by omega
      obtain ⟨w7, rfl⟩ : ∃ w7, w7 = wr := ⟨_, rfl⟩
      have hS7 := hS.tail
      have hO := RNOpnY1 H2.out HE0.out HP.out hS7 (hS7.rd (v := w1) (by simp) HV.out)
      rw [HN.out] at hO
      clear hS
      go_upto_region 17 with (first
        | (go_at_call 13; (with_reducible refine hO.mono ?_); rintro e w8 ⟨y, rfl, hN⟩)
        | fail)
      obtain ⟨R, hS8, B⟩ := RnP1.sep hN
      have HR := Lib.hid B
      have hD := RNDecY1 H2.out HE0.out HP.out hS8 (hS8.rd (v := w1) (by simp) HV.out)
      clear hO hN B hS7
      go_upto_region 18 with (first
        | (go_at_call 22; (with_reducible refine hD.mono ?_); rintro e w9 ⟨A3, d3, m3, rfl, hm3, hr3, hS9⟩)
        | fail)
      have HM3 := Lib.hid hm3
      have hs1 := SameCells_eq _ _ m1 m3 w9 (csE_rd (hS9.of_mem (E := csE (.slice A1 m1.length d1) m1) (by simp)) hr1) (csE_rd (hS9.of_mem (E := csE (.slice A3 m3.length d3) m3) (by simp)) hr3) (HM1.out.trans HM3.out.symm)
      clear hD hS8 hm3
      go_upto_region 19 with (first
        | (go_at_call 20; (with_reducible refine hs1.mono ?_); rintro e w10 ⟨rfl, hw10⟩)
        | fail)
      have hS10 := hS9.below hw10
      have hs2 := SameCells_eq _ _ m2 m3 w10 (csE_rd (hS10.of_mem (E := csE (.slice A2 m2.length d2) m2) (by simp)) hr2) (csE_rd (hS10.of_mem (E := csE (.slice A3 m3.length d3) m3) (by simp)) hr3) (HM2.out.trans HM3.out.symm)
      clear hs1 hS9 hw10
      go_upto_region 20 with (first
        | (go_at_call 20; (with_reducible refine hs2.mono ?_); rintro e w11 ⟨rfl, hw11⟩)
        | fail)
      have hS11 := (hS10.below hw11).book6
      have hl0 := HI.out.len (show b.length ≤ 65536 by rw [HN.out]; omega)
      have hl1 : m1.length ≤ 32768 := by rw [← pcs_length, HM1.out]; exact hl0
      have hl2 : m2.length ≤ 32768 := by rw [← pcs_length, HM2.out]; exact hl0
      clear hs2 hS10 hw11 hl0
      go_upto_region 23 with (fail)
      generalize hwb : w11.alloc (.cells #[.slice none 0 0, .slice none 0 0] 40) = w12 at *
      generalize w11.heap.size = bb at *
      clear hwb
      have hT := TakeAllC_sep (Sep.pick (L := [_, _, _, _, _, _]) [0, 1, 5, 3, 4] (by decide) rfl hS11 : Sep w1 w12 (bookTE 40 bb [.slice none 0 0] (.slice none 0 0) [] :: listsE (.slice none 0 0) [] :: csE (.slice A1 m1.length d1) m1 :: R :: csE (.slice A2 m2.length d2) m2 :: [E, oldE w1])) (by simp only [List.length_nil]; omega) (by simp)
      clear hS11
      go_upto_region 24 with (first
        | (go_at_call 23; (with_reducible refine hT.mono ?_); rintro e w13 ⟨⟨_, rfl⟩, bv, lv, hS13⟩)
        | fail)
      have hT := TakeAllC_sep (hS13.sw [_, _, _] |>.back [_, _]) (by simp only [List.nil_append, pairsC_length]; omega) (by simp)
      clear hS13
      go_upto_region 25 with (first
        | (go_at_call 23; (with_reducible refine hT.mono ?_); rintro e w14 ⟨⟨_, rfl⟩, bv2, lv2, hS14⟩)
        | fail)
      have hA := alike_1 (Sep.pick (L := [_, _, _, _]) [3, 2, 0, 1] (by decide) rfl hS14) HE HR (by rw [← HN.out]; exact HI.out) (by omega) (by simp only [List.nil_append, List.length_append, pairsC_length]; omega) (by simp)
      clear hT hS14
      go_upto_region 27 with (first
        | (go_at_call 15; (with_reducible refine hA.mono ?_); rintro e w15 ⟨rfl, E5, R5, bv5, lv5, u5, m5, hm5, hS15, HE5, HR5⟩)
        | fail)
      have hpw : isPowB (n : Int) = true := by rw [← HN.out]; exact HP.out.1
      have hlb : laidF kind (opS1 kind lp).l n = b := by
        rw [← HN.out]
        exact HP.out.2.2.2
      have hby := NdByt1 (HE5.out _ _ hS15.drew) (by rw [← HN.out]; exact HI.out) HP.out.2.1 hpw
      rw [hlb] at hby
      have i4 := im1_bytes
      have r0 := run_B_string (hS15.drew.rd (v := w1) (by simp) HV.out)
      have HB5 := Lib.hid (Sep.pick (L := [_, _, _, _]) [2, 3] (by decide) rfl hS15)
      have HM5 := Lib.hid hm5
      have hl5 : m5.length ≤ 32768 := by rw [← pcs_length, hm5]; exact HI.out.len (show b.length ≤ 65536 by rw [HN.out]; omega)
      clear hA hpw hlb hm5 hS15
      go_region_law
        (first
          | (go_simp; go_at_call 198; (with_reducible refine hby.mono ?_); rintro e w16 ⟨v16, rfl, hN16⟩; obtain ⟨E6, hS16, B6⟩ := NdP1.sep hN16; have r1 := run_B_string (hS16.rd (v := w1) (by simp) HV.out); have ho16 : OwB w16 0 v16 b := hS16.tail.head; have r2 := run_B_string ho16.rd; obtain ⟨A6, c6, rfl⟩ := Own.slice ho16)
          | fail)
      all_goals
        have hS17 : Sep w1 w16 (bookTE 40 bb [lv5] bv5 _ :: listsE lv5 _ :: [oldE w1]) := Sep.pick (L := [_, _, _, _, _]) [3, 4] (by decide) rfl hS16
        have hOw := Owned6_sep hS17 (by simp only [List.nil_append, List.length_append, pairsC_length]; omega) (fun q hq => by
          simp only [List.nil_append, List.mem_append] at hq
          have hb6 : b.length ≤ 65536 := by rw [HN.out]; omega
          rcases hq with (hq | hq) | hq
          · exact pairs_small HM1.out (HI.out.ok) hb6 q hq
          · exact pairs_small HM2.out (HI.out.ok) hb6 q hq
          · exact pairs_small HM5.out (HI.out.ok) hb6 q hq) (by simp) (fun q hq => by
          simp only [List.nil_append, List.mem_append, List.mem_singleton] at hq
          rcases hq with (rfl | rfl) | rfl <;> simp only <;> omega)
        clear hS16 hN16 B6 ho16 r0 r1 r2 hS17 hby
        go_wp2_with (first
          | (go_at_call 16; (with_reducible refine hOw.mono ?_); rintro e w17 ⟨rfl, hS18⟩)
          | fail)
        go_ret
        exact ⟨rfl, HW1.out.trans ((hS18.belowOld (_v := w1) (by simp)).mono HW1.out.size)⟩
set_option maxRecDepth 100000 in
set_option maxHeartbeats 32000000 in
theorem nreads_2 (v : Value) (b : List UInt8) (w : World) (hv : RdB w v b) (hbl : b.length ≤ 140737488351232) (kind : Int) (lp : List PC) (h2 : 2 ≤ b.length) (he : egB b = 2) (hp : isPk b kind lp) :
    Calls Tryz.prog 5 #[v] w fun e w' => e = .returned (.bool true) ∧ Below w.heap.size w w' := by
  have hI := opI2 hp
  have hP := (isPowB_range hp.1).2
  have HI := Lib.hid hI
  have HP := Lib.hid hp
  have H2 := Lib.hid h2
  have HE0 := Lib.hid he
  have hV0 := hv
  obtain ⟨n, hn⟩ : ∃ n, b.length = n := ⟨_, rfl⟩
  have HN := Lib.hid hn
  obtain ⟨V, vc, rfl, hm⟩ := hv.form
  rw [hn] at hbl hV0 hm hP ⊢
  have HV0 := Lib.hid hV0
  clear hI hp h2 he hv hV0 hn hm
  go_enter Tryz.func5, Tryz.ntmps5
  go_upto_region 4 with (first | (go_at_call 7; (with_reducible refine (nawake_any _).mono ?_); rintro e w1 ⟨rfl, hw1⟩) | fail)
  have HV := Lib.hid (HV0.out.below hw1 (Nat.le_refl _))
  have HW1 := Lib.hid hw1
  have q1 := run_B_string HV.out
  obtain ⟨c2, w2, q2, ho2, hb2, hs2⟩ := run_string_B w1 ⟨b.toArray⟩ (by show b.toArray.size ≤ _; simp [maxLen]; have := HN.out; omega)
  have hsz : (⟨b.toArray⟩ : ByteArray).size = n := by show b.toArray.size = _; simp [HN.out]
  rw [hsz] at q2 ho2
  have ho2' : OwB w2 w1.heap.size (.slice (some ⟨w1.heap.size, 0, none⟩) n c2) b := ho2
  have hl6 : b.length + 6 ≤ 140737488355328 := by rw [HN.out]; omega
  have HL6 := Lib.hid hl6
  clear hw1 hsz ho2 hl6
  go_upto_region 7 with (first
    | (at_builtin; refine wp_append_S rfl (.tmp 35) _ rfl w1.heap.size _ b rfl ho2' ⟨#[98, 101, 104, 105, 110, 100]⟩ rfl HL6.out hb2.size ?_; intro v3 w3 ho3 hg3 hbk3; obtain ⟨g3, c3, rfl⟩ := ho3.some' (n := n + 6) (by simp [HN.out]) (by omega); have hc3 := ho3.room8; have hc4 : (n : Int) ≤ (c3 : Int) := by omega)
    | fail)
  have ho3' : OwB w3 w1.heap.size (.slice (some ⟨g3, 0, none⟩) (n + 6) c3) (b ++ behind6) := ho3
  have hb3 : Below w1.heap.size w1 w3 := hb2.grown hg3 hb2.size (fun k hk => Nat.le_of_eq (Option.some.inj hk))
  have hS3 := (Sep.start w1).bytes hb3 ho3' (Nat.le_refl _)
  have hO := NOpnY2 H2.out HE0.out HP.out hS3 (rd_beh hS3.head HN.out)
  rw [HN.out] at hO
  clear q1 q2 ho2' hb2 hs2 ho3 hg3 hbk3 hc3 hc4 ho3' hb3 hS3
  go_upto_region 8 with (first
    | (go_at_call 12; (with_reducible refine hO.mono ?_); rintro e w4 ⟨p, rfl, hN⟩)
    | fail)
  obtain ⟨E, hS4, B⟩ := NdP2.sep hN
  have HE := Lib.hid B
  have hD := NDecY2 H2.out HE0.out HP.out hS4 (rd_beh (hS4.of_mem (E := bytesE (.slice (some ⟨g3, 0, none⟩) (n + 6) c3) (b ++ behind6)) (by simp)) HN.out)
  clear hO hN B
  go_upto_region 9 with (first
    | (go_at_call 21; (with_reducible refine hD.mono ?_); rintro e w5 ⟨A1, d1, m1, rfl, hm1, hr1, hS5⟩)
    | fail)
  have HM1 := Lib.hid hm1
  have hD := NDecY2 H2.out HE0.out HP.out hS5 (rd_beh (hS5.of_mem (E := bytesE (.slice (some ⟨g3, 0, none⟩) (n + 6) c3) (b ++ behind6)) (by simp)) HN.out)
  clear hS4 hm1
  go_upto_region 10 with (first
    | (go_at_call 21; (with_reducible refine hD.mono ?_); rintro e w6 ⟨A2, d2, m2, rfl, hm2, hr2, hS6⟩)
    | fail)
  have HM2 := Lib.hid hm2
  have q1 := run_B_string (hS6.rd (v := w1) (by simp) HV.out)
  have q2 := run_B_string (show OwB w6 0 (.slice (some ⟨g3, 0, none⟩) (n + 6) c3) (b ++ behind6) from hS6.of_mem (E := bytesE (.slice (some ⟨g3, 0, none⟩) (n + 6) c3) (b ++ behind6)) (by simp)).rd
  have q3 := beh_add b (by rw [HN.out]; exact hbl) w6
  clear hD hS5 hm2
  go_upto_region 13 with (fail)
  have hS7 : Sep w1 w6 (bytesE (.slice (some ⟨g3, 0, none⟩) (n + 6) c3) (b ++ behind6) :: [csE (.slice A2 m2.length d2) m2, csE (.slice A1 m1.length d1) m1, E, oldE w1]) := hS6.sw [_, _, _]
  have HBL : Hid ((b ++ behind6).length = n + 6) := Lib.hid (by rw [List.length_append, HN.out]; rfl)
  clear q1 q2 q3 hS6
  go_loopw [17] (fun iv wr => ∃ (i : Nat) (x : List UInt8), i ≤ n + 6 ∧ iv = .int .i64 (i : Int) ∧ Hid (x.length = n + 6) ∧ Sep w1 wr (bytesE (.slice (some ⟨g3, 0, none⟩) (n + 6) c3) x :: [csE (.slice A2 m2.length d2) m2, csE (.slice A1 m1.length d1) m1, E, oldE w1])) (fun iv _ => n + 6 - (intOf iv).toNat)
  case atStart => exact ⟨0, _, Nat.zero_le _, rfl, HBL, hS7⟩
  case round =>
    clear hS7
    obtain ⟨i, x, hi, rfl, HX, hS⟩ := hrel
    by_cases hlt : i < n + 6
    · have ik : (i : Int) < (n : Int) + 6 := by omega
      have hix : i < x.length := by rw [HX.out]; exact hlt
      have hox : OwB wr 0 (.slice (some ⟨g3, 0, none⟩) (n + 6) c3) x := hS.head
      have y0 := hox.cell hix
      have f0 := hox.frozen hix
      have HS2 := Lib.hid (hS.setB i 77)
      have HX2 : Hid ((x.set i 77).length = n + 6) := Lib.hid (by rw [List.length_set]; exact HX.out)
      clear hS hox
      go_wp2_with fail
      go_roundw
      case rel => exact ⟨i + 1, x.set i 77, by omega, by go_num, HX2, HS2.out⟩
      case measure => simp [intOf]; omega
    · obtain rfl : i = n + 6 := by omega
      obtain ⟨w7, rfl⟩ : ∃ w7, w7 = wr := ⟨_, rfl⟩
      have hS7 := hS.tail
      have hO := RNOpnY2 H2.out HE0.out HP.out hS7 (hS7.rd (v := w1) (by simp) HV.out)
      rw [HN.out] at hO
      clear hS
      go_upto_region 17 with (first
        | (go_at_call 13; (with_reducible refine hO.mono ?_); rintro e w8 ⟨y, rfl, hN⟩)
        | fail)
      obtain ⟨R, hS8, B⟩ := RnP2.sep hN
      have HR := Lib.hid B
      have hD := RNDecY2 H2.out HE0.out HP.out hS8 (hS8.rd (v := w1) (by simp) HV.out)
      clear hO hN B hS7
      go_upto_region 18 with (first
        | (go_at_call 22; (with_reducible refine hD.mono ?_); rintro e w9 ⟨A3, d3, m3, rfl, hm3, hr3, hS9⟩)
        | fail)
      have HM3 := Lib.hid hm3
      have hs1 := SameCells_eq _ _ m1 m3 w9 (csE_rd (hS9.of_mem (E := csE (.slice A1 m1.length d1) m1) (by simp)) hr1) (csE_rd (hS9.of_mem (E := csE (.slice A3 m3.length d3) m3) (by simp)) hr3) (HM1.out.trans HM3.out.symm)
      clear hD hS8 hm3
      go_upto_region 19 with (first
        | (go_at_call 20; (with_reducible refine hs1.mono ?_); rintro e w10 ⟨rfl, hw10⟩)
        | fail)
      have hS10 := hS9.below hw10
      have hs2 := SameCells_eq _ _ m2 m3 w10 (csE_rd (hS10.of_mem (E := csE (.slice A2 m2.length d2) m2) (by simp)) hr2) (csE_rd (hS10.of_mem (E := csE (.slice A3 m3.length d3) m3) (by simp)) hr3) (HM2.out.trans HM3.out.symm)
      clear hs1 hS9 hw10
      go_upto_region 20 with (first
        | (go_at_call 20; (with_reducible refine hs2.mono ?_); rintro e w11 ⟨rfl, hw11⟩)
        | fail)
      have hS11 := (hS10.below hw11).book6
      have hl0 := HI.out.len (show b.length ≤ 65536 by rw [HN.out]; omega)
      have hl1 : m1.length ≤ 32768 := by rw [← pcs_length, HM1.out]; exact hl0
      have hl2 : m2.length ≤ 32768 := by rw [← pcs_length, HM2.out]; exact hl0
      clear hs2 hS10 hw11 hl0
      go_upto_region 23 with (fail)
      generalize hwb : w11.alloc (.cells #[.slice none 0 0, .slice none 0 0] 40) = w12 at *
      generalize w11.heap.size = bb at *
      clear hwb
      have hT := TakeAllC_sep (Sep.pick (L := [_, _, _, _, _, _]) [0, 1, 5, 3, 4] (by decide) rfl hS11 : Sep w1 w12 (bookTE 40 bb [.slice none 0 0] (.slice none 0 0) [] :: listsE (.slice none 0 0) [] :: csE (.slice A1 m1.length d1) m1 :: R :: csE (.slice A2 m2.length d2) m2 :: [E, oldE w1])) (by simp only [List.length_nil]; omega) (by simp)
      clear hS11
      go_upto_region 24 with (first
        | (go_at_call 23; (with_reducible refine hT.mono ?_); rintro e w13 ⟨⟨_, rfl⟩, bv, lv, hS13⟩)
        | fail)
      have hT := TakeAllC_sep (hS13.sw [_, _, _] |>.back [_, _]) (by simp only [List.nil_append, pairsC_length]; omega) (by simp)
      clear hS13
      go_upto_region 25 with (first
        | (go_at_call 23; (with_reducible refine hT.mono ?_); rintro e w14 ⟨⟨_, rfl⟩, bv2, lv2, hS14⟩)
        | fail)
      have hA := alike_2 (Sep.pick (L := [_, _, _, _]) [3, 2, 0, 1] (by decide) rfl hS14) HE HR (by rw [← HN.out]; exact HI.out) (by omega) (by simp only [List.nil_append, List.length_append, pairsC_length]; omega) (by simp)
      clear hT hS14
      go_upto_region 27 with (first
        | (go_at_call 15; (with_reducible refine hA.mono ?_); rintro e w15 ⟨rfl, E5, R5, bv5, lv5, u5, m5, hm5, hS15, HE5, HR5⟩)
        | fail)
      have hpw : isPowB (n : Int) = true := by rw [← HN.out]; exact HP.out.1
      have hlb : laidK kind (opS2 kind lp).l n = b := by
        rw [← HN.out]
        exact HP.out.2.2.2
      have hby := NdByt2 (HE5.out _ _ hS15.drew) (by rw [← HN.out]; exact HI.out) HP.out.2.1 hpw
      rw [hlb] at hby
      have i4 := im2_bytes
      have r0 := run_B_string (hS15.drew.rd (v := w1) (by simp) HV.out)
      have HB5 := Lib.hid (Sep.pick (L := [_, _, _, _]) [2, 3] (by decide) rfl hS15)
      have HM5 := Lib.hid hm5
      have hl5 : m5.length ≤ 32768 := by rw [← pcs_length, hm5]; exact HI.out.len (show b.length ≤ 65536 by rw [HN.out]; omega)
      clear hA hpw hlb hm5 hS15
      go_region_law
        (first
          | (go_simp; go_at_call 216; (with_reducible refine hby.mono ?_); rintro e w16 ⟨v16, rfl, hN16⟩; obtain ⟨E6, hS16, B6⟩ := NdP2.sep hN16; have r1 := run_B_string (hS16.rd (v := w1) (by simp) HV.out); have ho16 : OwB w16 0 v16 b := hS16.tail.head; have r2 := run_B_string ho16.rd; obtain ⟨A6, c6, rfl⟩ := Own.slice ho16)
          | fail)
      all_goals
        have hS17 : Sep w1 w16 (bookTE 40 bb [lv5] bv5 _ :: listsE lv5 _ :: [oldE w1]) := Sep.pick (L := [_, _, _, _, _]) [3, 4] (by decide) rfl hS16
        have hOw := Owned6_sep hS17 (by simp only [List.nil_append, List.length_append, pairsC_length]; omega) (fun q hq => by
          simp only [List.nil_append, List.mem_append] at hq
          have hb6 : b.length ≤ 65536 := by rw [HN.out]; omega
          rcases hq with (hq | hq) | hq
          · exact pairs_small HM1.out (HI.out.ok) hb6 q hq
          · exact pairs_small HM2.out (HI.out.ok) hb6 q hq
          · exact pairs_small HM5.out (HI.out.ok) hb6 q hq) (by simp) (fun q hq => by
          simp only [List.nil_append, List.mem_append, List.mem_singleton] at hq
          rcases hq with (rfl | rfl) | rfl <;> simp only <;> omega)
        clear hS16 hN16 B6 ho16 r0 r1 r2 hS17 hby
        go_wp2_with (first
          | (go_at_call 16; (with_reducible refine hOw.mono ?_); rintro e w17 ⟨rfl, hS18⟩)
          | fail)
        go_ret
        exact ⟨rfl, HW1.out.trans ((hS18.belowOld (_v := w1) (by simp)).mono HW1.out.size)⟩
theorem Sep.csNil {w0 w : World} {L : List Ent} (h : Sep w0 w L) : Sep w0 w (csE (.slice none 0 0) [] :: L) := Sep.pack (D := ownE 43 5 (.slice none 0 0) 0 [] :: cellsE []) h.nilC
theorem RdCs.nil8 (w : World) : RdCs w (.slice none 0 0) [] := ⟨Rd.nil, by simp⟩
set_option maxRecDepth 100000 in
set_option maxHeartbeats 32000000 in
theorem nreads_no (v : Value) (b : List UInt8) (w : World) (hv : RdB w v b) (hbl : b.length ≤ 140737488351232) (hno : NoB b) :
    Calls Tryz.prog 5 #[v] w fun e w' => e = .returned (.bool true) ∧ Below w.heap.size w w' := by
  have HP := Lib.hid hno
  have hV0 := hv
  obtain ⟨n, hn⟩ : ∃ n, b.length = n := ⟨_, rfl⟩
  have HN := Lib.hid hn
  obtain ⟨V, vc, rfl, hm⟩ := hv.form
  rw [hn] at hbl hV0 hm ⊢
  have HV0 := Lib.hid hV0
  clear hno hv hV0 hn hm
  go_enter Tryz.func5, Tryz.ntmps5
  go_upto_region 4 with (first | (go_at_call 7; (with_reducible refine (nawake_any _).mono ?_); rintro e w1 ⟨rfl, hw1⟩) | fail)
  have HV := Lib.hid (HV0.out.below hw1 (Nat.le_refl _))
  have HW1 := Lib.hid hw1
  have q1 := run_B_string HV.out
  obtain ⟨c2, w2, q2, ho2, hb2, hs2⟩ := run_string_B w1 ⟨b.toArray⟩ (by show b.toArray.size ≤ _; simp [maxLen]; have := HN.out; omega)
  have hsz : (⟨b.toArray⟩ : ByteArray).size = n := by show b.toArray.size = _; simp [HN.out]
  rw [hsz] at q2 ho2
  have ho2' : OwB w2 w1.heap.size (.slice (some ⟨w1.heap.size, 0, none⟩) n c2) b := ho2
  have hl6 : b.length + 6 ≤ 140737488355328 := by rw [HN.out]; omega
  have HL6 := Lib.hid hl6
  clear hw1 hsz ho2 hl6
  go_upto_region 7 with (first
    | (at_builtin; refine wp_append_S rfl (.tmp 35) _ rfl w1.heap.size _ b rfl ho2' ⟨#[98, 101, 104, 105, 110, 100]⟩ rfl HL6.out hb2.size ?_; intro v3 w3 ho3 hg3 hbk3; obtain ⟨g3, c3, rfl⟩ := ho3.some' (n := n + 6) (by simp [HN.out]) (by omega); have hc3 := ho3.room8; have hc4 : (n : Int) ≤ (c3 : Int) := by omega)
    | fail)
  have ho3' : OwB w3 w1.heap.size (.slice (some ⟨g3, 0, none⟩) (n + 6) c3) (b ++ behind6) := ho3
  have hb3 : Below w1.heap.size w1 w3 := hb2.grown hg3 hb2.size (fun k hk => Nat.le_of_eq (Option.some.inj hk))
  have hS3 := (Sep.start w1).bytes hb3 ho3' (Nat.le_refl _)
  have hO := NOpnN HP.out hS3 (rd_beh hS3.head HN.out)
  clear q1 q2 ho2' hb2 hs2 ho3 hg3 hbk3 hc3 hc4 ho3' hb3 hS3
  go_upto_region 8 with (first
    | (go_at_call 12; (with_reducible refine hO.mono ?_); rintro e w4 ⟨rfl, hS4⟩)
    | fail)
  have hD := NDecN HP.out hS4 (rd_beh hS4.head HN.out)
  clear hO
  go_upto_region 9 with (first
    | (go_at_call 21; (with_reducible refine hD.mono ?_); rintro e w5 ⟨rfl, hS5⟩)
    | fail)
  have hD := NDecN HP.out hS5 (rd_beh hS5.head HN.out)
  clear hS4
  go_upto_region 10 with (first
    | (go_at_call 21; (with_reducible refine hD.mono ?_); rintro e w6 ⟨rfl, hS6⟩)
    | fail)
  have q1 := run_B_string (hS6.rd (v := w1) (by simp) HV.out)
  have q2 := run_B_string (show OwB w6 0 (.slice (some ⟨g3, 0, none⟩) (n + 6) c3) (b ++ behind6) from hS6.head).rd
  have q3 := beh_add b (by rw [HN.out]; exact hbl) w6
  clear hD hS5
  go_upto_region 13 with (fail)
  have HBL : Hid ((b ++ behind6).length = n + 6) := Lib.hid (by rw [List.length_append, HN.out]; rfl)
  clear q1 q2 q3
  go_loopw [17] (fun iv wr => ∃ (i : Nat) (x : List UInt8), i ≤ n + 6 ∧ iv = .int .i64 (i : Int) ∧ Hid (x.length = n + 6) ∧ Sep w1 wr [bytesE (.slice (some ⟨g3, 0, none⟩) (n + 6) c3) x, oldE w1]) (fun iv _ => n + 6 - (intOf iv).toNat)
  case atStart => exact ⟨0, _, Nat.zero_le _, rfl, HBL, hS6⟩
  case round =>
    clear hS6
    obtain ⟨i, x, hi, rfl, HX, hS⟩ := hrel
    by_cases hlt : i < n + 6
    · have ik : (i : Int) < (n : Int) + 6 := by omega
      have hix : i < x.length := by rw [HX.out]; exact hlt
      have hox : OwB wr 0 (.slice (some ⟨g3, 0, none⟩) (n + 6) c3) x := hS.head
      have y0 := hox.cell hix
      have f0 := hox.frozen hix
      have HS2 := Lib.hid (hS.setB i 77)
      have HX2 : Hid ((x.set i 77).length = n + 6) := Lib.hid (by rw [List.length_set]; exact HX.out)
      clear hS hox
      go_wp2_with fail
      go_roundw
      case rel => exact ⟨i + 1, x.set i 77, by omega, by go_num, HX2, HS2.out⟩
      case measure => simp [intOf]; omega
    · obtain rfl : i = n + 6 := by omega
      obtain ⟨w7, rfl⟩ : ∃ w7, w7 = wr := ⟨_, rfl⟩
      have hO := RNOpnN HP.out hS (hS.rd (v := w1) (by simp) HV.out)
      clear hlt
      go_upto_region 17 with (first
        | (go_at_call 13; (with_reducible refine hO.mono ?_); rintro e w8 ⟨rfl, hS8⟩)
        | fail)
      have hD := RNDecN HP.out hS8 (hS8.rd (v := w1) (by simp) HV.out)
      clear hO hS
      go_upto_region 18 with (first
        | (go_at_call 22; (with_reducible refine hD.mono ?_); rintro e w9 ⟨rfl, hS9⟩)
        | fail)
      have hs := fun W => SameCells_eq (.slice none 0 0) (.slice none 0 0) [] [] W (RdCs.nil8 W) (RdCs.nil8 W) rfl
      clear hD hS8
      go_upto_region 19 with (first
        | (go_at_call 20; (with_reducible refine (hs _).mono ?_); rintro e w10 ⟨rfl, hw10⟩)
        | fail)
      have hS10 := hS9.below hw10
      clear hS9 hw10
      go_upto_region 20 with (first
        | (go_at_call 20; (with_reducible refine (hs _).mono ?_); rintro e w11 ⟨rfl, hw11⟩)
        | fail)
      have hS11 := ((hS10.below hw11).csNil.csNil).book6
      clear hs hS10 hw11
      go_upto_region 23 with (fail)
      generalize hwb : w11.alloc (.cells #[.slice none 0 0, .slice none 0 0] 40) = w12 at *
      generalize w11.heap.size = bb at *
      clear hwb
      have hT := TakeAllC_sep hS11 (by simp) (by simp)
      clear hS11
      go_upto_region 24 with (first
        | (go_at_call 23; (with_reducible refine hT.mono ?_); rintro e w13 ⟨⟨_, rfl⟩, bv, lv, hS13⟩)
        | fail)
      have hT := TakeAllC_sep hS13 (by simp [pairsC]) (by simp)
      clear hS13
      go_upto_region 25 with (first
        | (go_at_call 23; (with_reducible refine hT.mono ?_); rintro e w14 ⟨⟨_, rfl⟩, bv2, lv2, hS14⟩)
        | fail)
      have hOw := Owned6_sep hS14 (by simp [pairsC]) (by simp [pairsC]) (by simp) (by simp)
      clear hT
      go_wp2_with (first
        | (go_at_call 16; (with_reducible refine hOw.mono ?_); rintro e w17 ⟨rfl, hS18⟩)
        | fail)
      go_ret
      exact ⟨rfl, HW1.out.trans ((hS18.belowOld (_v := w1) (by simp)).mono HW1.out.size)⟩
theorem nreads_any (v : Value) (b : List UInt8) (w : World) (hv : RdB w v b) (hbl : b.length ≤ 140737488351232) :
    Calls Tryz.prog 5 #[v] w fun e w' => e = .returned (.bool true) ∧ Below w.heap.size w w' := by
  rcases b_cases b with h | ⟨k, l, h2, he, hp⟩ | ⟨k, l, h2, he, hp⟩
  · exact nreads_no v b w hv hbl h
  · exact nreads_1 v b w hv hbl k l h2 he hp
  · exact nreads_2 v b w hv hbl k l h2 he hp
end Go.Proofs.YtfcnkpofcekmgaaGreat

-- The row's last step from 'Below' alone (the guide's small lemma 9).
namespace Go.Proofs.YtfcnkpofcekmgaaGreat
open Go.RowKit Go.WideShapes Go.ChangeShapes
section
variable {H : Type} {enc : TypeId × Value → H} {P : Program}
theorem post_of_below {f : Func} {s : ChangeSpec} {apart fresh handsOn again : Bool} {W W' : World} {args : Array Value} {v : Value} {ds gs : List (DataW H)} {before pa pv : List MemPlace}
    (hW : DataW.Whole enc P f.params.toList s.vars apart W args.toList ds gs before)
    (hres : ∀ (b : Nat) (sp : Nat → Bool) (hd : Bool), DataW.TrodAll enc P W' b sp hd f.resultTypes.toList (v.resultList f.resultTypes.size) (s.fn H (ds ++ gs)).results [])
    (hargs : ∀ sp : Nat → Bool, (∀ p ∈ before, sp p.block = true) → DataW.TrodAll enc P W' 0 sp true f.params.toList args.toList (s.fn H (ds ++ gs)).args pa)
    (hvars : ∀ sp : Nat → Bool, (∀ p ∈ before, sp p.block = true) → DataW.TrodVars enc P W' sp s.vars (s.fn H (ds ++ gs)).vars pv)
    (hps : before = pa ++ pv) (hb : Below W.heap.size W W')
    (hok : ∀ (j : Nat) (t : TypeId) (r : Value), f.resultTypes[j]? = some t → (v.resultList f.resultTypes.size)[j]? = some r → Value.okWide P W' .any 0 t r) :
    s.post enc P f apart fresh handsOn again W args v W' := by
  have hlt : ∀ p ∈ before, p.block < W.heap.size := fun p hp => hW.lt p hp
  have hold : ∀ p ∈ before, (fun b => decide (b < W.heap.size)) p.block = true := fun p hp => by simpa using hlt p hp
  refine ⟨ds, gs, before, [], pa, pv, hW, hres _ _ _, hargs _ hold, hvars _ hold, World.keptBut_mono (fun p hp => ⟨hp, ?_⟩) (hb.frame (· ∈ before)), fun _ => ?_⟩
  · rw [hps, List.mem_append] at hp
    exact Or.inr hp
  · obtain ⟨_, _, _, _, _, hz, hn⟩ := hW
    refine ⟨hok, _, _, ([] ++ pa) ++ pv, ⟨[] ++ pa, pv, trodAll_append (hargs _ (fun _ _ => rfl)) (hres _ _ _), hvars _ (fun _ _ => rfl), rfl, ?_, ?_⟩, ?_⟩
    · intro b off hp
      have hin : MemPlace.cell b off ∈ before := by rw [hps]; simpa using hp
      rw [hb.frozen (hlt _ hin)]
      exact hz b off hin
    · intro ha
      have := hn ha
      rw [hps] at this
      simpa using this
    · intro p hp _
      rw [hps]
      simpa using hp
end
end Go.Proofs.YtfcnkpofcekmgaaGreat

-- A law that returns true and changes nothing below: from its walk to the row's own form.
namespace Go.Proofs.YtfcnkpofcekmgaaGreat
open Go.RowKit Go.WideShapes Go.ChangeShapes Go.Joins
section
variable {H : Type} {enc : TypeId × Value → H} {P : Program}
theorem trodAll_stays (hl : laidOutB P = true) {W W' : World} {sp' : Nat → Bool} : ∀ {ts : List TypeId} {vs : List Value} {ds : List (DataW H)} {ps : List MemPlace}, (ts.all fun t => P.readableRec t && decide (t < P.types.size)) = true →
    DataW.TrodAll enc P W 0 (fun _ => true) true ts vs ds ps → (∀ p ∈ ps, W.sameAt W' p) → (∀ p ∈ ps, sp' p.block = true) → DataW.TrodAll enc P W' 0 sp' true ts vs ds ps
  | [], [], [], _, _, h, _, _ => h
  | t :: ts, _ :: _, _ :: _, _, hr, ⟨p, q, h1, h2, e⟩, hk, hs => by
    simp only [List.all_cons, Bool.and_eq_true, decide_eq_true_eq] at hr
    obtain ⟨⟨hr1, hr2⟩, hr3⟩ := hr
    exact ⟨p, q, WideElems.Trod_stays hl hr1 hr2 h1 (fun x hx => hk x (by rw [e]; exact List.mem_append_left _ hx)) (fun x hx => hs x (by rw [e]; exact List.mem_append_left _ hx)),
      trodAll_stays hl hr3 h2 (fun x hx => hk x (by rw [e]; exact List.mem_append_right _ hx)) (fun x hx => hs x (by rw [e]; exact List.mem_append_right _ hx)), e⟩
theorem trodAll_len {w : World} {base : Nat} {spare : Nat → Bool} {held : Bool} : ∀ {ts : List TypeId} {vs : List Value} {ds : List (DataW H)} {ps : List MemPlace}, DataW.TrodAll enc P w base spare held ts vs ds ps → ds.length = ts.length
  | [], [], [], _, _ => rfl
  | _ :: _, _ :: _, _ :: _, _, ⟨_, _, _, h2, _⟩ => by simp [trodAll_len h2]
theorem law_post {fn : Func} {s : ChangeSpec} {tb : TypeId} {W W' : World} {args : Array Value} {ds gs : List (DataW H)} {before : List MemPlace} (hvars : s.vars = []) (hrt : fn.resultTypes = #[tb]) (htb : P.underlying tb = some .bool) (hl : laidOutB P = true)
    (hr : (fn.params.toList.all fun t => P.readableRec t && decide (t < P.types.size)) = true) (hs : ∀ ds : List (DataW H), ds.length = fn.params.size → s.fn H ds = { results := [.lit (.bool true)], args := ds })
    (hW : DataW.Whole enc P fn.params.toList s.vars false W args.toList ds gs before) (hb : Below W.heap.size W W') : s.post enc P fn false true false false W args (.bool true) W' := by
  have hW' := hW
  obtain ⟨p, q, hA, hV, rfl, hfz, hnd⟩ := hW
  rw [hvars] at hV
  obtain ⟨rfl, rfl⟩ := trodVars_none hV
  have hlen : ds.length = fn.params.size := by simpa using trodAll_len hA
  have hfn := hs ds hlen
  have hlt : ∀ x ∈ p, x.block < W.heap.size := fun x hx => hW'.lt x (List.mem_append_left _ hx)
  refine post_of_below (pa := p) (pv := []) hW' ?_ ?_ ?_ (by simp) hb (ok_one hrt rfl (okWide_bool_mk htb _))
  · intro b sp hd
    rw [List.append_nil, hfn, hrt]
    exact trodAll_cons_mk (shut_bool htb _) trodAll_mk0
  · intro sp hsp
    rw [List.append_nil, hfn]
    exact trodAll_stays hl hr hA (fun x hx => hb.same (hlt x hx)) (fun x hx => hsp x (List.mem_append_left _ hx))
  · intro sp _
    rw [List.append_nil, hfn, hvars]
    exact (rfl : DataW.TrodVars enc P W' sp [] [] [])
end
theorem law_lifts {H : Type} {enc : TypeId × Value → H} {C : Checked} {os : Os} {fno : FuncId} {fn : Func} {s : ChangeSpec} {conds : List PathCond} {tb : TypeId}
    (own : ownKnob C.prog.godebug = none) (started : os.Started) (noInit : C.prog.inits.idxOf? fno = none) (hfn : C.prog.funcs[fno]? = some fn)
    (witness : ∃ (w : World) (tape : Tape) (i : Input), w.os = os ∧ (w.forCall tape i).Shaped C.prog ∧ i.vars = [] ∧ Input.okWide C.prog (w.forCall tape i) .any w.heap.size fno i ∧
      s.pre6 enc C.prog fn conds false (w.forCall tape i).memory i.args ∧ ({} : Assume).holds C.prog (lone (Frame.enter C.prog fno i.args .normal) [] (w.forCall tape i)))
    (hvars : s.vars = []) (hrt : fn.resultTypes = #[tb]) (htb : C.prog.underlying tb = some .bool) (hl : laidOutB C.prog = true)
    (hr : (fn.params.toList.all fun t => C.prog.readableRec t && decide (t < C.prog.types.size)) = true) (hs : ∀ ds : List (DataW H), ds.length = fn.params.size → s.fn H ds = { results := [.lit (.bool true)], args := ds })
    (walk : ∀ (W : World) (base : Nat) (args : Array Value) (ds : List (DataW H)) (p : List MemPlace), (∀ (j : Nat) t v, fn.params[j]? = some t → args[j]? = some v → Value.okWide C.prog W .any base t v) →
      DataW.TrodAll enc C.prog W 0 (fun _ => true) true fn.params.toList args.toList ds p → (DataW.weightsEach C.prog fn.params.toList ds).all (· ≤ reachBytes) = true →
      Calls C.prog fno args W fun e W' => e = .returned (.bool true) ∧ Below W.heap.size W W') :
    ReturnsInHanded {} C os fno .any (s.pre6 enc C.prog fn conds false) (s.post enc C.prog fn false true false false) := by
  refine returnsInHanded_of_change_sized own started noInit hfn witness ?_
  intro W base args ds gs before hval hW _ hsz _
  have hW' := hW
  obtain ⟨p, q, hA, hV, _, _, _⟩ := hW
  rw [hvars] at hV
  obtain ⟨rfl, rfl⟩ := trodVars_none hV
  have hv : s.plain.varTypes C.prog = [] := by
    unfold ChangeSpec.plain DataSpec.varTypes
    simp [hvars]
  rw [hv, List.append_nil, List.append_nil] at hsz
  refine (walk W base args ds p hval hA hsz).mono fun e W' h => ?_
  obtain ⟨rfl, hb⟩ := h
  exact ⟨_, rfl, law_post hvars hrt htb hl hr hs hW' hb⟩
section
variable {H : Type} {enc : TypeId × Value → H} {W : World}
theorem cells_u8 : Tryz.prog.cellsOf 5 = 1 := by kernel_rfl
theorem bytes_u8 : Tryz.prog.bytesOf 5 = 1 := by kernel_rfl
set_option maxRecDepth 100000 in
/-- An argument of type []byte. -/
theorem open_bytes {base : Nat} {v : Value} {d : DataW H} {p : List MemPlace} {ts : List TypeId} {ds : List (DataW H)} {j : Nat} (hv : Value.okWide Tryz.prog W .any base 41 v) (h : DataW.Trod enc Tryz.prog W 0 (fun _ => true) true 41 v d p)
    (hsz : (DataW.weightsEach Tryz.prog ts ds).all (· ≤ reachBytes) = true) (ht : ts[j]? = some 41) (hd : ds[j]? = some d) :
    ∃ l : List UInt8, RdB W v l ∧ l.length ≤ 140737488351232 := by
  obtain ⟨a0, len, cap, rfl⟩ := okWide_slice Tryz.underlying41 hv
  obtain ⟨fuel, hf⟩ := h
  rcases open_ints Tryz.underlying41 Tryz.underlying5 cells_u8 hf with ⟨hcs, _⟩ | ⟨a, len', cap', zs, hcs, _, hl, hm, hz, hx, hcell, hwz⟩
  · simp [Value.cells] at hcs
    obtain ⟨rfl, rfl, rfl⟩ := hcs
    exact ⟨[], RdB.nil, by simp⟩
  · simp [Value.cells] at hcs
    obtain ⟨rfl, rfl, rfl⟩ := hcs
    simp only [if_true] at hz
    simp only [Prod.mk.injEq] at hx
    obtain ⟨rfl, _⟩ := hx
    have hs := sized_slice hsz ht hd Tryz.underlying41
    rw [bytes_u8] at hs
    simp only [lits, List.length_map, List.length_take, List.length_drop, reachBytes] at hs
    refine ⟨(zs.take len).map fun z => UInt8.ofNat z.toNat, ?_, by simp; omega⟩
    have hlen : ((zs.take len).map fun z => UInt8.ofNat z.toNat).length = len := by simp; omega
    refine ⟨some a, cap, by rw [hlen], by rw [hlen]; exact hl, hm, fun j hj => ⟨a, rfl, ?_⟩⟩
    rw [hlen] at hj
    rw [hcell j (by omega)]
    have hjz : j < zs.length := by omega
    have hmem : zs[j] ∈ zs := List.getElem_mem hjz
    have hw := hwz _ hmem
    have hg : zs.getD j 0 = zs[j] := by simp [List.getD, hjz]
    rw [hg]
    simp [Lit.wf, IntKind.min, IntKind.max, IntKind.signed, IntKind.bits] at hw
    simp
    omega
end
end Go.Proofs.YtfcnkpofcekmgaaGreat
