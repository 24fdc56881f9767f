/- Texts joined: The example of chapter 08; node.New, node.Open, in words of pieces.; espalierlaw08.value; Bytes made of a constant.; A piece; espalierlaw08.awake; Pieces of memory; copy into bytes that the call owns, at a place.; Step laws for regions that draw; espalierref03.Lent, AsLent; espalierref03.AsLent; Pieces of memory; Pieces of memory; espalierref06.LentCell, AsLentCell; espalierref06.AsLentCell; Cells made, cells stored -/
import Derived.Test.YtfcnkpofcekmgaaGreatNW2
import Derived.Test.YtfcnkpofcekmgaaGreatNW3
import Derived.Test.YtfcnkpofcekmgaaGreatNW4
import Derived.Test.YtfcnkpofcekmgaaGreatNW7
import Derived.Test.YtfcnkpofcekmgaaGreatNW9
import Derived.Test.YtfcnkpofcekmgaaGreatNW11
import Derived.Test.YtfcnkpofcekmgaaGreatNW13
import Derived.Test.YtfcnkpofcekmgaaGreatNW16
import Derived.Test.YtfcnkpofcekmgaaGreatNW21
import Derived.Test.YtfcnkpofcekmgaaGreatNW26
import Derived.Deep.RegionHeld3
import Derived.Deep.CutBlock
import Derived.Lib.SlBytesConst
import Derived.Deep.QuietTactic
import Derived.BigQuiet
import Derived.Deep.DeepCutAuto
-- The example of chapter 08: plain laws.
namespace Go.Proofs.YtfcnkpofcekmgaaGreat
open Go.RowKit
def nA : PC := ⟨[97], 1, [121], 0, 0⟩
def nB : PC := ⟨[98], 1, [120], 0, 0⟩
def n0 : KP := ⟨[], [], 0⟩
theorem nd_z1 : insZ1 2 512 n0 0 0 nB = 0 := by decide
theorem nd_s1 : (insS1 2 512 n0 0 0 nB).l = [nB] := by
  show insL 2 512 [] 0 0 nB = _
  rw [insL_eq (show insZ 2 512 [] 0 0 nB = 0 by decide)]; rfl
theorem nd_z2 : insZ1 2 512 (insS1 2 512 n0 0 0 nB) 0 0 nA = 0 := by
  show insZ 2 512 (insS1 2 512 n0 0 0 nB).l 0 0 nA = 0
  rw [nd_s1]; decide
theorem nd_s2 : (insS1 2 512 (insS1 2 512 n0 0 0 nB) 0 0 nA).l = [nA, nB] := by
  show insL 2 512 (insS1 2 512 n0 0 0 nB).l 0 0 nA = _
  rw [nd_s1, insL_eq (show insZ 2 512 [nB] 0 0 nA = 0 by decide)]; rfl
theorem nd_find : findF [98] [nA, nB] = 1 ∧ isF [98] [nA, nB] = true := by decide
theorem nd_usd : usd1 2 (insS1 2 512 (insS1 2 512 n0 0 0 nB) 0 0 nA) = 26 := by
  show sizeF (insS1 2 512 (insS1 2 512 n0 0 0 nB) 0 0 nA).l = 26
  rw [nd_s2]; rfl
theorem nd_k1 : insZ2 2 512 n0 0 0 nA = 0 := by
  show insKZ 2 512 [] 0 0 nA = 0
  unfold insKZ
  rw [if_neg (by decide)]
  unfold putK
  have h : psizeF 2 (withF [] (0 : Int).toNat 0 nA) ≤ 512 := three_fit (kind := 2) (l := [nA]) (P := 512) (by omega) (by omega) (by omega) (by decide) (by decide)
  rw [if_neg (by decide), if_neg (by decide), if_neg (by omega)]
theorem nd_kl : (insS2 2 512 n0 0 0 nA).l.length = 1 := by
  show (insKS 2 512 n0 0 0 nA).l.length = 1
  unfold insKS
  rw [if_pos (show insKZ 2 512 n0.l 0 0 nA = 0 from nd_k1)]
  unfold putS changeS
  split <;> rfl
theorem nd_I1 : NdI1 2 512 n0 := ⟨List.Pairwise.nil, by simp [n0], by decide⟩
theorem nd_I2 : NdI2 2 512 n0 := tidy_inv (kind := 2) (P := 512) (l := []) List.Pairwise.nil (by simp) (by decide)
end Go.Proofs.YtfcnkpofcekmgaaGreat

-- node.New, node.Open, in words of pieces.
namespace Go.Proofs.YtfcnkpofcekmgaaGreat
open Go.RowKit
section
variable {w0 w : World} {L : List Ent} {kind : Int} {P : Nat}
theorem NdNewOk1 (hS : Sep w0 w L) (hk : isKindB kind = true) (hp : isPowB (P : Int) = true) : Calls Tryz.prog 8 #[.int .i64 1, .int .i64 kind, .int .i64 (P : Int)] w fun e w' => ∃ p, e = .returned (.tuple #[ndV1 p, .int .i64 0]) ∧ NdP1 w0 w' L p P kind ⟨[], [], 0⟩ := by
  refine (NdNew_1 kind (P : Int) w (fun p w' => NdP1 w0 w' L p P kind ⟨[], [], 0⟩) (fun _ _ => False) (fun W hW => ?_)).mono ?_
  · refine (PNew_ok kind P hk hp W).mono ?_
    rintro e w' ⟨p, rfl, hpl, hA, hb⟩
    have h1 : Sep w0 w' (blkE p 144 [.int .i64 kind, .int .i64 (P : Int), .int .i64 8, .slice none 0 0] :: L) := (hS.below hW).new hb hA.blk (fun g hg => by have hg' : g = p := hg; subst hg'; exact ⟨hpl, hA.blk.lt⟩)
    exact .inl ⟨p, rfl, .slice none 0 0, [], rfl, by simp [RngC], Sep.pgClose (l := []) (Sep.sw1 (Sep.nilC h1))⟩
  · rintro e w' (⟨p, rfl, h⟩ | ⟨_, _, _, h⟩)
    · exact ⟨p, rfl, h⟩
    · exact h.elim
theorem NdNewOk2 (hS : Sep w0 w L) (hk : isKindB kind = true) (hp : isPowB (P : Int) = true) : Calls Tryz.prog 8 #[.int .i64 2, .int .i64 kind, .int .i64 (P : Int)] w fun e w' => ∃ p, e = .returned (.tuple #[ndV2 p, .int .i64 0]) ∧ NdP2 w0 w' L p P kind ⟨[], [], 0⟩ := by
  refine (NdNew_2 kind (P : Int) w (fun p w' => NdP2 w0 w' L p P kind ⟨[], [], 0⟩) (fun _ _ => False) (fun W hW => ?_)).mono ?_
  · refine (KNew_ok kind P hk hp (hS.below hW)).mono ?_
    rintro e w' ⟨p, rfl, h⟩
    exact .inl ⟨p, rfl, h⟩
  · rintro e w' (⟨p, rfl, h⟩ | ⟨_, _, _, h⟩)
    · exact ⟨p, rfl, h⟩
    · exact h.elim
/-- Open of bytes of an engine: a page, or nothing. -/
theorem NdOpn1 {v : Value} {b : List UInt8} (hS : Sep w0 w L) (hv : RdB w v b) (h2 : 2 ≤ b.length) (he : egB b = 1) : Calls Tryz.prog 12 #[v] w fun e w' =>
    (∃ p kind l, isPln b kind l ∧ e = .returned (.tuple #[ndV1 p, .int .i64 0]) ∧ NdP1 w0 w' L p b.length kind ⟨l, [], 0⟩) ∨ ((∀ kind l, ¬ isPln b kind l) ∧ e = .returned (.tuple #[.nilIface, .int .i64 60]) ∧ Sep w0 w' L) := by
  refine (NdOpen_1 v b w hv h2 he (fun p w' => ∃ kind l, isPln b kind l ∧ NdP1 w0 w' L p b.length kind ⟨l, [], 0⟩) (fun z w' => z = 60 ∧ (∀ kind l, ¬ isPln b kind l) ∧ Sep w0 w' L) (fun W hW => ?_)).mono ?_
  · refine (POpen_sep (hS.below hW) (hv.below hW (Nat.le_refl _))).mono ?_
    rintro e w' (⟨kind, l, p, u, hp, hr, rfl, h⟩ | ⟨hn, rfl, h⟩)
    · exact .inl ⟨p, rfl, kind, pcs l, hp, u, l, rfl, hr, h⟩
    · exact .inr ⟨60, by decide, rfl, rfl, hn, h⟩
  · rintro e w' (⟨p, rfl, kind, l, hp, h⟩ | ⟨z, _, rfl, rfl, hn, h⟩)
    · exact .inl ⟨p, kind, l, hp, rfl, h⟩
    · exact .inr ⟨hn, rfl, h⟩
end
end Go.Proofs.YtfcnkpofcekmgaaGreat

-- espalierlaw08.value: the walk.
namespace Go.Proofs.YtfcnkpofcekmgaaGreat
open Go.RowKit
set_option maxRecDepth 20000 in
set_option maxHeartbeats 1000000 in
theorem value_sep {w0 w : World} {L : List Ent} (hS : Sep w0 w L) (key val : List UInt8) (hk : key.length ≤ 1000) (hl : val.length ≤ 1000) : Calls Tryz.prog 37 #[.string ⟨key.toArray⟩, .string ⟨val.toArray⟩] w fun e w' =>
    ∃ y : CV, e = .returned (cellV y) ∧ y.c = ⟨key, 1, val, 0, 0⟩ ∧ Sep w0 w' (bytesE y.kv y.c.key :: bytesE y.vv y.c.val :: L) := by
  have hS1 := hS.alloc 43 [.slice none 0 0, .int .i64 0, .slice none 0 0, .int .i64 0, .int .i64 0]
  clear hS
  go_enter Tryz.func37, Tryz.ntmps37
  go_upto_region 1 with (fail)
  generalize hW1 : w.alloc (.cells #[.slice none 0 0, .int .i64 0, .slice none 0 0, .int .i64 0, .int .i64 0] 43) = w1 at *
  generalize w.heap.size = g at *
  clear hW1
  have z1 : (⟨key.toArray⟩ : ByteArray).size = key.length := by simp [ByteArray.size]
  have z2 : (⟨val.toArray⟩ : ByteArray).size = val.length := by simp [ByteArray.size]
  obtain ⟨c2, w2, q2, ho2, hb2, -⟩ := run_string_B w1 ⟨key.toArray⟩ (by rw [z1]; simp only [maxLen]; omega)
  obtain ⟨c3, w3, q3, ho3, hb3, -⟩ := run_string_B w2 ⟨val.toArray⟩ (by rw [z2]; simp only [maxLen]; omega)
  rw [z1] at q2 ho2
  rw [z2] at q3 ho3
  have ho2 : OwB w2 w1.heap.size (.slice (some ⟨w1.heap.size, 0, none⟩) key.length c2) key := ho2
  have ho3 : OwB w3 w2.heap.size (.slice (some ⟨w2.heap.size, 0, none⟩) val.length c3) val := ho3
  have hS2 := hS1.bytes hb2 ho2 (Nat.le_refl _)
  have hS3 := (hS2.bytes hb3 ho3 (Nat.le_refl _)).sw2
  generalize w1.heap.size = g2 at *
  generalize w2.heap.size = g3 at *
  obtain ⟨y0, y1, y2, y3, y4⟩ := cells5 hS3.blk
  obtain ⟨f0, f1, f2, f3, f4⟩ := froz5 hS3.blk
  have HS := Lib.hid (hS3.set5 (.slice (some ⟨g2, 0, none⟩) key.length c2) (.int .i64 1) (.slice (some ⟨g3, 0, none⟩) val.length c3) (.int .i64 0) (.int .i64 0))
  clear hS1 hS2 hS3 ho2 ho3 hb2 hb3 z1 z2
  go_wp2_with fail
  obtain ⟨e0, e1, e2, e3, e4⟩ := cells5 HS.out.blk
  refine bodyPost_ret (v := .agg #[.slice (some ⟨g2, 0, none⟩) key.length c2, .int .i64 1, .slice (some ⟨g3, 0, none⟩) val.length c3, .int .i64 0, .int .i64 0]) ?_ rfl ?_
  · simp [results, Tryz.results37, go_sem, e0, e1, e2, e3, e4]
  · exact ⟨⟨.slice (some ⟨g2, 0, none⟩) key.length c2, .slice (some ⟨g3, 0, none⟩) val.length c3, ⟨key, 1, val, 0, 0⟩⟩, rfl, rfl, HS.out.tail.sw1⟩
end Go.Proofs.YtfcnkpofcekmgaaGreat

-- Bytes made of a constant.
namespace Go.Proofs.YtfcnkpofcekmgaaGreat
open Go.RowKit
theorem conv_id (w : World) (C : Array Value) (n c g : Nat) (hg : g = w.heap.size) : (convert 41 41 (.slice (some ⟨g, 0, none⟩) n c)).run Tryz.prog (w.alloc (.cells C 5)) = .ok (.slice (some ⟨g, 0, none⟩) n c) (w.alloc (.cells C 5 (C.size, C.size + 1))) := by
  subst hg; exact Lib.run_convert_bytes_const w _ _ C n c Tryz.underlying41 Tryz.underlying5
theorem RdB.litm (w : World) (l : List UInt8) (cells : Array Value) (T : TypeId) (fr : Nat × Nat) (n : Nat) (h : cells = (bvs l).toArray) (hn : l.length = n) (hm : n ≤ maxLen) : RdB (w.alloc (.cells cells T fr)) (.slice (some ⟨w.heap.size, 0, none⟩) n n) l := by
  subst h; subst hn
  refine ⟨_, _, rfl, Nat.le_refl _, hm, fun j hj => ⟨_, rfl, ?_⟩⟩
  rw [add_row, Nat.zero_add, World.cell?_alloc_mark]
  have := bvs_get' l j hj
  simpa using this
end Go.Proofs.YtfcnkpofcekmgaaGreat

-- A piece: bytes of a block, as they are read.
namespace Go.Proofs.YtfcnkpofcekmgaaGreat
open Go.RowKit
/-- Bytes of a block, as they are read. -/
def litE (g n : Nat) (l : List UInt8) : Ent :=
  ⟨fun b => b = g, fun w => RdB w (.slice (some ⟨g, 0, none⟩) n n) l, fun {w w'} h k => by
    obtain ⟨A, c, hv, h1, h2, h3⟩ := k
    refine ⟨A, c, hv, h1, h2, fun j hj => ?_⟩
    obtain ⟨ad, hA, hc⟩ := h3 j hj
    refine ⟨ad, hA, ?_⟩
    obtain rfl : (⟨g, 0, none⟩ : Addr) = ad := by
      injection hv with hv1
      rw [← hv1] at hA
      injection hA
    rw [add_row] at hc ⊢
    rw [World.cell?_of_block (h g rfl)]
    exact hc⟩
theorem Sep.lit {w0 w : World} {L : List Ent} (h : Sep w0 w L) (l : List UInt8) (cells : Array Value) (T : TypeId) (fr : Nat × Nat) (n : Nat) (hc : cells = (bvs l).toArray) (hn : l.length = n) (hm : n ≤ maxLen) : Sep w0 (w.alloc (.cells cells T fr)) (litE w.heap.size n l :: L) :=
  h.new ((Below.refl _ _).alloc (Nat.le_refl _) _) (RdB.litm w l cells T fr n hc hn hm) (fun g hg => by have hg' : g = w.heap.size := hg; rw [World.size_alloc]; omega)
end Go.Proofs.YtfcnkpofcekmgaaGreat

-- espalierlaw08.awake: the walk.
namespace Go.Proofs.YtfcnkpofcekmgaaGreat
open Go.RowKit
theorem XIn.own {L : List Ent} {y : CV} (h1 : bytesE y.kv y.c.key ∈ L) (h2 : bytesE y.vv y.c.val ∈ L) (hr : RngY y.c) (s1 : y.c.key.length ≤ 140737488355328) (s2 : y.c.val.length ≤ 140737488355328) : XIn L y :=
  ⟨⟨_, h1, fun _ h => OwB.rd h⟩, ⟨_, h2, fun _ h => OwB.rd h⟩, hr.1, hr.2.1, hr.2.2, s1, s2⟩
theorem nA_r : RngY nA := by refine ⟨?_, ?_, ?_⟩ <;> (show _ ≤ _ ∧ _ ≤ _; simp only [nA]; omega)
theorem nB_r : RngY nB := by refine ⟨?_, ?_, ?_⟩ <;> (show _ ≤ _ ∧ _ ≤ _; simp only [nB]; omega)
section
variable {w0 w : World} {L : List Ent} {p q : Nat}
theorem aw_ins {s : KP} {y : CV} {c : PC} (hP : NdP1 w0 w L p 512 2 s) (hI : NdI1 2 512 s) (hy : y.c = c) (h1 : bytesE y.kv y.c.key ∈ L) (h2 : bytesE y.vv y.c.val ∈ L) (hr : RngY c) (s1 : c.key.length ≤ 10) (s2 : c.val.length ≤ 10) (hz : insZ1 2 512 s 0 0 c = 0) :
    Calls Tryz.prog 201 #[.pointer (some ⟨p, 0, none⟩), .int .i64 0, cellV y] w fun e w' => e = .returned (.int .i64 0) ∧ NdP1 w0 w' L p 512 2 (insS1 2 512 s 0 0 c) := by
  subst hy
  have h := NdIns1 hP hI (.inl rfl) (by omega) y (XIn.own h1 h2 hr (by omega) (by omega)) 0 (by unfold i64r; omega)
  rw [hz] at h
  exact h
theorem aw_ins2 {y : CV} {c : PC} (hP : NdP2 w0 w L p 512 2 n0) (hy : y.c = c) (h1 : bytesE y.kv y.c.key ∈ L) (h2 : bytesE y.vv y.c.val ∈ L) (hr : RngY c) (s1 : c.key.length ≤ 10) (s2 : c.val.length ≤ 10) (hz : insZ2 2 512 n0 0 0 c = 0) :
    Calls Tryz.prog 219 #[.pointer (some ⟨p, 0, none⟩), .int .i64 0, cellV y] w fun e w' => e = .returned (.int .i64 0) ∧ NdP2 w0 w' L p 512 2 (insS2 2 512 n0 0 0 c) := by
  subst hy
  have h := NdIns2 hP nd_I2 (.inl rfl) (by omega) y (XIn.own h1 h2 hr (by omega) (by omega)) 0 (by unfold i64r; omega)
  rw [hz] at h
  exact h
end
theorem aw_open {w0 w : World} {L : List Ent} {v : Value} {s : KP} (hS : Sep w0 w (bytesE v (laidF 2 s.l 512) :: L)) (hI : NdI1 2 512 s) :
    Calls Tryz.prog 12 #[v] w fun e w' => ∃ p, e = .returned (.tuple #[ndV1 p, .int .i64 0]) ∧ NdP1 w0 w' (bytesE v (laidF 2 s.l 512) :: L) p 512 2 ⟨s.l, [], 0⟩ := by
  have hll : (laidF 2 s.l 512).length = 512 := laidF_length hI.size
  have ho : OwB w 0 v (laidF 2 s.l 512) := hS.head
  have hpl : isPln (laidF 2 s.l 512) 2 s.l := ⟨by rw [hll]; decide, by decide, by rw [hll]; exact Wk.enc hI, by rw [hll]⟩
  have he : egB (laidF 2 s.l 512) = 1 := by
    unfold egB
    have h : (laidF 2 s.l 512).getD 1 0 = 1 := by unfold laidF preF; rfl
    rw [h]; rfl
  refine (NdOpn1 hS ho.rd (by omega) he).mono ?_
  rintro e w' (⟨p, kind, l, hp, rfl, hN⟩ | ⟨hn, -, -⟩)
  · obtain ⟨h1, h2⟩ := isPln_parse hp
    obtain ⟨h3, h4⟩ := isPln_parse hpl
    rw [h1] at h3
    injection h3 with h3
    subst h3
    rw [h4] at h2
    subst h2
    rw [hll] at hN
    exact ⟨p, rfl, hN⟩
  · exact absurd hpl (hn _ _)
theorem NdP1.drop2 {w0 w : World} {a b c d : Ent} {p P : Nat} {kind : Int} {s : KP} (h : NdP1 w0 w ([a, b, c] ++ [d]) p P kind s) : NdP1 w0 w (c :: [d]) p P kind s := by
  obtain ⟨E, hS, B⟩ := h.sep
  exact B _ _ (Sep.pick (L := [_, _, _, _]) [0, 3] (by decide) rfl hS)
theorem NdP1.drop2' {w0 w : World} {a b c d : Ent} {p P : Nat} {kind : Int} {s : KP} (h : NdP1 w0 w ([a, b] ++ [c, d]) p P kind s) : NdP1 w0 w (c :: [d]) p P kind s := by
  obtain ⟨E, hS, B⟩ := h.sep
  exact B _ _ (Sep.pick (L := [_, _, _, _]) [0, 3] (by decide) rfl hS)
theorem NdP2.drop2 {w0 w : World} {a b c d : Ent} {p P : Nat} {kind : Int} {s : KP} (h : NdP2 w0 w ([a, b, c] ++ [d]) p P kind s) : NdP2 w0 w (c :: [d]) p P kind s := by
  obtain ⟨E, hS, B⟩ := NdP2.sep h
  exact B _ _ (Sep.pick (L := [_, _, _, _]) [0, 3] (by decide) rfl hS)
set_option maxRecDepth 100000 in
set_option maxHeartbeats 8000000 in
theorem nawake_any (w : World) : Calls Tryz.prog 7 #[] w fun e w' => e = .returned (.bool true) ∧ Below w.heap.size w w' := by
  have kc := fun (w : World) (C : Array Value) (n c g : Nat) (hg : g = w.heap.size) => conv_id w C n c g hg
  have hmf : ∀ (fn : Fn) (first cap : Array Value) (w : World), (Instr.makeFunc fn first cap).run Tryz.prog w = .ok (.func fn first cap) w := fun _ _ _ _ => rfl
  have i1 := im1_insert
  have i2 := im1_nil
  have i3 := im1_find
  have i4 := im1_bytes
  have i5 := im1_used
  have i6 := im1_len
  have i7 := im2_insert
  have i8 := im2_nil
  have i9 := im2_len
  go_enter Tryz.func7, Tryz.ntmps7
  go_upto_region 2 with (first
    | (go_at_call 8; (with_reducible refine (NdNew_no 3 2 512 (by decide) (by decide) _).mono ?_); rintro e w1 ⟨rfl, hw1⟩)
    | fail)
  have hn1 := NdNewOk1 (kind := 2) (P := 512) ((Sep.start w).below hw1) (by decide) (by decide)
  rw [show ((512 : Nat) : Int) = 512 from rfl] at hn1
  go_upto_region 3 with (first
    | (go_at_call 8; (with_reducible refine hn1.mono ?_); rintro e w2 ⟨p, rfl, hP⟩)
    | fail)
  obtain ⟨E1, hS2, B1⟩ := hP.sep
  have hn2 := NdNewOk2 (kind := 2) (P := 512) hS2 (by decide) (by decide)
  rw [show ((512 : Nat) : Int) = 512 from rfl] at hn2
  clear hn1 hP hw1
  go_upto_region 4 with (first
    | (go_at_call 8; (with_reducible refine hn2.mono ?_); rintro e w3 ⟨q, rfl, hQ⟩)
    | fail)
  obtain ⟨E2, hS3, B2⟩ := hQ.sep
  have hv := value_sep hS3.drew [98] [120] (by simp) (by simp)
  have hI1 := fun (W : World) (y : CV) (hy : y.c = nB) (h : Sep w W (bytesE y.kv y.c.key :: bytesE y.vv y.c.val :: E2 :: [E1, oldE w])) => aw_ins (s := n0) (B1 _ _ (h.sw [_, _, _])) nd_I1 hy (by simp) (by simp) nB_r (by decide) (by decide) nd_z1
  have HI1 := Lib.hid hI1
  have hI2 := fun (W : World) (M : List Ent) (y : CV) (hy : y.c = nA) (h1 : bytesE y.kv y.c.key ∈ M) (h2 : bytesE y.vv y.c.val ∈ M) (h : Sep w W (E2 :: M)) => aw_ins2 (B2 _ _ h) hy h1 h2 nA_r (by decide) (by decide) nd_k1
  have HI2 := Lib.hid hI2
  clear hI1 hI2
  clear hn2 hQ hS2 B1 B2
  go_upto_region 6 with (fail)
  go_cut [7] (fun z wx => z = .int .i64 0 ∧ NdP1 w wx (E2 :: [oldE w]) p 512 2 (insS1 2 512 n0 0 0 nB))
  case first =>
    go_region_held3 (fun _ => True) (exact trivial) (first
      | (go_at_call 37; (with_reducible refine hv.mono ?_); rintro e w4 ⟨y, rfl, hy0, hS4⟩; have hy : y.c = nB := hy0)
      | (go_at_call 201; (with_reducible refine (HI1.out _ y hy hS4).mono ?_); rintro e w5 ⟨rfl, hP5⟩; have hP6 := NdP1.drop2 hP5)
      | fail)
    all_goals
      go_wp2_with fail
      go_meet
      exact ⟨rfl, hP6⟩
  case rest =>
  obtain ⟨rfl, hP5⟩ := hcut
  obtain ⟨E3, hS5, B3⟩ := hP5.sep
  have hv := value_sep hS5.drew [97] [121] (by simp) (by simp)
  have hI3 := fun (W : World) (y : CV) (hy : y.c = nA) (h : Sep w W (bytesE y.kv y.c.key :: bytesE y.vv y.c.val :: E3 :: [E2, oldE w])) => aw_ins (s := insS1 2 512 n0 0 0 nB) (B3 _ _ (h.sw [_, _])) (nd_I1.ins 0 (by omega) nB) hy (by simp) (by simp) nA_r (by decide) (by decide) nd_z2
  have HI3 := Lib.hid hI3
  clear hP5 B3 HI1 hS3 hI3
  go_upto_region 7 with (fail)
  go_cut [8] (fun z wx => z = .int .i64 0 ∧ NdP1 w wx (E2 :: [oldE w]) p 512 2 (insS1 2 512 (insS1 2 512 n0 0 0 nB) 0 0 nA))
  case first =>
    go_region_held3 (fun _ => True) (exact trivial) (first
      | (go_at_call 37; (with_reducible refine hv.mono ?_); rintro e w6 ⟨y2, rfl, hy0, hS7⟩; have hy2 : y2.c = nA := hy0)
      | (go_at_call 201; (with_reducible refine (HI3.out _ y2 hy2 hS7).mono ?_); rintro e w7 ⟨rfl, hP7⟩; have hP8 := NdP1.drop2' hP7)
      | fail)
    all_goals
      go_wp2_with fail
      go_meet
      exact ⟨rfl, hP8⟩
  case rest =>
  obtain ⟨rfl, hP7⟩ := hcut
  have hI7 : NdI1 2 512 (insS1 2 512 (insS1 2 512 n0 0 0 nB) 0 0 nA) := (nd_I1.ins 0 (by omega) nB).ins 0 (by omega) nA
  have hl7 := nd_s2
  have hu7 := nd_usd
  generalize insS1 2 512 (insS1 2 512 n0 0 0 nB) 0 0 nA = s2 at *
  obtain ⟨E4, hS9, B4⟩ := hP7.sep
  have HB4 := Lib.hid B4
  have HI7 := Lib.hid hI7
  have HL7 := Lib.hid hl7
  have HU7 := Lib.hid hu7
  have hS10 := hS9.lit [98] #[.int .u8 98] 5 (1, 2) 1 rfl rfl (by decide)
  have hfi := NdFnd1 (B4 _ _ (hS10.sw1)) hI7 (by omega) (.slice (some ⟨wc.heap.size, 0, none⟩) 1 1) [98] (show RdB _ _ _ from hS10.head)
  rw [hl7, nd_find.1, nd_find.2, show ((1 : Nat) : Int) = 1 from rfl] at hfi
  clear hP7 hS9 B4 HI3 hv hS5 hI7 hl7 hu7
  go_upto_region 9 with (first
    | (go_at_call 200; (with_reducible refine hfi.mono ?_); rintro e w8 ⟨rfl, hw8⟩)
    | fail)
  have hS11 := (hS10.below hw8).tail
  have hv := value_sep hS11.drew [97] [121] (by simp) (by simp)
  clear hS10 hfi hw8
  go_upto_region 9 with (fail)
  go_cut [11] (fun z wx => z = .int .i64 0 ∧ NdP2 w wx (E4 :: [oldE w]) q 512 2 (insS2 2 512 n0 0 0 nA))
  case first =>
    go_region_held3 (fun _ => True) (exact trivial) (first
      | (go_at_call 37; (with_reducible refine hv.mono ?_); rintro e w9 ⟨y3, rfl, hy0, hS12⟩; have hy3 : y3.c = nA := hy0)
      | (go_at_call 219; (with_reducible refine (HI2.out _ _ y3 hy3 (by simp) (by simp) (hS12.sw [_, _, _])).mono ?_); rintro e w10 ⟨rfl, hQ10⟩; have hQ11 := NdP2.drop2 hQ10)
      | fail)
    all_goals
      go_wp2_with fail
      go_meet
      exact ⟨rfl, hQ11⟩
  case rest =>
  obtain ⟨rfl, hQ10⟩ := hcut
  obtain ⟨E5, hS13, B5⟩ := hQ10.sep
  have HB5 := Lib.hid B5
  have hby := NdByt1 (HB4.out _ _ hS13.sw1) HI7.out (by decide) (by decide)
  clear hv hS11 hQ10 B5 HI2 hS13
  go_upto_region 11 with (first
    | (go_at_call 198; (with_reducible refine hby.mono ?_); rintro e w11 ⟨bv, rfl, hP11⟩; obtain ⟨E6, hS14, B6⟩ := hP11.sep)
    | (go_at_call 12; (with_reducible refine (aw_open (hS14.sw1) HI7.out).mono ?_); rintro e w12 ⟨o, rfl, hO12⟩)
    | fail)
  obtain ⟨E7, hS15, B7⟩ := hO12.sep
  have hS16 : Sep w w12 (E7 :: E6 :: E5 :: [oldE w]) := Sep.pick (L := [_, _, _, _, _]) [0, 2, 3, 4] (by decide) rfl hS15
  have hus := NdUsd1 (B6 _ _ hS16.sw1)
  have hl1 := NdLen1 (B7 _ _ hS16)
  have hl2 := NdLen2 (HB5.out _ _ hS16.sw2)
  rw [HU7.out, show ((26 : Nat) : Int) = 26 from rfl] at hus
  rw [HL7.out, show (([nA, nB] : List PC).length : Int) = 2 from rfl] at hl1
  rw [nd_kl, show ((1 : Nat) : Int) = 1 from rfl] at hl2
  have hmk := fun W => NdMostKey_ok 512 (by decide) W
  have hmv := fun W => NdMostValue_ok 512 (by decide) W
  rw [show ((512 : Nat) : Int) = 512 from rfl, show ((512 / 8 : Nat) : Int) = 64 from rfl] at hmk
  rw [show ((512 : Nat) : Int) = 512 from rfl, show ((512 / 16 * 3 : Nat) : Int) = 96 from rfl] at hmv
  have hB := hS16.belowOld (_v := w) (by simp)
  clear hby hP11 hS14 B6 hO12 hS15 B7 hS16 HB4 HB5 HL7 HU7 HI7
  go_wp2_with (first
    | (go_at_call 206; (with_reducible refine hus.mono ?_); rintro e w13 ⟨rfl, rfl⟩)
    | (go_at_call 203; (with_reducible refine hl1.mono ?_); rintro e w13 ⟨rfl, rfl⟩)
    | (go_at_call 221; (with_reducible refine hl2.mono ?_); rintro e w13 ⟨rfl, rfl⟩)
    | (go_at_call 33; (with_reducible refine (hmk _).mono ?_); rintro e w13 ⟨rfl, rfl⟩)
    | (go_at_call 35; (with_reducible refine (hmv _).mono ?_); rintro e w13 ⟨rfl, rfl⟩)
    | fail)
  go_ret
  exact ⟨rfl, hB⟩
end Go.Proofs.YtfcnkpofcekmgaaGreat

-- Pieces of memory: a book.
namespace Go.Proofs.YtfcnkpofcekmgaaGreat
open Go.RowKit
/-! ### the book -/
def bkF (xs : List (Value × List UInt8)) (j : Nat) : List UInt8 := (xs.getD j (.slice none 0 0, [])).2
def bookE (bb : Nat) (v : Value) (xs : List (Value × List UInt8)) : Ent :=
  ⟨fun g => g = bb ∨ v.ownBlock = some g ∨ InL (xs.map Prod.fst) g, fun w => BookAt w 0 bb v (xs.map Prod.fst) (bkF xs), fun h k =>
    ⟨k.blk.of_heap (h bb (.inl rfl)), Own.heap k.own (fun g hg => h g (.inr (.inl hg))), fun j u hj => Own.heap (k.each j u hj) (fun g hg => h g (.inr (.inr ⟨j, u, hj, hg⟩))), k.apart⟩⟩
theorem Sep.book {w0 w : World} {L : List Ent} (h : Sep w0 w L) : Sep w0 (w.alloc (.cells #[.slice none 0 0] 37)) (bookE w.heap.size (.slice none 0 0) [] :: L) := by
  refine (h.alloc 37 [.slice none 0 0]).weak (fun hp => ⟨hp, Own.nil _ _ _ _, fun j u hj => by simp at hj, fun i j u u' _ hi => by simp at hi⟩) (fun g hg => ?_)
  rcases hg with rfl | hg | ⟨j, u, hj, _⟩
  · rfl
  · cases hg
  · simp at hj
end Go.Proofs.YtfcnkpofcekmgaaGreat

-- copy into bytes that the call owns, at a place.
namespace Go.Proofs.YtfcnkpofcekmgaaGreat
open Go.RowKit
section laws
variable {w : World} {ops : Array Oper} {rest : List Oper} {o : Oper} {a : Act} {Q : Exit → Act → World → Prop}
end laws
end Go.Proofs.YtfcnkpofcekmgaaGreat

-- Step laws for regions that draw: string(bytes).
namespace Go.Proofs.YtfcnkpofcekmgaaGreat
open Go.RowKit
section laws
variable {w : World} {ops : Array Oper} {o : Oper} {a : Act} {Q : Exit → Act → World → Prop}
end laws
end Go.Proofs.YtfcnkpofcekmgaaGreat

-- espalierref03.Lent, AsLent: walks.
namespace Go.Proofs.YtfcnkpofcekmgaaGreat
open Go.RowKit
def mk9 (j : Nat) : List UInt8 := (List.range j).map fun (i : Nat) => UInt8.ofNat (200 + i)
theorem mk9_length (j : Nat) : (mk9 j).length = j := by simp [mk9]
theorem mk9_succ (j : Nat) : mk9 (j + 1) = mk9 j ++ [UInt8.ofNat (200 + j)] := by unfold mk9; rw [List.range_succ, List.map_append]; rfl
theorem mk9_get (j i : Nat) (h : i < j) : (mk9 j)[i]? = some (UInt8.ofNat (200 + i)) := by
  unfold mk9
  rw [List.getElem?_map, List.getElem?_range h]; rfl
def lent9 (l : List UInt8) (j : Nat) : List UInt8 := l ++ (mk9 j ++ List.replicate (9 - j) 0)
theorem lent9_length (l : List UInt8) (j : Nat) (h : j ≤ 9) : (lent9 l j).length = l.length + 9 := by simp [lent9, mk9_length]; omega
theorem lent9_set (l : List UInt8) (j : Nat) (h : j < 9) : (lent9 l j).set (l.length + j) (UInt8.ofNat (200 + j)) = lent9 l (j + 1) := by
  unfold lent9
  rw [List.set_append_right _ _ (by omega), Nat.add_sub_cancel_left]
  congr 1
  rw [List.set_append_right _ _ (by rw [mk9_length]; exact Nat.le_refl _), mk9_length, Nat.sub_self, mk9_succ, List.append_assoc]
  congr 1
  rw [show 9 - j = (9 - (j + 1)) + 1 by omega, List.replicate_succ, List.set_cons_zero]
  rfl
theorem lent9_start (l : List UInt8) : splice (List.replicate (l.length + 9) 0) 0 (l.take (min l.length (l.length + 9))) = lent9 l 0 := by
  rw [Nat.min_eq_left (by omega), List.take_length]
  unfold splice lent9
  simp [mk9, List.drop_replicate]
def marks9 : List UInt8 := mk9 9
theorem lent9_end (l : List UInt8) : lent9 l 9 = l ++ marks9 := by unfold lent9 marks9; simp
theorem b200 (j : Nat) (h : j < 9) : ((UInt8.ofNat (200 + j)).toNat : Int) = 200 + (j : Int) := by
  rw [UInt8.toNat_ofNat']
  omega
set_option maxHeartbeats 1000000 in
set_option maxRecDepth 20000 in
theorem Lent_any (v : Value) (l : List UInt8) (w : World) (hv : RdB w v l) (hl : l.length ≤ 140737488355328) :
    Calls Tryz.prog 87 #[v] w fun e w' => ∃ g, e = .returned (.slice (some ⟨g, 0, none⟩) l.length (l.length + 9)) ∧ OwB w' w.heap.size (.slice (some ⟨g, 0, none⟩) (l.length + 9) (l.length + 9)) (l ++ marks9) ∧ Below w.heap.size w w' := by
  obtain ⟨A, c, rfl, hm⟩ := hv.form
  go_enter Tryz.func87, Tryz.ntmps87
  go_wp2_with (first
    | (at_make; refine wp_make_B rfl (.tmp 7) (.tmp 7) rfl _ (l.length + 9) rfl rfl (by go_num) (by omega) ?_; intro w1 hb1 hw1 hs1)
    | ((with_reducible refine at_copy ?_); refine wp_copy_B rfl (.tmp 9) (.tmp 10) rfl _ (l.length + 9) _ w.heap.size 0 rfl _ hb1 (fun _ => rfl) (by simp) _ l rfl (hv.below hw1 (Nat.le_refl _)) ?_; intro w2 hb2 hg2; rw [lent9_start] at hb2)
    | fail)
  have hw2 := hw1.grown hg2 hw1.size (fun k hk => Nat.le_of_eq (Option.some.inj hk))
  clear hb1 hw1 hg2
  go_loopw [4] (fun i wr => ∃ d : Nat, d ≤ 9 ∧ i = .int .i64 ((l.length + d : Nat) : Int) ∧ OBlk wr w.heap.size 5 (bvs (lent9 l d)) ∧ Below w.heap.size w wr) (fun i _ => l.length + 9 - (intOf i).toNat)
  case atStart => exact ⟨0, by omega, rfl, hb2, hw2⟩
  case round =>
    clear hb2 hw2
    obtain ⟨d, hd, rfl, hb, hw⟩ := hrel
    by_cases hlt : d < 9
    · have hml := lent9_length l d (by omega)
      have hc := hb.cell' (bvs_get' (lent9 l d) (l.length + d) (by omega))
      have hf := hb.frozen (j := l.length + d) (by rw [bvs_length]; omega)
      have hset := hb.set (l.length + d) (.int .u8 ((UInt8.ofNat (200 + d)).toNat : Int))
      rw [← bvs_set, lent9_set l d hlt, b200 d hlt] at hset
      generalize ((lent9 l d)[l.length + d]'(by omega)).toNat = y at hc
      obtain ⟨k, hk⟩ : ∃ k, k = l.length + d := ⟨_, rfl⟩
      have e1 : (200 : Int) + (k : Int) - (l.length : Int) = 200 + (d : Int) := by omega
      have e2 : IntKind.u8.wrap (200 + (d : Int)) = 200 + (d : Int) := IntWalk.u8_in _ (by omega)
      have ik : k < l.length + 9 := by omega
      rw [← hk] at hc hf hset ⊢
      have HK := Lib.hid hk
      clear hml hk
      go_wp2_with fail
      go_roundw
      case rel => exact ⟨d + 1, by omega, by rw [HK.out]; go_num, hset, hw.setCell (Nat.le_refl _) _⟩
      case measure => have := HK.out; simp [intOf]; omega
    · obtain rfl : d = 9 := by omega
      have ho := hb.owB' (base := w.heap.size) (Nat.le_refl _) (by rw [lent9_length l 9 (by omega)]; simp only [maxLen]; omega)
      rw [lent9_length l 9 (by omega), lent9_end] at ho
      clear hb
      go_wp2_with fail
      go_ret
      exact ⟨w.heap.size, rfl, ho, hw⟩
end Go.Proofs.YtfcnkpofcekmgaaGreat

-- espalierref03.AsLent: the walk.
namespace Go.Proofs.YtfcnkpofcekmgaaGreat
open Go.RowKit
def as9 (l : List UInt8) (k : Nat) : List UInt8 := List.replicate k 77 ++ (l ++ marks9).drop k
theorem as9_length (l : List UInt8) (k : Nat) (h : k ≤ l.length + 9) : (as9 l k).length = l.length + 9 := by simp [as9, marks9, mk9_length]; omega
theorem as9_set (l : List UInt8) (k : Nat) (h : k < l.length + 9) : (as9 l k).set k 77 = as9 l (k + 1) := by
  have hl : (l ++ marks9).length = l.length + 9 := by simp [marks9, mk9_length]
  unfold as9
  rw [List.set_append_right _ _ (by simp), List.length_replicate, Nat.sub_self, List.drop_eq_getElem_cons (by omega), List.set_cons_zero, List.replicate_succ', List.append_assoc]
  rfl
theorem as9_get (l : List UInt8) (d : Nat) (h : d < 9) : (as9 l (l.length + d))[l.length + d]? = some (UInt8.ofNat (200 + d)) := by
  unfold as9
  rw [List.getElem?_append_right (by simp), List.length_replicate, Nat.sub_self, List.getElem?_drop, Nat.add_zero, List.getElem?_append_right (by omega), Nat.add_sub_cancel_left]
  exact mk9_get 9 d h
theorem OwB.part' {w : World} {base g n k c : Nat} {x s : List UInt8} (h : OwB w base (.slice (some ⟨g, 0, none⟩) (n + k) c) (x ++ s)) (hx : x.length = n) : RdB w (.slice (some ⟨g, 0, none⟩) n c) x := by
  subst hx
  have := (h.take (m := x.length) (by omega)).rd
  rw [List.take_left] at this
  exact this
set_option maxHeartbeats 2000000 in
set_option maxRecDepth 20000 in
theorem AsLent_any (g n : Nat) (vb : Value) (l : List UInt8) (base : Nat) (w : World) (hn : l.length = n) (ho : OwB w base (.slice (some ⟨g, 0, none⟩) (n + 9) (n + 9)) (l ++ marks9)) (hv : RdB w vb l) (hl : n ≤ 140737488355328) :
    Calls Tryz.prog 88 #[.slice (some ⟨g, 0, none⟩) n (n + 9), vb] w fun e w' => e = .returned (.bool true) ∧ w.grownBy w' (some g) := by
  subst hn
  obtain ⟨A, c, rfl, hm⟩ := hv.form
  have q1 := run_B_string hv
  have q2 := run_B_string (ho.part' rfl)
  go_enter Tryz.func88, Tryz.ntmps88
  go_wp2_with fail
  clear q1 q2
  go_loopw [6, 7] (fun gd i wr => ∃ k : Nat, gd = .bool true ∧ i = .int .i64 (k : Int) ∧ k ≤ l.length + 9 ∧ OwB wr base (.slice (some ⟨g, 0, none⟩) (l.length + 9) (l.length + 9)) (as9 l k) ∧ w.grownBy wr (some g)) (fun _ i _ => l.length + 9 - (intOf i).toNat)
  case atStart => exact ⟨0, rfl, rfl, Nat.zero_le _, by simpa [as9] using ho, World.grownBy.refl w _⟩
  case round =>
    clear ho hv
    obtain ⟨k, rfl, rfl, hk, ho, hg⟩ := hrel
    by_cases hlt : k < l.length + 9
    · have hml := as9_length l k hk
      have hc := ho.cell (j := k) (by omega)
      have hf := ho.frozen (j := k) (by omega)
      have hset := ho.set k 77
      rw [as9_set l k hlt] at hset
      have hset' : OwB (wr.setCell ⟨g, k, none⟩ (.int .u8 77)) base (.slice (some ⟨g, 0, none⟩) (l.length + 9) (l.length + 9)) (as9 l (k + 1)) := hset
      have ik : (k : Int) < ((l.length + 9 : Nat) : Int) := by omega
      have ik2 : k < l.length + 9 := hlt
      by_cases hd : k < l.length
      · have id : (k : Int) < (l.length : Int) := by omega
        have id2 : ¬ (l.length : Int) ≤ (k : Int) := by omega
        generalize ((as9 l k)[k]'(by omega)).toNat = y at hc
        clear hml hset
        go_wp2_with fail
        go_roundw
        case rel => exact ⟨k + 1, rfl, by go_num, by omega, hset', grownBy_trans hg (grownBy_setCell _ _ _)⟩
        case measure => simp [intOf]; omega
      · obtain ⟨d, hd2⟩ : ∃ d, k = l.length + d := ⟨k - l.length, by omega⟩
        have hd9 : d < 9 := by omega
        have e0 : (as9 l k)[k]'(by omega) = UInt8.ofNat (200 + d) := by
          have := as9_get l d hd9
          rw [← hd2, List.getElem?_eq_getElem (by omega)] at this
          exact Option.some.inj this
        rw [e0, b200 d hd9] at hc
        have e1 : (200 : Int) + (k : Int) - (l.length : Int) = 200 + (d : Int) := by omega
        have e2 : IntKind.u8.wrap (200 + (d : Int)) = 200 + (d : Int) := IntWalk.u8_in _ (by omega)
        have id : (l.length : Int) ≤ (k : Int) := by omega
        clear hml hset e0 hd2 hd
        go_wp2_with fail
        go_roundw
        case rel => exact ⟨k + 1, rfl, by go_num, by omega, hset', grownBy_trans hg (grownBy_setCell _ _ _)⟩
        case measure => simp [intOf]; omega
    · obtain rfl : k = l.length + 9 := by omega
      go_wp2_with fail
      go_ret
      exact ⟨rfl, hg⟩
end Go.Proofs.YtfcnkpofcekmgaaGreat

-- Pieces of memory: bytes that were lent.
namespace Go.Proofs.YtfcnkpofcekmgaaGreat
open Go.RowKit
theorem lentC_rd0 {w : World} {b0 g m : Nat} {bl : List UInt8} (h : OwB w b0 (.slice (some ⟨g, 0, none⟩) (m + 9) (m + 9)) (bl ++ marks9)) (hl : bl.length = m) : RdB w (.slice (some ⟨g, 0, none⟩) m (m + 9)) bl := by
  have h1 := OwB.take h (m := m) (by omega)
  rw [List.take_left' hl] at h1
  exact h1.rd
theorem lentC_rd {w : World} {b0 g : Nat} {bl : List UInt8} (h : OwB w b0 (.slice (some ⟨g, 0, none⟩) (bl.length + 9) (bl.length + 9)) (bl ++ marks9)) : RdB w (.slice (some ⟨g, 0, none⟩) bl.length (bl.length + 9)) bl := lentC_rd0 h rfl
end Go.Proofs.YtfcnkpofcekmgaaGreat

-- Pieces of memory: cells that are read.
namespace Go.Proofs.YtfcnkpofcekmgaaGreat
open Go.RowKit
theorem Sep.rdCs {w0 w v : World} {L : List Ent} {x : Value} {l : List CV} (h : Sep w0 w L) (hm : oldE v ∈ L) (hr : RdCs v x l) : RdCs w x l :=
  ⟨hr.form.keep (h.old_cell hm), fun y hy => { hr.ok y hy with k := h.rd hm (hr.ok y hy).k, v := h.rd hm (hr.ok y hy).v }⟩
end Go.Proofs.YtfcnkpofcekmgaaGreat

-- espalierref06.LentCell, AsLentCell: walks.
namespace Go.Proofs.YtfcnkpofcekmgaaGreat
open Go.RowKit
/-- A cell that was lent: its bytes lie in blocks of their own. -/
def lentCV (gk gv : Nat) (c : PC) : CV := ⟨.slice (some ⟨gk, 0, none⟩) c.key.length (c.key.length + 9), .slice (some ⟨gv, 0, none⟩) c.val.length (c.val.length + 9), c⟩
structure LentAt (W : World) (base gk gv : Nat) (c : PC) : Prop where
  k : OwB W base (.slice (some ⟨gk, 0, none⟩) (c.key.length + 9) (c.key.length + 9)) (c.key ++ marks9)
  v : OwB W base (.slice (some ⟨gv, 0, none⟩) (c.val.length + 9) (c.val.length + 9)) (c.val ++ marks9)
  lt : gk < gv
theorem LentAt.grown {w w' : World} {base gk gv : Nat} {c : PC} {row : Option Nat} (h : LentAt w base gk gv c) (hg : w.grownBy w' row) (h1 : some gk ≠ row) (h2 : some gv ≠ row) : LentAt w' base gk gv c :=
  ⟨h.k.grown hg (fun g e => by injection e with e; subst e; exact h1), h.v.grown hg (fun g e => by injection e with e; subst e; exact h2), h.lt⟩
theorem LentAt.below {w w' : World} {base gk gv : Nat} {c : PC} (h : LentAt w base gk gv c) (hb : Below w.heap.size w w') : LentAt w' base gk gv c :=
  ⟨h.k.below2 hb, h.v.below2 hb, h.lt⟩
def LentCAt (w : World) (c : PC) (e : Ending) (w' : World) : Prop := ∃ gk gv, e = .returned (cellV (lentCV gk gv c)) ∧ LentAt w' w.heap.size gk gv c ∧ Below w.heap.size w w'
set_option maxRecDepth 100000 in
set_option maxHeartbeats 8000000 in
theorem LentCell_any (x : CV) (w : World) (hx : x.ok w) (h1 : x.c.key.length ≤ 140737488355328) (h2 : x.c.val.length ≤ 140737488355328) :
    Calls Tryz.prog 46 #[cellV x] w (LentCAt w x.c) := by
  obtain ⟨A, ca, B, cb, key, ck, val, pg, ct, rfl, _, _⟩ := CV.form hx
  have hxk : RdB w (.slice A key.length ca) key := hx.k
  have hxv : RdB w (.slice B val.length cb) val := hx.v
  simp only at h1 h2
  have hb0 : Below w.heap.size w (w.alloc (.cells #[.slice A key.length ca, .int .i64 ck, .slice B val.length cb, .int .i64 pg, .int .i64 ct] 43)) := (Below.refl _ _).alloc (Nat.le_refl _) _
  have hc0 := OBlk.new' w 43 [.slice A key.length ca, .int .i64 ck, .slice B val.length cb, .int .i64 pg, .int .i64 ct]
  unfold cellV LentCAt
  clear hx
  go_enter Tryz.func46, Tryz.ntmps46
  go_upto_region 1 with (fail)
  have hcp := hc0.alloc (.cells #[.slice none 0 0, .int .i64 0, .slice none 0 0, .int .i64 0, .int .i64 0] 43)
  have hcr : OBlk ((w.alloc (.cells #[.slice A key.length ca, .int .i64 ck, .slice B val.length cb, .int .i64 pg, .int .i64 ct] 43)).alloc (.cells #[.slice none 0 0, .int .i64 0, .slice none 0 0, .int .i64 0, .int .i64 0] 43)) (w.heap.size + 1) 43 [.slice none 0 0, .int .i64 0, .slice none 0 0, .int .i64 0, .int .i64 0] := by
    have h := OBlk.new' (w.alloc (.cells #[.slice A key.length ca, .int .i64 ck, .slice B val.length cb, .int .i64 pg, .int .i64 ct] 43)) 43 [.slice none 0 0, .int .i64 0, .slice none 0 0, .int .i64 0, .int .i64 0]
    rw [World.size_alloc] at h
    exact h
  have hb2 : Below w.heap.size w ((w.alloc (.cells #[.slice A key.length ca, .int .i64 ck, .slice B val.length cb, .int .i64 pg, .int .i64 ct] 43)).alloc (.cells #[.slice none 0 0, .int .i64 0, .slice none 0 0, .int .i64 0, .int .i64 0] 43)) := hb0.alloc hb0.size _
  clear hc0 hb0
  generalize (w.alloc (.cells #[.slice A key.length ca, .int .i64 ck, .slice B val.length cb, .int .i64 pg, .int .i64 ct] 43)).alloc (.cells #[.slice none 0 0, .int .i64 0, .slice none 0 0, .int .i64 0, .int .i64 0] 43) = w2 at *
  have hcp0 := hcp.lt
  have hcr0 := hcr.lt
  have k0 := hcp.cell' (j := 0) rfl
  have hk2 := hxk.below hb2 (Nat.le_refl _)
  go_upto_region 2 with (first
    | (go_at_call 87; refine (Lent_any _ key _ hk2 h1).mono ?_; rintro e w3 ⟨gk, rfl, hok, hb3⟩; have f3 := (hcp.below hb3 hcp0).frozen (j := 0) (show 0 < 5 by omega); have k3 := (hcp.below hb3 hcp0).cell' (j := 0) rfl)
    | fail)
  have hcp4 := (hcp.below hb3 hcp0).set 0 (.slice (some ⟨gk, 0, none⟩) key.length (key.length + 9))
  have hcr4 := (hcr.below hb3 hcr0).far (p := ⟨w.heap.size, 0, none⟩) (by simp) (.slice (some ⟨gk, 0, none⟩) key.length (key.length + 9))
  have hgk := (Own.lt hok gk rfl).1
  have hgk2 := (Own.lt hok gk rfl).2
  have hok4 := hok.grown (grownBy_setCell w3 ⟨w.heap.size, 0, none⟩ (.slice (some ⟨gk, 0, none⟩) key.length (key.length + 9))) (fun g e h => by
    have e' : gk = g := Option.some.inj e
    have h' : g = w.heap.size := Option.some.inj h
    omega)
  have hb4 := (hb2.trans (hb3.mono hb2.size)).setCell (p := ⟨w.heap.size, 0, none⟩) (Nat.le_refl _) (.slice (some ⟨gk, 0, none⟩) key.length (key.length + 9))
  clear hok hb3 f3 k3 k0 hk2 hcp hcr
  generalize w3.setCell ⟨w.heap.size, 0, none⟩ (.slice (some ⟨gk, 0, none⟩) key.length (key.length + 9)) = w4 at *
  simp only [List.set_cons_zero] at hcp4
  have hcp40 := hcp4.lt
  have hcr40 := hcr4.lt
  have k0 := hcp4.cell' (j := 2) rfl
  have hk2 := hxv.below hb4 (Nat.le_refl _)
  go_upto_region 3 with (first
    | (go_at_call 87; refine (Lent_any _ val _ hk2 h2).mono ?_; rintro e w5 ⟨gv, rfl, hov, hb5⟩; have f3 := (hcp4.below hb5 hcp40).frozen (j := 2) (show 2 < 5 by omega); have k3 := (hcp4.below hb5 hcp40).cell' (j := 2) rfl)
    | fail)
  have hcp6 := (hcp4.below hb5 hcp40).set 2 (.slice (some ⟨gv, 0, none⟩) val.length (val.length + 9))
  have hcr6 := (hcr4.below hb5 hcr40).far (p := ⟨w.heap.size, 2, none⟩) (by simp) (.slice (some ⟨gv, 0, none⟩) val.length (val.length + 9))
  have hgv := (Own.lt hov gv rfl).1
  have hgv2 := (Own.lt hov gv rfl).2
  have hgk4 := (Own.lt hok4 gk rfl).2
  have hov6 := hov.grown (grownBy_setCell w5 ⟨w.heap.size, 2, none⟩ (.slice (some ⟨gv, 0, none⟩) val.length (val.length + 9))) (fun g e h => by
    have e' : gv = g := Option.some.inj e
    have h' : g = w.heap.size := Option.some.inj h
    omega)
  have hok6 := (hok4.below2 hb5).grown (grownBy_setCell w5 ⟨w.heap.size, 2, none⟩ (.slice (some ⟨gv, 0, none⟩) val.length (val.length + 9))) (fun g e h => by
    have e' : gk = g := Option.some.inj e
    have h' : g = w.heap.size := Option.some.inj h
    omega)
  have hb6 := (hb4.trans (hb5.mono hb4.size)).setCell (p := ⟨w.heap.size, 2, none⟩) (Nat.le_refl _) (.slice (some ⟨gv, 0, none⟩) val.length (val.length + 9))
  have hlt : gk < gv := by omega
  have hb4s : w.heap.size ≤ w4.heap.size := hb4.size
  have hok6 := OwB.low hok6 hb2.size
  have hbase2 : w.heap.size + 1 < w2.heap.size := hcr0
  clear hov hok4 hb5 f3 k3 k0 hk2 hcp4 hcr4 hcp40 hcr40 hb4
  generalize w5.setCell ⟨w.heap.size, 2, none⟩ (.slice (some ⟨gv, 0, none⟩) val.length (val.length + 9)) = w6 at *
  simp only [List.set_cons_zero, List.set_cons_succ] at hcp6
  obtain ⟨c0, c1, c2, c3, c4⟩ := cells5 hcp6
  obtain ⟨d0, d1, d2, d3, d4⟩ := cells5 hcr6
  have f0 := hcr6.frozen (j := 0) (show 0 < 5 by omega)
  have f1 := hcr6.frozen (j := 1) (show 1 < 5 by omega)
  have f2 := hcr6.frozen (j := 2) (show 2 < 5 by omega)
  have f3 := hcr6.frozen (j := 3) (show 3 < 5 by omega)
  have f4 := hcr6.frozen (j := 4) (show 4 < 5 by omega)
  go_wp2_with fail
  have hcr7 : OBlk (((((w6.setCell ⟨w.heap.size + 1, 0, none⟩ (.slice (some ⟨gk, 0, none⟩) key.length (key.length + 9))).setCell ⟨w.heap.size + 1, 1, none⟩ (.int .i64 ck)).setCell ⟨w.heap.size + 1, 2, none⟩ (.slice (some ⟨gv, 0, none⟩) val.length (val.length + 9))).setCell ⟨w.heap.size + 1, 3, none⟩ (.int .i64 pg)).setCell ⟨w.heap.size + 1, 4, none⟩ (.int .i64 ct)) (w.heap.size + 1) 43 [(.slice (some ⟨gk, 0, none⟩) key.length (key.length + 9)), .int .i64 ck, (.slice (some ⟨gv, 0, none⟩) val.length (val.length + 9)), .int .i64 pg, .int .i64 ct] := ((((hcr6.set 0 (.slice (some ⟨gk, 0, none⟩) key.length (key.length + 9))).set 1 (.int .i64 ck)).set 2 (.slice (some ⟨gv, 0, none⟩) val.length (val.length + 9))).set 3 (.int .i64 pg)).set 4 (.int .i64 ct)
  have hg7 : w6.grownBy (((((w6.setCell ⟨w.heap.size + 1, 0, none⟩ (.slice (some ⟨gk, 0, none⟩) key.length (key.length + 9))).setCell ⟨w.heap.size + 1, 1, none⟩ (.int .i64 ck)).setCell ⟨w.heap.size + 1, 2, none⟩ (.slice (some ⟨gv, 0, none⟩) val.length (val.length + 9))).setCell ⟨w.heap.size + 1, 3, none⟩ (.int .i64 pg)).setCell ⟨w.heap.size + 1, 4, none⟩ (.int .i64 ct)) (some (w.heap.size + 1)) := grownBy_trans (grownBy_trans (grownBy_trans (grownBy_trans (grownBy_setCell _ _ _) (grownBy_setCell _ _ _)) (grownBy_setCell _ _ _)) (grownBy_setCell _ _ _)) (grownBy_setCell _ _ _)
  generalize (((((w6.setCell ⟨w.heap.size + 1, 0, none⟩ (.slice (some ⟨gk, 0, none⟩) key.length (key.length + 9))).setCell ⟨w.heap.size + 1, 1, none⟩ (.int .i64 ck)).setCell ⟨w.heap.size + 1, 2, none⟩ (.slice (some ⟨gv, 0, none⟩) val.length (val.length + 9))).setCell ⟨w.heap.size + 1, 3, none⟩ (.int .i64 pg)).setCell ⟨w.heap.size + 1, 4, none⟩ (.int .i64 ct)) = w7 at *
  obtain ⟨r0, r1, r2, r3, r4⟩ := cells5 hcr7
  refine bodyPost_ret (v := .agg #[(.slice (some ⟨gk, 0, none⟩) key.length (key.length + 9)), .int .i64 ck, (.slice (some ⟨gv, 0, none⟩) val.length (val.length + 9)), .int .i64 pg, .int .i64 ct]) ?_ rfl ?_
  · simp [results, Tryz.results46, go_sem, r0, r1, r2, r3, r4]
  · refine ⟨gk, gv, rfl, ⟨hok6.grown hg7 (fun g e h => ?_), OwB.low (hov6.grown hg7 (fun g e h => ?_)) hb4s, hlt⟩, hb6.grown hg7 hb6.size (fun g e => ?_)⟩
    · have e' : gk = g := Option.some.inj e
      have h' : g = w.heap.size + 1 := Option.some.inj h
      omega
    · have e' : gv = g := Option.some.inj e
      have h' : g = w.heap.size + 1 := Option.some.inj h
      omega
    · have h' : w.heap.size + 1 = g := Option.some.inj e
      omega
end Go.Proofs.YtfcnkpofcekmgaaGreat

-- espalierref06.AsLentCell: the walk.
namespace Go.Proofs.YtfcnkpofcekmgaaGreat
open Go.RowKit
set_option maxRecDepth 100000 in
set_option maxHeartbeats 8000000 in
theorem AsLentCell_any (w0 : World) (x : CV) (gk gv : Nat) (w : World) (hx : x.ok w0) (hb0 : Below w0.heap.size w0 w) (hL : LentAt w w0.heap.size gk gv x.c) (h1 : x.c.key.length ≤ 140737488355328) (h2 : x.c.val.length ≤ 140737488355328) :
    Calls Tryz.prog 47 #[cellV (lentCV gk gv x.c), cellV x] w fun e w' => e = .returned (.bool true) ∧ Turn (fun g => g = gk ∨ g = gv) w w' := by
  obtain ⟨A, ca, B, cb, key, ck, val, pg, ct, rfl, _, _⟩ := CV.form hx
  have hxk : RdB w0 (.slice A key.length ca) key := hx.k
  have hxv : RdB w0 (.slice B val.length cb) val := hx.v
  obtain ⟨hok, hov, hlt⟩ := hL
  simp only at h1 h2 hok hov
  have hT0 : Turn (fun g => g = gk ∨ g = gv) w w := Turn.refl _ _
  have hT1 := hT0.alloc (.cells #[.slice (some ⟨gk, 0, none⟩) key.length (key.length + 9), .int .i64 ck, .slice (some ⟨gv, 0, none⟩) val.length (val.length + 9), .int .i64 pg, .int .i64 ct] 43)
  have hT2 := hT1.alloc (.cells #[.slice A key.length ca, .int .i64 ck, .slice B val.length cb, .int .i64 pg, .int .i64 ct] 43)
  have hcp := (OBlk.new' w 43 [.slice (some ⟨gk, 0, none⟩) key.length (key.length + 9), .int .i64 ck, .slice (some ⟨gv, 0, none⟩) val.length (val.length + 9), .int .i64 pg, .int .i64 ct]).alloc (.cells #[.slice A key.length ca, .int .i64 ck, .slice B val.length cb, .int .i64 pg, .int .i64 ct] 43)
  have hcq := OBlk.new' (w.alloc (.cells #[.slice (some ⟨gk, 0, none⟩) key.length (key.length + 9), .int .i64 ck, .slice (some ⟨gv, 0, none⟩) val.length (val.length + 9), .int .i64 pg, .int .i64 ct] 43)) 43 [.slice A key.length ca, .int .i64 ck, .slice B val.length cb, .int .i64 pg, .int .i64 ct]
  rw [World.size_alloc] at hcq
  have hgk := Own.lt hok gk rfl
  have hgv := Own.lt hov gv rfl
  have hok := (hok.alloc (.cells #[.slice (some ⟨gk, 0, none⟩) key.length (key.length + 9), .int .i64 ck, .slice (some ⟨gv, 0, none⟩) val.length (val.length + 9), .int .i64 pg, .int .i64 ct] 43)).alloc (.cells #[.slice A key.length ca, .int .i64 ck, .slice B val.length cb, .int .i64 pg, .int .i64 ct] 43)
  have hov := (hov.alloc (.cells #[.slice (some ⟨gk, 0, none⟩) key.length (key.length + 9), .int .i64 ck, .slice (some ⟨gv, 0, none⟩) val.length (val.length + 9), .int .i64 pg, .int .i64 ct] 43)).alloc (.cells #[.slice A key.length ca, .int .i64 ck, .slice B val.length cb, .int .i64 pg, .int .i64 ct] 43)
  have hF : ∀ b, (b = gk ∨ b = gv) → w0.heap.size ≤ b := fun b hb => by rcases hb with rfl | rfl <;> omega
  have hbs := hb0.size
  unfold cellV lentCV
  clear hx hT0 hT1
  go_enter Tryz.func47, Tryz.ntmps47
  go_upto_region 1 with (fail)
  generalize (w.alloc (.cells #[.slice (some ⟨gk, 0, none⟩) key.length (key.length + 9), .int .i64 ck, .slice (some ⟨gv, 0, none⟩) val.length (val.length + 9), .int .i64 pg, .int .i64 ct] 43)).alloc (.cells #[.slice A key.length ca, .int .i64 ck, .slice B val.length cb, .int .i64 pg, .int .i64 ct] 43) = w2 at *
  obtain ⟨c0, c1, c2, c3, c4⟩ := cells5 hcp
  obtain ⟨d0, d1, d2, d3, d4⟩ := cells5 hcq
  go_upto_region 2 with (fail)
  clear c0 c1 c2 c3 c4 d0 d1 d2 d3 d4
  generalize w2 = w3 at *
  have hcp0 := hcp.lt
  have hcq0 := hcq.lt
  have hB3 := hb0.trans (hT2.below hbs hF)
  obtain ⟨c0, -, -, -, -⟩ := cells5 hcp
  obtain ⟨d0, -, -, -, -⟩ := cells5 hcq
  have hal := AsLent_any gk key.length _ key _ w3 rfl hok (hxk.below hB3 (Nat.le_refl _)) h1
  go_upto_region 3 with (first
    | (go_at_call 88; refine hal.mono ?_; rintro e w4 ⟨rfl, hg4⟩)
    | fail)
  have hT4 := hT2.grown hg4 (fun b e => .inl (.inl (Option.some.inj e).symm))
  have hov4 := hov.grown hg4 (fun g e h => by
    have e' : gv = g := Option.some.inj e
    have h' : g = gk := Option.some.inj h
    omega)
  have hcp4 := hcp.grown hg4 (fun h => by have h' : w.heap.size = gk := Option.some.inj h; omega)
  have hcq4 := hcq.grown hg4 (fun h => by have h' : w.heap.size + 1 = gk := Option.some.inj h; omega)
  have hB4 := hb0.trans (hT4.below hbs hF)
  clear hal hg4 hok hov hcp hcq hB3 hT2 c0 d0 hcp0 hcq0
  obtain ⟨-, -, c2, -, -⟩ := cells5 hcp4
  obtain ⟨-, -, d2, -, -⟩ := cells5 hcq4
  have hal := AsLent_any gv val.length _ val _ w4 rfl hov4 (hxv.below hB4 (Nat.le_refl _)) h2
  go_wp2_with (first
    | (go_at_call 88; refine hal.mono ?_; rintro e w5 ⟨rfl, hg5⟩)
    | fail)
  go_ret
  exact ⟨rfl, hT4.grown hg5 (fun b e => .inl (.inr (Option.some.inj e).symm))⟩
end Go.Proofs.YtfcnkpofcekmgaaGreat

-- Cells made, cells stored: see Cs.

