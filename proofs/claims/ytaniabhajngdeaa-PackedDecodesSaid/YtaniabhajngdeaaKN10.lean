/- Texts joined: packed.Page as a piece; New, Open, Len, Kind, Used, Bytes, Find, Cell; packed.Open, Page.Cell; packed.Page's refused, changes; packed.Page.changes; A row of cells -/
import Derived.Test.YtaniabhajngdeaaKN5
import Derived.Test.YtaniabhajngdeaaKN7
import Derived.Test.YtaniabhajngdeaaKN9
import Derived.Lib.AppendZeros
import Derived.Lib.Overlaps
-- packed.Page as a piece; New, Open, Len, Kind, Used, Bytes, Find, Cell: walks.
namespace Go.Proofs.Ytaniabhajngdeaa
open Go.RowKit
/-- A packed page that is worked on. -/
def pkE (p : Nat) (kind : Int) (P : Nat) (u pv : Value) (used waste : Nat) (l : List CV) (pre : List UInt8) : Ent := allE [pkB p kind P u pv used waste, csE u l, bytesE pv pre]
def PgK (w0 w : World) (L : List Ent) (p P : Nat) (kind : Int) (s : KP) : Prop :=
  ∃ u pv l, pcs l = s.l ∧ RngC l ∧ Sep w0 w (pkE p kind P u pv (usedP kind s) s.waste l s.pre :: L)
section
variable {w0 w w' : World} {L : List Ent} {p P used waste : Nat} {kind : Int} {u pv : Value} {l : List CV} {pre : List UInt8} {s : KP}
theorem Sep.pkOpen (h : Sep w0 w (pkE p kind P u pv used waste l pre :: L)) : Sep w0 w (pkB p kind P u pv used waste :: ownE 50 5 u l.length (flatC l) :: bytesE pv pre :: (cellsE l ++ L)) := by
  have h1 : Sep w0 w (pkB p kind P u pv used waste :: csE u l :: bytesE pv pre :: L) := h.unpack
  have h2 : Sep w0 w (ownE 50 5 u l.length (flatC l) :: (cellsE l ++ (pkB p kind P u pv used waste :: bytesE pv pre :: L))) := Sep.unpack (D := ownE 50 5 u l.length (flatC l) :: cellsE l) h1.sw1
  refine h2.perm ?_
  exact (List.Perm.cons _ (List.perm_append_comm_assoc (cellsE l) [pkB p kind P u pv used waste, bytesE pv pre] L)).trans (List.Perm.swap _ _ _)
theorem Sep.pkShut (h : Sep w0 w (pkB p kind P u pv used waste :: csE u l :: bytesE pv pre :: L)) : Sep w0 w (pkE p kind P u pv used waste l pre :: L) := Sep.pack (D := [_, _, _]) h
theorem Sep.pkClose (h : Sep w0 w (pkB p kind P u pv used waste :: ownE 50 5 u l.length (flatC l) :: bytesE pv pre :: (cellsE l ++ L))) : Sep w0 w (pkE p kind P u pv used waste l pre :: L) := by
  refine Sep.pkShut ((Sep.pack (D := ownE 50 5 u l.length (flatC l) :: cellsE l) (L := pkB p kind P u pv used waste :: bytesE pv pre :: L) (h.perm ?_)).sw1)
  exact (List.Perm.swap _ _ _).trans (List.Perm.cons _ (List.perm_append_comm_assoc (cellsE l) [pkB p kind P u pv used waste, bytesE pv pre] L).symm)
theorem csIn_open (hr : RngC l) : CsIn (ownE 50 5 u l.length (flatC l) :: bytesE pv pre :: (cellsE l ++ L)) u l := fun W hW => by
  have ho : Own W 0 50 5 u l.length (flatC l) := hW (ownE _ _ _ _ _) (List.mem_cons_self ..)
  refine ⟨ho.rd, fun x hx => ?_⟩
  have hk : OwB W 0 x.kv x.c.key := hW (bytesE x.kv x.c.key) (by simp only [List.mem_cons, List.mem_append]; exact .inr (.inr (.inl (List.mem_flatMap.2 ⟨x, hx, by simp⟩))))
  have hv : OwB W 0 x.vv x.c.val := hW (bytesE x.vv x.c.val) (by simp only [List.mem_cons, List.mem_append]; exact .inr (.inr (.inl (List.mem_flatMap.2 ⟨x, hx, by simp⟩))))
  exact ⟨hk.rd, hv.rd, (hr x hx).1, (hr x hx).2.1, (hr x hx).2.2⟩
/-- The page, as it is read. -/
theorem Sep.kAt (h : Sep w0 w (pkE p kind P u pv used waste l pre :: L)) (hr : RngC l) : KAt w p kind P u pv used waste l :=
  ⟨h.pkOpen.head, h.pkOpen.openRd (by simp) (fun E hE => by simp [hE]) hr⟩
theorem PgK.below (h : PgK w0 w L p P kind s) (hb : Below w.heap.size w w') : PgK w0 w' L p P kind s := by
  obtain ⟨u, pv, l, h1, h2, h3⟩ := h
  exact ⟨u, pv, l, h1, h2, h3.below hb⟩
set_option maxRecDepth 20000 in
theorem KLen_any (h : KAt w p kind P u pv used waste l) : Calls Try.prog 29 #[.pointer (some ⟨p, 0, none⟩)] w fun e w' => e = .returned (.int .i64 (l.length : Int)) ∧ w = w' := by
  obtain ⟨A, c, rfl, hm, hc⟩ := h.rd.slice
  obtain ⟨b0, b1, b2, b3, b4, b5⟩ := cells6 h.blk
  go_enter Try.func29, Try.ntmps29
  go_wp2_with fail
  go_ret
  exact ⟨rfl, rfl⟩
set_option maxRecDepth 20000 in
theorem KKind_any (h : KAt w p kind P u pv used waste l) : Calls Try.prog 28 #[.pointer (some ⟨p, 0, none⟩)] w fun e w' => e = .returned (.int .i64 kind) ∧ w = w' := by
  obtain ⟨b0, b1, b2, b3, b4, b5⟩ := cells6 h.blk
  go_enter Try.func28, Try.ntmps28
  go_wp2_with fail
  go_ret
  exact ⟨rfl, rfl⟩
set_option maxRecDepth 20000 in
theorem KUsed_any (h : KAt w p kind P u pv used waste l) : Calls Try.prog 39 #[.pointer (some ⟨p, 0, none⟩)] w fun e w' => e = .returned (.int .i64 (used : Int)) ∧ w = w' := by
  obtain ⟨b0, b1, b2, b3, b4, b5⟩ := cells6 h.blk
  go_enter Try.func39, Try.ntmps39
  go_wp2_with fail
  go_ret
  exact ⟨rfl, rfl⟩
set_option maxRecDepth 20000 in
theorem KWaste_any (h : KAt w p kind P u pv used waste l) : Calls Try.prog 38 #[.pointer (some ⟨p, 0, none⟩)] w fun e w' => e = .returned (.int .i64 (waste : Int)) ∧ w = w' := by
  obtain ⟨b0, b1, b2, b3, b4, b5⟩ := cells6 h.blk
  go_enter Try.func38, Try.ntmps38
  go_wp2_with fail
  go_ret
  exact ⟨rfl, rfl⟩
set_option maxRecDepth 20000 in
set_option maxHeartbeats 1000000 in
theorem KBytes_any (h : KAt w p kind P u pv used waste l) (hl : l.length ≤ 65536) (hP : P ≤ 65536) (hk : isKindB kind = true) (hp : isPowB (P : Int) = true) (he : encK kind (pcs l) P = 0) :
    Calls Try.prog 27 #[.pointer (some ⟨p, 0, none⟩)] w fun e w' => ∃ g, e = .returned (.slice (some ⟨g, 0, none⟩) P P) ∧ w.heap.size ≤ g ∧ OBlk w' g 5 (bvs (laidK kind (pcs l) P)) ∧ Below w.heap.size w w' := by
  obtain ⟨A, c, rfl, hm, hc⟩ := h.rd.slice
  obtain ⟨b0, b1, b2, b3, b4, b5⟩ := cells6 h.blk
  have hE : ∀ m, Calls Try.prog 16 #[.int .i64 kind, .slice A l.length c, .int .i64 (P : Int)] (w.drewN m) fun e w' => ∃ g, e = .returned (.tuple #[.slice (some ⟨g, 0, none⟩) P P, .int .i64 0]) ∧ w.heap.size ≤ g ∧ OBlk w' g 5 (bvs (laidK kind (pcs l) P)) ∧ Below w.heap.size w w' := fun m => by
    have hb := below_drewN (Below.refl w.heap.size w) m
    refine (KEncode_any kind _ l (P : Int) (by unfold i64r; omega) (w.drewN m) (h.rd.below hb) (by omega)).mono ?_
    unfold EncKAt
    simp only [Int.toNat_natCast]
    rintro e w' ⟨hw, ⟨hf, -⟩ | ⟨-, ⟨hne, -⟩ | ⟨-, g, rfl, hg, hbk⟩⟩⟩
    · rw [hk, hp] at hf; cases hf
    · exact absurd he hne
    · exact ⟨g, rfl, hg, hbk, hb.trans (hw.mono hb.size)⟩
  have HE := Lib.hid hE
  have hblk := h.blk
  clear hE he hk hp h
  go_enter Try.func27, Try.ntmps27
  go_upto_region 1 with (fail)
  go_region_held3 (fun w' => w'.cell? ⟨p, 0, none⟩ = some (.int .i64 kind) ∧ w'.cell? ⟨p, 1, none⟩ = some (.int .i64 (P : Int)) ∧ w'.cell? ⟨p, 2, none⟩ = some (.slice A l.length c))
    (first | exact ⟨b0, b1, b2⟩ | (have hx := cells6 (hblk.below hw2 hblk.lt); exact ⟨hx.1, hx.2.1, hx.2.2.1⟩))
    (first
      | (go_at_call 16; refine (HE.out 1).mono ?_; rintro e w2 ⟨g, rfl, hg, hbk, hw2⟩)
      | fail)
  go_wp2_with fail
  go_ret
  exact ⟨g, rfl, hg, hbk, hw2⟩
set_option maxRecDepth 20000 in
set_option maxHeartbeats 1000000 in
theorem KNew_ok (kind : Int) (P : Nat) (hk : isKindB kind = true) (hp : isPowB (P : Int) = true) (h : Sep w0 w L) : Calls Try.prog 32 #[.int .i64 kind, .int .i64 (P : Int)] w fun e w' =>
    ∃ p, e = .returned (.tuple #[.pointer (some ⟨p, 0, none⟩), .int .i64 0]) ∧ PgK w0 w' L p P kind ⟨[], [], 0⟩ := by
  have hr := isPowB_range hp
  have hKi := fun W => KisKind_any kind W
  have hPa := fun W => KisSize_any (P : Int) (by omega) W
  rw [hk] at hKi
  rw [hp] at hPa
  clear hk hp
  have hS := h.alloc 89 [.int .i64 kind, .int .i64 (P : Int), .slice none 0 0, .slice none 0 0, .int .i64 10, .int .i64 0]
  have hS2 := (hS.nil.nilC).sw2
  have hu : usedP kind ⟨[], [], 0⟩ = 10 := by unfold usedP takenF; rfl
  have HU := Lib.hid hu
  clear hu h hS
  go_enter Try.func32, Try.ntmps32
  go_wp2_with (first | (go_at_call 46; refine (hKi _).mono ?_; rintro e w1 ⟨rfl, rfl⟩) | (go_at_call 47; refine (hPa _).mono ?_; rintro e w1 ⟨rfl, rfl⟩) | fail)
  go_ret2
  refine ⟨_, rfl, .slice none 0 0, .slice none 0 0, [], rfl, by simp [RngC], ?_⟩
  rw [HU.out]
  exact Sep.pkClose (l := []) hS2
set_option maxRecDepth 20000 in
set_option maxHeartbeats 1000000 in
theorem KNew_bad (kind P : Int) (hP : i64r P) (hk : (isKindB kind && isPowB P) = false) (w : World) : Calls Try.prog 32 #[.int .i64 kind, .int .i64 P] w fun e w' =>
    e = .returned (.tuple #[.pointer none, .int .i64 1]) ∧ w = w' := by
  have hKi := fun W => KisKind_any kind W
  have hPa := fun W => KisSize_any P hP W
  cases hk1 : isKindB kind with
  | false =>
    rw [hk1] at hKi
    clear hk hk1
    go_enter Try.func32, Try.ntmps32
    go_wp2_with (first | (go_at_call 46; refine (hKi _).mono ?_; rintro e w1 ⟨rfl, rfl⟩) | fail)
    go_ret2
    exact ⟨rfl, rfl⟩
  | true =>
    rw [hk1, Bool.true_and] at hk
    rw [hk1] at hKi
    rw [hk] at hPa
    clear hk hk1
    go_enter Try.func32, Try.ntmps32
    go_wp2_with (first | (go_at_call 46; refine (hKi _).mono ?_; rintro e w1 ⟨rfl, rfl⟩) | (go_at_call 47; refine (hPa _).mono ?_; rintro e w1 ⟨rfl, rfl⟩) | fail)
    go_ret2
    exact ⟨rfl, rfl⟩
end
end Go.Proofs.Ytaniabhajngdeaa

-- packed.Open, Page.Cell: walks.
namespace Go.Proofs.Ytaniabhajngdeaa
open Go.RowKit
theorem KInv.ok {kind : Int} {P : Nat} {s : KP} (h : KInv kind P s) : ∀ c ∈ s.l, OkC P c := fun c hc => may_ok (h.may c hc)
theorem KInv.big {kind : Int} {P : Nat} {s : KP} (h : KInv kind P s) (hP : P ≤ 65536) : bigK s.l ≤ 2148024320 := by
  have h1 := bigK_okc hP h.ok
  have h2 := h.len hP
  omega
theorem okc_key {P : Nat} {c : PC} (h : OkC P c) (hP : P ≤ 65536) : c.key.length ≤ 8192 ∧ c.val.length ≤ 12288 := by
  have := h.k0
  refine ⟨by omega, ?_⟩
  by_cases hk : c.kind = 1
  · have := (h.v0 hk).1; omega
  · rw [(h.v1 hk).1]; simp
set_option maxRecDepth 100000 in
set_option maxHeartbeats 1000000 in
theorem KOpen_sep {w0 w : World} {L : List Ent} (h : Sep w0 w L) (v : Value) (b : List UInt8) (hv : RdB w v b) :
    Calls Try.prog 25 #[v] w fun e w' =>
      (∃ p kind l, isPk b kind l ∧ e = .returned (.tuple #[.pointer (some ⟨p, 0, none⟩), .int .i64 0]) ∧ PgK w0 w' L p b.length kind (tidyP kind l)) ∨
      ((∀ kind l, ¬ isPk b kind l) ∧ e = .returned (.tuple #[.pointer none, .int .i64 60]) ∧ Sep w0 w' L) := by
  have hD := KDecode_any v b w hv
  obtain ⟨A, c, rfl, hm⟩ := hv.form
  go_enter Try.func25, Try.ntmps25
  go_wp2_with fail
  refine hD.mono ?_
  rintro e w1 (⟨kind, l, v, hpk, rfl, hr, hS⟩ | ⟨hno, rfl, hb⟩)
  · have hinv := open_inv hpk
    have hb2 := (isPowB_range hpk.1).2
    have hbig := hinv.big (by omega)
    have hS1 := Sep.lift1 hS (List.mem_cons_self ..) h
    have hO : Own w1 0 50 5 v l.length (flatC l) := hS.head.1 _ (List.mem_cons_self ..)
    obtain ⟨B, d, rfl⟩ := Own.slice hO
    have hS2 : Sep w0 _ (pkB w1.heap.size kind b.length (.slice B l.length d) (.slice none 0 0) 0 0 :: csE (.slice B l.length d) l :: L) := hS1.alloc 89 [.int .i64 kind, .int .i64 (b.length : Int), .slice B l.length d, .slice none 0 0, .int .i64 0, .int .i64 0]
    have hT := KTidy_sep hS2 (fun W hW => csE_rd (hW _ (List.mem_cons_self ..)) hr) (by have : (tidyP kind (pcs l)).l = pcs l := rfl; rw [this] at hbig; omega)
    have HPK := Lib.hid hpk
    clear hD hS hS1 hS2 hO hinv hbig
    go_wp2_with (first
      | (go_at_call 37; (with_reducible refine hT.mono ?_); rintro e w2 ⟨⟨x, rfl⟩, pv', hS3⟩)
      | fail)
    go_ret2
    refine .inl ⟨_, kind, pcs l, HPK.out, rfl, .slice B l.length d, pv', l, rfl, hr, ?_⟩
    rw [usedP_tidy]
    exact Sep.pkShut (hS3.sn [_])
  · have HN := Lib.hid hno
    have hS := h.below hb
    clear hD hno
    go_wp2_with fail
    go_ret2
    exact .inr ⟨HN.out, rfl, hS⟩
/-- What Cell tells. -/
def CellKPost (w0 : World) (L : List Ent) (p P : Nat) (kind : Int) (s : KP) (z : Int) (c : PC) (e : Ending) (w' : World) : Prop :=
  ∃ y : CV, e = .returned (.tuple #[cellV y, .int .i64 z]) ∧ y.c = c ∧ (i64r c.kind ∧ i64r c.page ∧ i64r c.count) ∧ PgK w0 w' (bytesE y.kv y.c.key :: bytesE y.vv y.c.val :: L) p P kind s
set_option maxRecDepth 100000 in
set_option maxHeartbeats 1000000 in
theorem KCell_sep {w0 w : World} {L : List Ent} {p P : Nat} {kind : Int} {s : KP} (hS : PgK w0 w L p P kind s) (hk : KInv kind P s) (hP : P ≤ 65536) (i : Int) (hi64 : i64r i) :
    Calls Try.prog 78 #[.pointer (some ⟨p, 0, none⟩), .int .i64 i] w (CellKPost w0 L p P kind s (cellZ s.l i) (cellC s.l i)) := by
  obtain ⟨u, pv, l, hpl, hr, hS⟩ := hS
  obtain ⟨sl, pre, waste⟩ := s
  simp only at hpl
  subst hpl
  have hlen := hk.len hP
  simp only [pcs_length] at hlen
  have hS1 := hS.alloc 50 [.slice none 0 0, .int .i64 0, .slice none 0 0, .int .i64 0, .int .i64 0]
  have hKt := hS1.tail.kAt hr
  obtain ⟨U, uc, rfl, hm, hc⟩ := hKt.rd.slice
  obtain ⟨b0, b1, b2, b3, b4, b5⟩ := cells6 hKt.blk
  have hbr := (show OBlk _ w.heap.size 50 [.slice none 0 0, .int .i64 0, .slice none 0 0, .int .i64 0, .int .i64 0] from hS1.head)
  obtain ⟨d0, d1, d2, d3, d4⟩ := cells5 hbr
  obtain ⟨f0, f1, f2, f3, f4⟩ := froz5 hbr
  simp only at hS1 ⊢
  by_cases hin : i < 0 ∨ (l.length : Int) ≤ i
  · have hz : cellZ (pcs l) i = 64 := by unfold cellZ; rw [if_pos (by rw [pcs_length]; exact hin)]
    have hz2 : cellC (pcs l) i = ⟨[], 0, [], 0, 0⟩ := by unfold cellC; rw [if_pos (by rw [pcs_length]; exact hin)]
    rw [hz, hz2]
    have hfin : ∀ w', Sep w0 w' (blkE w.heap.size 50 [.slice none 0 0, .int .i64 0, .slice none 0 0, .int .i64 0, .int .i64 0] :: pkE p kind P (.slice U l.length uc) pv (usedP kind ⟨pcs l, pre, waste⟩) waste l pre :: L) →
        CellKPost w0 L p P kind ⟨pcs l, pre, waste⟩ 64 ⟨[], 0, [], 0, 0⟩ (.returned (.tuple #[.agg #[.slice none 0 0, .int .i64 0, .slice none 0 0, .int .i64 0, .int .i64 0], .int .i64 64])) w' := fun w' h =>
      ⟨⟨.slice none 0 0, .slice none 0 0, ⟨[], 0, [], 0, 0⟩⟩, rfl, rfl, (by simp [i64r]), .slice U l.length uc, pv, l, rfl, hr, (h.tail.nil.nil).sw [_, _]⟩
    have HF := Lib.hid hfin
    have HS2 := Lib.hid hS1
    clear hfin hS1 hS hz hz2 hKt hbr
    rcases hin with h | h
    · go_enter Try.func78, Try.ntmps78
      go_wp2_with fail
      have hS2 := HS2.out
      obtain ⟨e0, e1, e2, e3, e4⟩ := cells5 (show OBlk _ w.heap.size 50 _ from hS2.head)
      refine bodyPost_ret (v := .tuple #[.agg #[.slice none 0 0, .int .i64 0, .slice none 0 0, .int .i64 0, .int .i64 0], .int .i64 64]) ?_ rfl (HF.out _ hS2)
      simp [results, Try.results78, go_sem, e0, e1, e2, e3, e4]
    · have h' : ¬ i < 0 := by omega
      go_enter Try.func78, Try.ntmps78
      go_wp2_with fail
      have hS2 := HS2.out
      obtain ⟨e0, e1, e2, e3, e4⟩ := cells5 (show OBlk _ w.heap.size 50 _ from hS2.head)
      refine bodyPost_ret (v := .tuple #[.agg #[.slice none 0 0, .int .i64 0, .slice none 0 0, .int .i64 0, .int .i64 0], .int .i64 64]) ?_ rfl (HF.out _ hS2)
      simp [results, Try.results78, go_sem, e0, e1, e2, e3, e4]
  · obtain ⟨k, rfl⟩ : ∃ k : Nat, i = (k : Int) := ⟨i.toNat, by omega⟩
    have hkl : k < l.length := by omega
    have hkp : k < (pcs l).length := by rw [pcs_length]; exact hkl
    have hz : cellZ (pcs l) (k : Int) = 0 := by unfold cellZ; rw [if_neg (by rw [pcs_length]; exact hin)]
    have hz2 : cellC (pcs l) (k : Int) = l[k].c := by unfold cellC; rw [if_neg (by rw [pcs_length]; exact hin), ← pcs_at hkl]; simp [List.getD, hkp]
    rw [hz, hz2]
    have hok := okc_key (hk.ok (l[k].c) (by show l[k].c ∈ pcs l; rw [← pcs_at hkl]; exact List.getElem_mem hkp)) hP
    have hzx := hKt.rd.ok _ (List.getElem_mem hkl)
    obtain ⟨ad, rfl, q0, q1, q2, q3, q4⟩ := hKt.rd.at_ hkl
    have hrz : i64r l[k].c.kind ∧ i64r l[k].c.page ∧ i64r l[k].c.count := hr _ (List.getElem_mem hkl)
    generalize l[k] = z at *
    have hO := Kown_sep hS1 z hzx (by omega) (by omega)
    have i1 : ¬ (k : Int) < 0 := by omega
    have i2 : ¬ (l.length : Int) ≤ (k : Int) := by omega
    have i2' : (k : Int) < (l.length : Int) := by omega
    clear hz hz2 hin hS hk hKt hkp hS1 hbr
    obtain ⟨KB, kb, VB, vb, zkey, zck, zval, zpg, zct, rfl, -, -⟩ := CV.form hzx
    unfold cellV at hO
    simp only at hO hrz ⊢
    go_enter Try.func78, Try.ntmps78
    go_wp2_with (first
      | (go_at_call 73; (with_reducible refine hO.mono ?_); rintro e w6 ⟨⟨ykv, yvv, yc⟩, rfl, hyc, hS6⟩; simp only at hyc; subst hyc; obtain ⟨K2, kc, rfl⟩ := Own.slice (show OwB w6 0 ykv zkey from hS6.head); obtain ⟨V2, vc, rfl⟩ := Own.slice (show OwB w6 0 yvv zval from hS6.tail.head); have hB6 : OBlk w6 w.heap.size 50 [.slice none 0 0, .int .i64 0, .slice none 0 0, .int .i64 0, .int .i64 0] := hS6.tail.tail.head; obtain ⟨g0, g1, g2, g3, g4⟩ := cells5 hB6; obtain ⟨h0, h1, h2, h3, h4⟩ := froz5 hB6)
      | fail)
    have hS7 := (Sep.sw2 hS6).set5 (.slice K2 zkey.length kc) (.int .i64 zck) (.slice V2 zval.length vc) (.int .i64 zpg) (.int .i64 zct)
    obtain ⟨e0, e1, e2, e3, e4⟩ := cells5 (show OBlk _ w.heap.size 50 _ from hS7.head)
    refine bodyPost_ret (v := .tuple #[.agg #[.slice K2 zkey.length kc, .int .i64 zck, .slice V2 zval.length vc, .int .i64 zpg, .int .i64 zct], .int .i64 0]) ?_ rfl ⟨⟨.slice K2 zkey.length kc, .slice V2 zval.length vc, ⟨zkey, zck, zval, zpg, zct⟩⟩, rfl, rfl, hrz, .slice (some ad) l.length uc, pv, l, rfl, hr, hS7.tail.sw [_, _]⟩
    simp [results, Try.results78, go_sem, e0, e1, e2, e3, e4]
end Go.Proofs.Ytaniabhajngdeaa

-- packed.Page's refused, changes: walks.
namespace Go.Proofs.Ytaniabhajngdeaa
open Go.RowKit
set_option maxRecDepth 100000 in
set_option maxHeartbeats 2000000 in
theorem Krefused_any {w : World} {p : Nat} {kind : Int} {P : Nat} {u pv : Value} {used waste : Nat} {l : List CV} (h : KAt w p kind P u pv used waste l) (hkd : kind = 2 ∨ kind = 3) (hP : P ≤ 65536) (x : CV) (hx : x.ok w) (i j : Nat) (bf bh : Int) (hbf : bf = (i : Int) - 1) (hbh : bh = (j : Int)) (hi : i ≤ l.length) (hj : j ≤ l.length) :
    Calls Try.prog 69 #[.pointer (some ⟨p, 0, none⟩), cellV x, .int .i64 bf, .int .i64 bh] w fun e w' =>
      e = .returned (.int .i64 (if mayP kind P x.c = false then 62 else if 0 ≤ leftO (pcs l) i x.c ∨ 0 ≤ rightO (pcs l) j x.c then 63 else 0)) ∧ Below w.heap.size w w' := by
  subst hbh
  obtain ⟨A, ca, B, cb, key, ck, val, pg, ct, rfl, hk1, hk2⟩ := CV.form hx
  obtain ⟨L, lc, rfl, hm, hc⟩ := h.rd.slice
  have hA : Below w.heap.size w (w.alloc (.cells #[.slice A key.length ca, .int .i64 ck, .slice B val.length cb, .int .i64 pg, .int .i64 ct] 50)) := (Below.refl _ _).alloc (Nat.le_refl _) _
  have hC := OBlk.new' w 50 [.slice A key.length ca, .int .i64 ck, .slice B val.length cb, .int .i64 pg, .int .i64 ct]
  have hB := h.blk.alloc (.cells #[.slice A key.length ca, .int .i64 ck, .slice B val.length cb, .int .i64 pg, .int .i64 ct] 50)
  have hx1 := hx.below hA
  have hL := h.rd.below hA
  have hma := fun W => Kmay_any ⟨.slice A key.length ca, .slice B val.length cb, ⟨key, ck, val, pg, ct⟩⟩ kind hkd P hP W
  unfold cellV at hma ⊢
  have HM := Lib.hid hma
  obtain ⟨lO, hlO⟩ : ∃ q, leftO (pcs l) i ⟨key, ck, val, pg, ct⟩ = q := ⟨_, rfl⟩
  obtain ⟨rO, hrO⟩ : ∃ q, rightO (pcs l) j ⟨key, ck, val, pg, ct⟩ = q := ⟨_, rfl⟩
  obtain ⟨mB, hmB⟩ : ∃ q, mayP kind P ⟨key, ck, val, pg, ct⟩ = q := ⟨_, rfl⟩
  show Calls Try.prog _ _ w fun e w' => e = .returned (.int .i64 (if mayP kind P ⟨key, ck, val, pg, ct⟩ = false then 62 else if 0 ≤ leftO (pcs l) i ⟨key, ck, val, pg, ct⟩ ∨ 0 ≤ rightO (pcs l) j ⟨key, ck, val, pg, ct⟩ then 63 else 0)) ∧ Below w.heap.size w w'
  rw [hlO, hrO, hmB]
  have HLO : Hid ((bf = -1 ∧ lO = -1) ∨ ∃ k : Nat, bf = (k : Int) ∧ ∃ h : k < l.length, lO = ordC l[k].c.key key) := Lib.hid (by
    rcases Nat.eq_zero_or_pos i with e | e
    · exact .inl ⟨by omega, by rw [← hlO, e, leftO_zero]⟩
    · obtain ⟨k, rfl⟩ : ∃ k, i = k + 1 := ⟨i - 1, by omega⟩
      refine .inr ⟨k, by omega, by omega, ?_⟩
      rw [← hlO, leftO_succ _ (by rw [pcs_length]; omega), pcs_at (by omega)])
  have HRO : Hid ((j = l.length ∧ rO = -1) ∨ ∃ h : j < l.length, rO = ordC key l[j].c.key) := Lib.hid (by
    by_cases e : j < l.length
    · refine .inr ⟨e, ?_⟩
      rw [← hrO, rightO_in _ (by rw [pcs_length]; omega), pcs_at e]
    · exact .inl ⟨by omega, by rw [← hrO, rightO_end _ (by rw [pcs_length]; omega)]⟩)
  have HXK := Lib.hid hx1.k
  clear hma h hx hlO hrO hbf
  have hpl := hB.lt
  obtain ⟨Z, hZ⟩ : ∃ Z : Int, (if mB = false then 62 else if 0 ≤ lO ∨ 0 ≤ rO then 63 else 0) = Z := ⟨_, rfl⟩
  rw [hZ]
  have HZ := Lib.hid hZ
  clear hZ
  go_enter Try.func69, Try.ntmps69
  go_upto_region 1 with (fail)
  generalize (w.alloc (.cells #[.slice A key.length ca, .int .i64 ck, .slice B val.length cb, .int .i64 pg, .int .i64 ct] 50)) = w1 at *
  obtain ⟨c0, c1, c2, c3, c4⟩ := cells5 hC
  obtain ⟨b0, b1, b2, b3, b4, b5⟩ := cells6 hB
  have hcl := hC.lt
  go_cut [9] (fun s wx => s = .bool (!mB) ∧ Below w1.heap.size w1 wx)
  case first =>
    go_region_held3 (fun w' => w'.cell? ⟨w.heap.size, 0, none⟩ = some (.slice A key.length ca) ∧ w'.cell? ⟨w.heap.size, 1, none⟩ = some (.int .i64 ck) ∧ w'.cell? ⟨w.heap.size, 2, none⟩ = some (.slice B val.length cb) ∧ w'.cell? ⟨w.heap.size, 3, none⟩ = some (.int .i64 pg) ∧ w'.cell? ⟨w.heap.size, 4, none⟩ = some (.int .i64 ct) ∧ w'.cell? ⟨p, 0, none⟩ = some (.int .i64 kind) ∧ w'.cell? ⟨p, 1, none⟩ = some (.int .i64 (P : Int)))
      (first
        | exact ⟨c0, c1, c2, c3, c4, b0, b1⟩
        | (obtain ⟨d0, d1, d2, d3, d4⟩ := cells5 (hC.drew.below hw2 hcl); obtain ⟨f0, f1, _, _, _, _⟩ := cells6 (hB.drew.below hw2 hpl); exact ⟨d0, d1, d2, d3, d4, f0, f1⟩))
      (first
        | (go_at_call 48; refine (HM.out _ (hx1.below ((Below.refl _ _).drew))).mono ?_; rw [hmB]; rintro e w2 ⟨rfl, hw2⟩)
        | fail)
    go_wp2_with fail
    go_meet
    exact ⟨rfl, (Below.refl _ _).drew.trans hw2⟩
  case rest =>
    obtain ⟨rfl, hw2⟩ := hcut
    have hB2 := hB.below hw2 hpl
    have hA2 := hA.trans (hw2.mono hA.size)
    cases mB with
    | false =>
      have e : Z = 62 := by rw [← HZ.out]; rfl
      subst e
      go_wp2_with fail
      go_ret
      exact ⟨rfl, hA2⟩
    | true =>
      have hC2 := hC.below hw2 hcl
      have hL2 := hL.below hw2
      have hxk2 := HXK.out.below hw2 (Nat.le_refl _)
      clear c0 c1 c2 c3 c4 b0 b1 b2 b3 b4 b5 hC hB hx1 hL hA hw2
      obtain ⟨c0, c1, c2, c3, c4⟩ := cells5 hC2
      obtain ⟨b0, b1, b2, b3, b4, b5⟩ := cells6 hB2
      have hcl2 := hC2.lt
      have hpl2 := hB2.lt
      go_upto_region 3 with (fail)
      go_cut [21] (fun s wx => s = .bool (decide (0 ≤ lO)) ∧ Below wc.heap.size wc wx)
      case first =>
        rcases HLO.out with ⟨rfl, rfl⟩ | ⟨k, rfl, hk, rfl⟩
        · go_region
          go_wp2_with fail
          go_meet
          exact ⟨rfl, (Below.refl _ _).drew⟩
        · obtain ⟨ad, K, kc, rfl, q0, hkr⟩ := hL2.key_at' hk
          have j1 : (0 : Int) ≤ (k : Int) := by omega
          have j2 : (k : Int) < (l.length : Int) := by omega
          have hcmp := fun m => Compare_any _ _ _ _ (wc.drewN m) (show RdB (wc.drewN m) _ _ from hkr) (show RdB (wc.drewN m) _ _ from hxk2)
          simp only at hcmp
          have HCM := Lib.hid hcmp
          clear hcmp
          generalize ordC l[k].c.key key = oc at *
          generalize l[k].c.key = lk at *
          go_region_held3 (fun w' => w'.cell? (ad.add (k * 5)) = some (.slice K lk.length kc) ∧ w'.cell? ⟨w.heap.size, 0, none⟩ = some (.slice A key.length ca) ∧ w'.cell? ⟨p, 2, none⟩ = some (.slice (some ad) l.length lc))
            (first | exact ⟨q0, c0, b2⟩)
            (first
              | (go_at_call 49; refine (HCM.out 1).mono ?_; rintro e w7 ⟨rfl, rfl⟩)
              | fail)
          go_wp2_with fail
          go_meet
          exact ⟨rfl, (Below.refl _ _).drew⟩
      case rest =>
        obtain ⟨rfl, hw3⟩ := hcut
        have hC3 := hC2.below hw3 hcl2
        have hB3 := hB2.below hw3 hpl2
        have hA3 := hA2.trans (hw3.mono hA2.size)
        by_cases hlO : 0 ≤ lO
        · rw [show decide (0 ≤ lO) = true from decide_eq_true hlO]
          have e : Z = 63 := by rw [← HZ.out, if_neg (by simp), if_pos (Or.inl hlO)]
          subst e
          clear hlO
          go_wp2_with fail
          go_ret
          exact ⟨rfl, hA3⟩
        · have hL3 := hL2.below hw3
          have hxk3 := hxk2.below hw3 (Nat.le_refl _)
          rw [show decide (0 ≤ lO) = false from decide_eq_false hlO]
          have H1 := Lib.hid hlO
          clear c0 c1 c2 c3 c4 b0 b1 b2 b3 b4 b5 hC2 hB2 hL2 hA2 hw3 hlO HLO hxk2
          obtain ⟨c0, c1, c2, c3, c4⟩ := cells5 hC3
          obtain ⟨b0, b1, b2, b3, b4, b5⟩ := cells6 hB3
          have hcl3 := hC3.lt
          have hpl3 := hB3.lt
          go_upto_region 5 with (fail)
          go_cut [38] (fun s wx => s = .bool (decide (0 ≤ rO)) ∧ Below wc.heap.size wc wx)
          case first =>
            rcases HRO.out with ⟨rfl, rfl⟩ | ⟨hj2, rfl⟩
            · have j5 : ¬ (l.length : Int) < (l.length : Int) := by omega
              go_region
              go_wp2_with fail
              go_meet
              exact ⟨rfl, (Below.refl _ _).drew⟩
            · obtain ⟨ad, K, kc, rfl, q0, hkr⟩ := hL3.key_at' hj2
              have j1 : (0 : Int) ≤ (j : Int) := by omega
              have j2 : (j : Int) < (l.length : Int) := by omega
              have hcmp := fun m => Compare_any _ _ _ _ (wc.drewN m) (show RdB (wc.drewN m) _ _ from hxk3) (show RdB (wc.drewN m) _ _ from hkr)
              simp only at hcmp
              have HCM := Lib.hid hcmp
              clear hcmp
              generalize ordC key l[j].c.key = oc at *
              generalize l[j].c.key = lk at *
              go_region_held3 (fun w' => w'.cell? (ad.add (j * 5)) = some (.slice K lk.length kc) ∧ w'.cell? ⟨w.heap.size, 0, none⟩ = some (.slice A key.length ca) ∧ w'.cell? ⟨p, 2, none⟩ = some (.slice (some ad) l.length lc))
                (first | exact ⟨q0, c0, b2⟩)
                (first
                  | (go_at_call 49; refine (HCM.out 1).mono ?_; rintro e w7 ⟨rfl, rfl⟩)
                  | fail)
              go_wp2_with fail
              go_meet
              exact ⟨rfl, (Below.refl _ _).drew⟩
          case rest =>
            obtain ⟨rfl, hw4⟩ := hcut
            have hA4 := hA3.trans (hw4.mono hA3.size)
            by_cases hrO : 0 ≤ rO
            · rw [show decide (0 ≤ rO) = true from decide_eq_true hrO]
              have e : Z = 63 := by rw [← HZ.out, if_neg (by simp), if_pos (Or.inr hrO)]
              subst e
              clear hrO
              go_wp2_with fail
              go_ret
              exact ⟨rfl, hA4⟩
            · rw [show decide (0 ≤ rO) = false from decide_eq_false hrO]
              have e : Z = 0 := by rw [← HZ.out, if_neg (by simp), if_neg (fun e => by have h1 := H1.out; omega)]
              subst e
              clear hrO
              go_wp2_with fail
              go_ret
              exact ⟨rfl, hA4⟩
end Go.Proofs.Ytaniabhajngdeaa

-- packed.Page.changes: the walk.
namespace Go.Proofs.Ytaniabhajngdeaa
open Go.RowKit
/-- What changes leaves. -/
def ChAt (w0 : World) (M : List Ent) (p P : Nat) (kind : Int) (u pv u' : Value) (used waste : Nat) (pre : List UInt8) (l' : List PC) (waste' : Nat) (anew : Bool) (e : Ending) (w' : World) : Prop :=
  (P < psizeF kind l' ∧ e = .returned (.int .i64 61) ∧ Sep w0 w' (pkB p kind P u pv used waste :: bytesE pv pre :: M)) ∨
  (psizeF kind l' ≤ P ∧ e = .returned (.int .i64 0) ∧ ∃ pv', Sep w0 w' (pkB p kind P u' pv' (usedP kind (changeS kind P pre l' waste' anew)) (changeS kind P pre l' waste' anew).waste :: bytesE pv' (changeS kind P pre l' waste' anew).pre :: M))
set_option maxRecDepth 100000 in
set_option maxHeartbeats 4000000 in
theorem Kchanges_sep {w0 w : World} {M : List Ent} {p P : Nat} {kind : Int} {u pv u' : Value} {used waste : Nat} {pre : List UInt8} {l' : List CV} (hS : Sep w0 w (pkB p kind P u pv used waste :: bytesE pv pre :: M)) (hM : CsIn M u' l') (hf : bigK (pcs l') ≤ 140737488355328)
    (old : Nat) (ho : waste + old ≤ 1000000) (hpre : pre.length ≤ 1000000) (hP : P ≤ 65536) (anew : Bool) (hp : anew = false → PreOk kind (pcs l') pre) :
    Calls Try.prog 70 #[.pointer (some ⟨p, 0, none⟩), u', .int .i64 (old : Int), .bool anew] w (ChAt w0 M p P kind u pv u' used waste pre (pcs l') (waste + old) anew) := by
  have hrd := hM.at_ hS (fun E hE => by simp [hE])
  obtain ⟨U, uc, rfl, hm, hc⟩ := hrd.slice
  have hpk : ∀ (i : Nat) (hi : i < (pcs l').length), ¬ (kind = 3 ∧ i = 0) → sharedF kind (pcs l') ≤ (pcs l')[i].key.length := fun i hi hn => (key_split (kind := kind) hi hn).1
  have hsb : sharedF kind (pcs l') ≤ 140737488355328 := by
    rcases Nat.eq_zero_or_pos (sharedF kind (pcs l')) with h | h
    · omega
    · obtain ⟨i, hi, hn⟩ := sharedF_pos h
      have h1 := hpk i hi hn
      have h2 := bigK_mem (List.getElem_mem hi)
      omega
  have hsh := Kshared_any kind (.slice U l'.length uc) l' w hrd
  have htk : ∀ W, RdCs W (.slice U l'.length uc) l' → Calls Try.prog 42 #[.int .i64 kind, .slice U l'.length uc, .int .i64 (sharedF kind (pcs l') : Nat)] W fun e w' => e = .returned (.int .i64 (psizeF kind (pcs l') : Nat)) ∧ Below W.heap.size W w' := fun W hW => Ktaken_any kind _ l' (sharedF kind (pcs l')) W hW (by omega) (by omega) hpk
  have htk2 : anew = false → ∀ W, RdCs W (.slice U l'.length uc) l' → Calls Try.prog 42 #[.int .i64 kind, .slice U l'.length uc, .int .i64 (pre.length : Int)] W fun e w' => e = .returned (.int .i64 (takenF kind (pcs l') pre.length : Nat)) ∧ Below W.heap.size W w' := fun ha W hW => Ktaken_any kind _ l' pre.length W hW (by omega) (by omega) (fun i hi hn => (hasPre_iff.1 (hp ha i hi hn)).1)
  have htb : takenF kind (pcs l') pre.length ≤ 10 + pre.length + bigK (pcs l') := by
    have := taken_big kind pre.length (pcs l') (pcs l').length (by omega)
    rw [List.take_length] at this; exact this
  have hTidy := fun W (pv2 : Value) (M2 : List Ent) us ws (h : Sep w0 W (pkB p kind P (.slice U l'.length uc) pv2 us ws :: M2)) (h2 : CsIn M2 (.slice U l'.length uc) l') => KTidy_sep h h2 hf
  have HST : Hid (anew = true ∨ P < takenF kind (pcs l') pre.length + (waste + old) → changeS kind P pre (pcs l') (waste + old) anew = tidyP kind (pcs l')) := Lib.hid (fun h => by
    unfold changeS
    rw [if_pos]
    rw [Bool.or_eq_true, decide_eq_true_iff]; exact h)
  have HSN : Hid (anew = false → ¬ P < takenF kind (pcs l') pre.length + (waste + old) → changeS kind P pre (pcs l') (waste + old) anew = ⟨pcs l', pre, waste + old⟩) := Lib.hid (fun h h2 => by
    unfold changeS
    rw [if_neg]
    rw [Bool.or_eq_true, decide_eq_true_iff, not_or]; exact ⟨by rw [h]; simp, h2⟩)
  have HUT : Hid (usedP kind (tidyP kind (pcs l')) = psizeF kind (pcs l')) := Lib.hid (usedP_tidy kind (pcs l'))
  have HUN : Hid (usedP kind ⟨pcs l', pre, waste + old⟩ = takenF kind (pcs l') pre.length) := Lib.hid rfl
  have hpw := (show OwB w 0 pv pre from hS.tail.head)
  obtain ⟨PV, pvc, rfl⟩ := Own.slice hpw
  unfold ChAt
  generalize changeS kind P pre (pcs l') (waste + old) anew = CS at *
  generalize sharedF kind (pcs l') = s at *
  generalize psizeF kind (pcs l') = z at *
  generalize takenF kind (pcs l') pre.length = tk at *
  have HTK := Lib.hid htk
  have HTK2 := Lib.hid htk2
  have HTD := Lib.hid hTidy
  have hbp : OBlk w p 89 [.int .i64 kind, .int .i64 (P : Int), u, .slice PV pre.length pvc, .int .i64 (used : Int), .int .i64 (waste : Int)] := hS.head
  obtain ⟨b0, b1, b2, b3, b4, b5⟩ := cells6 hbp
  have hbb := hf
  clear htk htk2 hTidy hpk hpw hp hf hrd
  go_enter Try.func70, Try.ntmps70
  go_upto_region 2 with (first
    | (go_at_call 43; (with_reducible refine hsh.mono ?_); rintro e w2 ⟨rfl, hw2⟩)
    | fail)
  have hS2 := hS.below hw2
  clear hsh hS hw2 hbp b0 b1 b2 b3 b4 b5
  have hbp : OBlk w2 p 89 [.int .i64 kind, .int .i64 (P : Int), u, .slice PV pre.length pvc, .int .i64 (used : Int), .int .i64 (waste : Int)] := hS2.head
  obtain ⟨b0, b1, b2, b3, b4, b5⟩ := cells6 hbp
  have htk := HTK.out w2.drew (hM.at_ hS2.drew (fun E hE => by simp [hE]))
  have hpz := hbp.lt
  go_cut [27] (fun c wx => c = .bool (decide (P < z)) ∧ Below w2.heap.size w2 wx)
  case first =>
    go_region_held3 (fun w' => w'.cell? ⟨p, 0, none⟩ = some (.int .i64 kind) ∧ w'.cell? ⟨p, 1, none⟩ = some (.int .i64 (P : Int)))
      (first | exact ⟨b0, b1⟩ | (have hx := cells6 (hbp.drew.below hw3 hpz); exact ⟨hx.1, hx.2.1⟩))
      (first
        | (go_at_call 42; refine htk.mono ?_; rintro e w3 ⟨rfl, hw3⟩)
        | fail)
    go_wp2_with fail
    go_meet
    exact ⟨rfl, (Below.refl _ _).drew.trans hw3⟩
  case rest =>
    obtain ⟨rfl, hw3⟩ := hcut
    have hS3 := hS2.below hw3
    clear htk hS2 hbp b0 b1 b2 b3 b4 b5 hw3 hpz
    by_cases hz : P < z
    · rw [show decide (P < z) = true from decide_eq_true hz]
      go_wp2_with fail
      go_ret
      exact .inl ⟨hz, rfl, hS3⟩
    · rw [show decide (P < z) = false from decide_eq_false hz]
      have HZ : Hid (z ≤ P) := Lib.hid (by omega)
      clear hz
      have hbp : OBlk wc p 89 [.int .i64 kind, .int .i64 (P : Int), u, .slice PV pre.length pvc, .int .i64 (used : Int), .int .i64 (waste : Int)] := hS3.head
      obtain ⟨b0, b1, b2, b3, b4, b5⟩ := cells6 hbp
      have f2 := hbp.frozen (j := 2) (by simp)
      have f5 := hbp.frozen (j := 5) (by simp)
      have e1 : IntKind.i64.wrap ((waste : Int) + (old : Int)) = (waste : Int) + (old : Int) := by rw [IntKind.wrap_i64]; omega
      go_upto_if 41 with (fail)
      have hS4 := (hS3.setCell 2 (.slice U l'.length uc)).setCell 5 (.int .i64 ((waste : Int) + (old : Int)))
      have hS4 : Sep w0 ((wc.setCell ⟨p, 2, none⟩ (.slice U l'.length uc)).setCell ⟨p, 5, none⟩ (.int .i64 ((waste : Int) + (old : Int)))) (pkB p kind P (.slice U l'.length uc) (.slice PV pre.length pvc) used (waste + old) :: bytesE (.slice PV pre.length pvc) pre :: M) := by
        unfold pkB
        rw [Int.natCast_add]
        exact hS4
      clear hS3 hbp b0 b1 b2 b3 b4 b5 f2 f5
      generalize (wc.setCell ⟨p, 2, none⟩ (.slice U l'.length uc)).setCell ⟨p, 5, none⟩ (.int .i64 ((waste : Int) + (old : Int))) = w4 at *
      cases anew with
      | true =>
        have hT := HTD.out w4 _ _ _ _ hS4 (fun W hW => hM W (fun E hE => hW E (by simp [hE])))
        have HCS : Hid (CS = tidyP kind (pcs l')) := Lib.hid (HST.out (.inl rfl))
        clear hS4
        go_wp2_with (first
          | (go_at_call 37; (with_reducible refine hT.mono ?_); rintro e w5 ⟨⟨x, rfl⟩, pv', hS5⟩)
          | fail)
        go_ret
        refine .inr ⟨HZ.out, rfl, pv', ?_⟩
        rw [HCS.out, HUT.out]
        exact (Sep.sub hS5 (((List.sublist_cons_self _ _).cons_cons _).cons_cons _))
      | false =>
        have hbp : OBlk w4 p 89 [.int .i64 kind, .int .i64 (P : Int), .slice U l'.length uc, .slice PV pre.length pvc, .int .i64 (used : Int), .int .i64 ((waste + old : Nat) : Int)] := hS4.head
        obtain ⟨b0, b1, b2, b3, b4, b5⟩ := cells6 hbp
        have hpz := hbp.lt
        have htk := HTK2.out rfl w4.drew (hM.at_ hS4.drew (fun E hE => by simp [hE]))
        go_upto_region 7 with (fail)
        go_cut [] (fun wx => Sep w0 wx (pkB p kind P (.slice U l'.length uc) (.slice PV pre.length pvc) tk (waste + old) :: bytesE (.slice PV pre.length pvc) pre :: M))
        case first =>
          go_region_law
            (first
              | (go_simp; go_at_call 42; refine htk.mono ?_; rintro e w5 ⟨rfl, hw5⟩; have hB5 := hbp.drew.below hw5 hpz; obtain ⟨d0, d1, d2, d3, d4, d5⟩ := cells6 hB5; have g4 := hB5.frozen (j := 4) (by simp); have hS5 := hS4.drew.below hw5)
              | fail)
          all_goals
            go_wp2_with fail
            go_meet
            exact hS5.setCell 4 (.int .i64 (tk : Int))
        case rest =>
          have hS6 := hcut
          clear hS4 hbp b0 b1 b2 b3 b4 b5 htk hpz hcut
          have hbp : OBlk wc p 89 [.int .i64 kind, .int .i64 (P : Int), .slice U l'.length uc, .slice PV pre.length pvc, .int .i64 (tk : Int), .int .i64 ((waste + old : Nat) : Int)] := hS6.head
          obtain ⟨b0, b1, b2, b3, b4, b5⟩ := cells6 hbp
          have e2 : IntKind.i64.wrap ((tk : Int) + ((waste : Int) + (old : Int))) = (tk : Int) + ((waste : Int) + (old : Int)) := by rw [IntKind.wrap_i64]; omega
          rw [Int.natCast_add] at b5
          by_cases hful : P < tk + (waste + old)
          · have i1 : (P : Int) < (tk : Int) + ((waste : Int) + (old : Int)) := by omega
            have HCS : Hid (CS = tidyP kind (pcs l')) := Lib.hid (HST.out (.inr hful))
            clear hful
            go_upto_region 8 with (fail)
            go_quiet (fail)
            have hT := HTD.out _ _ _ _ _ (hS6.drewN nq) (fun W hW => hM W (fun E hE => hW E (by simp [hE])))
            go_wp2_with (first
              | (go_at_call 37; refine hT.mono ?_; rintro e w5 ⟨⟨x, rfl⟩, pv', hS5⟩)
              | fail)
            go_ret
            refine .inr ⟨HZ.out, rfl, pv', ?_⟩
            rw [HCS.out, HUT.out]
            exact (Sep.sub hS5 (((List.sublist_cons_self _ _).cons_cons _).cons_cons _))
          · have i1 : ¬ (P : Int) < (tk : Int) + ((waste : Int) + (old : Int)) := by omega
            have HCS : Hid (CS = ⟨pcs l', pre, waste + old⟩) := Lib.hid (HSN.out rfl hful)
            clear hful
            go_upto_region 8 with (fail)
            go_quiet (fail)
            have hS7 := hS6.drewN nq
            go_wp2_with fail
            go_ret
            refine .inr ⟨HZ.out, rfl, .slice PV pre.length pvc, ?_⟩
            rw [HCS.out, HUN.out]
            exact hS7
end Go.Proofs.Ytaniabhajngdeaa

-- A row of cells: copies within it, zeros behind it, cleared; where slices of it lie.
namespace Go.Proofs.Ytaniabhajngdeaa
open Go.RowKit
set_option maxRecDepth 100000
abbrev cz : Value := .agg #[.slice none 0 0, .int .i64 0, .slice none 0 0, .int .i64 0, .int .i64 0]
theorem run_copy_5 (w : World) (ty : TypeId) (g : Nat) (T' : TypeId) (cs : List Value) (hg : OBlk w g T' cs)
    (dA : Option Addr) (dLen dCap off : Nat) (hd : 0 < dLen → dA = some ⟨g, off, none⟩) (hfit : off + dLen * 5 ≤ cs.length)
    (vx : Value) (m : Nat) (news : List Value) (hr : Rd w 5 vx m news) (h1 : ∀ u ∈ news.take (min m dLen * 5), u.oneCell' = true) :
    (Builtin.copy_ #[23, 23] ty #[.slice dA dLen dCap, vx]).run Try.prog w = .ok (goInt (min m dLen : Nat)) (w.setCells g off (news.take (min m dLen * 5))) := by
  obtain ⟨i, hi, hz0, hz1, hz2⟩ := info_parts cell_info
  obtain ⟨hl, A, c, rfl, hc1, hc2, hcells⟩ := hr
  have hmin : Nat.min m dLen = min m dLen := rfl
  by_cases h0 : min m dLen = 0
  · rw [h0]
    have hl0 : ∀ (x : Addr), (loadCells x 0).run Try.prog w = .ok #[] w := fun x => by simpa using run_loadCells_list (P := Try.prog) w x [] (by simp)
    cases dA <;> cases A <;> simp [Builtin.copy_, run_underlying Try.underlying23, sizeOf, typeInfo, hi, hz1, Builtin.lenOf, hmin, h0, Builtin.firstCells, storeCells, hl0, World.setCells]
  · obtain rfl := hd (by omega)
    obtain ⟨a, rfl, _⟩ := hcells 0 _ (List.getElem?_eq_getElem (by omega))
    have hnews : ∀ j u, (news.take (min m dLen * 5))[j]? = some u → w.cell? (a.add j) = some u := fun j u hj => by
      rw [List.getElem?_take] at hj
      split at hj
      · obtain ⟨a', he, h⟩ := hcells j u hj
        injection he with he
        subst he; exact h
      · cases hj
    have hlen : (news.take (min m dLen * 5)).length = min m dLen * 5 := by rw [List.length_take]; omega
    have hf := run_firstCells_some (P := Try.prog) w 5 (min m dLen) a m c (news.take (min m dLen * 5)) hlen hnews
    have hst := run_storeCells_cells (P := Try.prog) g off (news.take (min m dLen * 5)) 0 w
      (fun j hj => by rw [hg.cell]; simp; omega) (fun j hj => hg.frozen (by omega)) h1
    simp only [Nat.add_zero] at hst
    simp [Builtin.copy_, run_underlying Try.underlying23, sizeOf, typeInfo, hi, hz1, Builtin.lenOf, hmin, hf, hst]
section laws
variable {w : World} {ops : Array Oper} {rest : List Oper} {o : Oper} {a : Act} {Q : Exit → Act → World → Prop}
theorem wp_copy_5 (hgd : o.guard = none) (d s : Operand)
    (ho : o.op = .call { callee := .builtin .copy, args := #[d, s], argTypes := #[23, 23] })
    (g : Nat) (T' : TypeId) (cs : List Value) (hg : OBlk w g T' cs) (dA : Option Addr) (dLen dCap off : Nat) (hd' : a.eval d = .slice dA dLen dCap) (hd : 0 < dLen → dA = some ⟨g, off, none⟩) (hfit : off + dLen * 5 ≤ cs.length)
    (vx : Value) (m : Nat) (news : List Value) (hx : a.eval s = vx) (hr : Rd w 5 vx m news) (h1 : ∀ u ∈ news.take (min m dLen * 5), u.oneCell' = true)
    (h : ∀ w', OBlk w' g T' (splice cs off (news.take (min m dLen * 5))) → w.grownBy w' (some g) → wpList Try.prog ops Q rest (a.put o.dst (goInt (min m dLen : Nat))) w') : wpList Try.prog ops Q (o :: rest) a w := by
  refine wpList_plain hgd fun K hK => ?_
  have hrun := run_copy_5 w o.type g T' cs hg dA dLen dCap off hd hfit vx m news hr h1
  have hl := hr.1
  unfold Oper.wp
  simp [execOp, ho, resolve, invoke, builtin, hd', hx, hrun, Result.andThen]
  refine hK _ _ (h _ (OBlk.setCells _ _ _ _ hg ?_) (grownBy_setCells _ _ _ _))
  rw [List.length_take]; omega
theorem step_copy_5 {K : Act → World → Prop} {E : Prop} (hgd : o.guard = none) (d s : Operand)
    (ho : o.op = .call { callee := .builtin .copy, args := #[d, s], argTypes := #[23, 23] })
    (g : Nat) (T' : TypeId) (cs : List Value) (hg : OBlk w g T' cs) (dA : Option Addr) (dLen dCap off : Nat) (hd' : a.eval d = .slice dA dLen dCap) (hd : 0 < dLen → dA = some ⟨g, off, none⟩) (hfit : off + dLen * 5 ≤ cs.length)
    (vx : Value) (m : Nat) (news : List Value) (hx : a.eval s = vx) (hr : Rd w 5 vx m news) (h1 : ∀ u ∈ news.take (min m dLen * 5), u.oneCell' = true)
    (h : ∀ w', OBlk w' g T' (splice cs off (news.take (min m dLen * 5))) → w.grownBy w' (some g) → K (a.put o.dst (goInt (min m dLen : Nat))) w') :
    if Region.wanted o (yielded ops a.tmps) = true then Oper.wp Try.prog o a w K Q else E := by
  have hw : Region.wanted o (yielded ops a.tmps) = true := by simp [Region.wanted, hgd]
  rw [if_pos hw]
  have hrun := run_copy_5 w o.type g T' cs hg dA dLen dCap off hd hfit vx m news hr h1
  have hl := hr.1
  unfold Oper.wp
  simp [execOp, ho, resolve, invoke, builtin, hd', hx, hrun, Result.andThen]
  refine h _ (OBlk.setCells _ _ _ _ hg ?_) (grownBy_setCells _ _ _ _)
  rw [List.length_take]; omega
end laws
/-! ### where a slice of a row lies -/
theorem sl_h (g n c hi : Nat) (h : hi ≤ c) (w : World) : (Instr.slice 23 (.slice (some ⟨g, 0, none⟩) n c) none (some (.int .i64 (hi : Int))) none).run Try.prog w = .ok (.slice (some ⟨g, 0, none⟩) hi c) w := by
  have := run_slice_h (P := Try.prog) w 23 (some ⟨g, 0, none⟩) n c Cell_elem .i64 hi (by omega) (by omega)
  rw [this, Cell_sizeOf]
  simp [Result.andThen, sliced, Addr.add]
@[irreducible] def slA (g c lo : Nat) : Addr := if c = lo then ⟨g, 0, none⟩ else ⟨g, lo * 5, none⟩
theorem slA_eq {g c lo : Nat} (h : lo < c) : slA g c lo = ⟨g, lo * 5, none⟩ := by unfold slA; exact if_neg (by omega)
theorem slA_block (g c lo : Nat) : (slA g c lo).block = g := by unfold slA; split <;> rfl
theorem slA_zero (g c : Nat) : slA g c 0 = ⟨g, 0, none⟩ := by unfold slA; split <;> rfl
theorem slA_run (g c lo : Nat) : (if c = lo then (some ⟨g, 0, none⟩ : Option Addr) else some ((⟨g, 0, none⟩ : Addr).add (lo * 5))) = some (slA g c lo) := by
  unfold slA
  split
  · rfl
  · rw [add_row, Nat.zero_add]
theorem sl_l (g n c lo : Nat) (h : lo ≤ n) (w : World) : (Instr.slice 23 (.slice (some ⟨g, 0, none⟩) n c) (some (.int .i64 (lo : Int))) none none).run Try.prog w = .ok (.slice (some (slA g c lo)) (n - lo) (c - lo)) w := by
  have := run_slice_l (P := Try.prog) w 23 (some ⟨g, 0, none⟩) n c Cell_elem .i64 lo (by omega) (by omega)
  rw [this, Cell_sizeOf, ← slA_run]
  simp [Result.andThen, sliced]
theorem sl_lO (A : Option Addr) (n c lo : Nat) (h : lo ≤ n) : ∃ X, ∀ w, (Instr.slice 23 (.slice A n c) (some (.int .i64 (lo : Int))) none none).run Try.prog w = .ok (.slice X (n - lo) (c - lo)) w := by
  refine ⟨if c = lo then A else A.map (·.add (lo * 5)), fun w => ?_⟩
  have := run_slice_l (P := Try.prog) w 23 A n c Cell_elem .i64 lo (by omega) (by omega)
  rw [this, Cell_sizeOf]
  simp [Result.andThen, sliced]
theorem sl_lh (g n c lo hi : Nat) (h : lo ≤ hi) (h2 : hi ≤ c) (w : World) : (Instr.slice 23 (.slice (some ⟨g, 0, none⟩) n c) (some (.int .i64 (lo : Int))) (some (.int .i64 (hi : Int))) none).run Try.prog w = .ok (.slice (some (slA g c lo)) (hi - lo) (c - lo)) w := by
  have := run_slice_lh (P := Try.prog) w 23 (some ⟨g, 0, none⟩) n c Cell_elem .i64 .i64 lo hi (by omega) (by omega) (by omega)
  rw [this, Cell_sizeOf, ← slA_run]
  simp [Result.andThen, sliced]
theorem sl_lhm (g n c lo hi mx : Nat) (h : lo ≤ hi) (h2 : hi ≤ mx) (h3 : mx ≤ c) (w : World) : (Instr.slice 23 (.slice (some ⟨g, 0, none⟩) n c) (some (.int .i64 (lo : Int))) (some (.int .i64 (hi : Int))) (some (.int .i64 (mx : Int)))).run Try.prog w = .ok (.slice (some (slA g mx lo)) (hi - lo) (mx - lo)) w := by
  have := run_slice_lhm (P := Try.prog) w 23 (some ⟨g, 0, none⟩) n c Cell_elem .i64 .i64 .i64 lo hi mx (by omega) (by omega) (by omega) (by omega)
  rw [this, Cell_sizeOf, ← slA_run]
  simp [Result.andThen, sliced]
theorem OBlk.rd5 {w : World} {g c lo m : Nat} {T : TypeId} {cs : List Value} (h : OBlk w g T cs) (h1 : lo + m ≤ c) (h2 : c * 5 ≤ cs.length) (h3 : c ≤ maxLen) : Rd w 5 (.slice (some (slA g c lo)) m (c - lo)) m ((cs.drop (lo * 5)).take (m * 5)) := by
  refine ⟨by rw [List.length_take, List.length_drop]; omega, _, _, rfl, by omega, by omega, fun j u hj => ⟨_, rfl, ?_⟩⟩
  rw [List.getElem?_take] at hj
  split at hj
  · rename_i hlt
    rw [slA_eq (by omega), add_row, h.cell, ← List.getElem?_drop]
    exact hj
  · cases hj
/-! ### zeros behind a row that must grow -/
theorem run_append_grow_Z5 (w : World) (ty : TypeId) (base : Option Addr) (sLen sCap n : Nat) (olds : List Value) (hold : (Builtin.firstCells 5 sLen (.slice base sLen sCap)).run Try.prog w.drew = .ok olds.toArray w.drew) (h0 : ¬ n = 0) (hg : sCap < sLen + n) (h48 : (sLen + n) * 72 ≤ 140737488355328) :
    (Builtin.append_ #[23, 3] ty #[.slice base sLen sCap, .int .i64 (n : Int)]).run Try.prog w =
      .ok (.slice (some ⟨w.heap.size, 0, none⟩) (sLen + n) (grownCap w (sLen + n) sCap 50)) (w.drew.alloc (.cells ((olds ++ (Builtin.zeroCells cz.cells n).toList).toArray ++ Builtin.zeroCells cz.cells (grownCap w (sLen + n) sCap 50 - (sLen + n))) 50)) := by
  obtain ⟨i, hi, hz0, hz1, hz2⟩ := info_parts cell_info
  have hw : IntKind.i64.wrap (n : Int) = n := by rw [IntKind.wrap_i64]; omega
  have hneg : ¬ ((n : Int) < 0) := by omega
  have h48i : ¬ (281474976710656 < (n : Int) * 72) := by omega
  have hn : ¬ (sLen + n ≤ sCap) := by omega
  have h63' : ¬ (9223372036854775807 < ((sLen : Int) + (n : Int))) := by omega
  have hfit : Builtin.nextslicecap (sLen + n) sCap * 72 ≤ 281474976710656 := growslice_fits (by omega) (by omega)
  have h48' : ¬ (281474976710656 < Builtin.nextslicecap (sLen + n) sCap * 72) := by omega
  have hns : ¬ (n * 5 = 0) := by omega
  simp [hns, Builtin.append_, run_underlying Try.underlying23, run_underlying Try.underlying3, sizeOf, typeInfo, zeroValue, hi, hz0, hz1, hz2, asInt, asIntOf, hw, hneg, h48i, hn, h63', h48', Question.forced, hold, newRow, grownCap, h0]
  congr 2
  apply Array.ext'
  simp [List.append_assoc]
section laws
variable {w : World} {ops : Array Oper} {rest : List Oper} {o : Oper} {a : Act} {Q : Exit → Act → World → Prop}
/-- append(s[:k], make([]Cell, n)...) where that is more than there is room for. -/
theorem wp_append_Z5 (hgd : o.guard = none) (s x : Operand)
    (ho : o.op = .call { callee := .builtin .append, args := #[s, x], argTypes := #[23, 3] })
    (base : Option Addr) (sLen sCap n : Nat) (olds : List Value) (hs : a.eval s = .slice base sLen sCap) (hr : Rd w 5 (.slice base sLen sCap) sLen olds) (X : Int) (hX : X = (n : Int)) (hx : a.eval x = .int .i64 X) (h0 : ¬ n = 0) (hg : sCap < sLen + n) (h48 : (sLen + n) * 72 ≤ 140737488355328) (N : Nat) (hN : sLen + n = N)
    (h : ∀ cap zs w', OBlk w' w.heap.size 50 (olds ++ zs) → N ≤ cap → cap ≤ maxLen → zs.length = (cap - sLen) * 5 → Below w.heap.size w w' → wpList Try.prog ops Q rest (a.put o.dst (.slice (some ⟨w.heap.size, 0, none⟩) N cap)) w') :
    wpList Try.prog ops Q (o :: rest) a w := by
  subst hX hN
  obtain ⟨hl, A, c, hv, hc1, hc2, hcells⟩ := hr
  injection hv with hA hn' hc
  subst hA hc
  have hold : (Builtin.firstCells 5 sLen (.slice base sLen sCap)).run Try.prog w.drew = .ok olds.toArray w.drew := by
    cases base with
    | none =>
      have hs0 : sLen = 0 := by
        rcases Nat.eq_zero_or_pos sLen with e | e
        · exact e
        · obtain ⟨_, he, _⟩ := hcells 0 _ (List.getElem?_eq_getElem (by omega))
          cases he
      subst hs0
      have : olds = [] := List.eq_nil_of_length_eq_zero (by simpa using hl)
      subst this
      simp [Builtin.firstCells]
    | some ad =>
      exact run_firstCells_some w.drew 5 sLen ad sLen sCap olds hl (fun j u hj => by
        obtain ⟨a', he, h⟩ := hcells j u hj
        injection he with he
        subst he; exact h)
  have hrun := run_append_grow_Z5 w o.type base sLen sCap n olds hold h0 hg h48
  have hge := grownCap_ge w (sLen + n) sCap 50
  have hcm : grownCap w (sLen + n) sCap 50 ≤ maxLen := grownCap_le_maxLen w (sLen + n) sCap 50 (by simp only [maxLen]; omega)
  refine Lib.wpList_append_run w hgd s x _ _ ho _ _ hs hx _ _ hrun (h _ ((Builtin.zeroCells cz.cells n).toList ++ (Builtin.zeroCells cz.cells (grownCap w (sLen + n) sCap 50 - (sLen + n))).toList) _ ?_ hge hcm ?_ ?_)
  · have := OBlk.new w.drew 50 ((olds ++ (Builtin.zeroCells cz.cells n).toList).toArray ++ Builtin.zeroCells cz.cells (grownCap w (sLen + n) sCap 50 - (sLen + n)))
    rw [Array.toList_append, List.toList_toArray, List.append_assoc] at this
    exact this
  · rw [List.length_append, Array.length_toList, Array.length_toList, size_zeroCells, size_zeroCells]
    show n * 5 + (grownCap w (sLen + n) sCap 50 - (sLen + n)) * 5 = _
    omega
  · exact ((Below.refl _ _).drew).alloc (Nat.le_refl _) _
end laws
/-! ### a cell cleared -/
theorem run_clear_5 (w : World) (ty : TypeId) (g off c : Nat) (T : TypeId) (cs : List Value) (hg : OBlk w g T cs) (hfit : off + 5 ≤ cs.length) :
    (Builtin.clear_ #[23] ty #[.slice (some ⟨g, off, none⟩) 1 c]).run Try.prog w = .ok (.tuple #[]) (w.setCells g off [.slice none 0 0, .int .i64 0, .slice none 0 0, .int .i64 0, .int .i64 0]) := by
  obtain ⟨i, hi, hz0, hz1, hz2⟩ := info_parts cell_info
  have hz : (Builtin.zeroCells cz.cells 1).toList = [.slice none 0 0, .int .i64 0, .slice none 0 0, .int .i64 0, .int .i64 0] := by kernel_rfl
  have hst := run_storeCells_cells (P := Try.prog) g off [.slice none 0 0, .int .i64 0, .slice none 0 0, .int .i64 0, .int .i64 0] 0 w (fun j hj => by rw [hg.cell]; simp at hj ⊢; omega) (fun j hj => hg.frozen (by simp at hj; omega)) (by simp [Value.oneCell'])
  simp only [Nat.add_zero] at hst
  simp only [cz] at hz
  simp [Builtin.clear_, run_underlying Try.underlying23, zeroValue, typeInfo, hi, hz0, hz, hst]
theorem wp_clear_5 {w : World} {ops : Array Oper} {rest : List Oper} {o : Oper} {a : Act} {Q : Exit → Act → World → Prop} (hgd : o.guard = none) (s : Operand)
    (ho : o.op = .call { callee := .builtin .clear, args := #[s], argTypes := #[23] }) (g off c : Nat) (hs : a.eval s = .slice (some ⟨g, off, none⟩) 1 c) (T : TypeId) (cs : List Value) (hg : OBlk w g T cs) (hfit : off + 5 ≤ cs.length)
    (h : ∀ w', OBlk w' g T (splice cs off [.slice none 0 0, .int .i64 0, .slice none 0 0, .int .i64 0, .int .i64 0]) → w.grownBy w' (some g) → wpList Try.prog ops Q rest (a.put o.dst (.tuple #[])) w') : wpList Try.prog ops Q (o :: rest) a w := by
  refine wpList_plain hgd fun K hK => ?_
  have hrun := run_clear_5 w o.type g off c T cs hg hfit
  unfold Oper.wp
  simp [execOp, ho, resolve, invoke, builtin, hs, hrun, Result.andThen]
  exact hK _ _ (h _ (OBlk.setCells _ _ _ _ hg (by simpa using hfit)) (grownBy_setCells _ _ _ _))
theorem at_clear {P : Program} {w : World} {ops : Array Oper} {rest : List Oper} {a : Act} {Q : Exit → Act → World → Prop} {d : Option Tmp} {x : Operand} {t ty : TypeId} {pos : String} {af : Array Edge} {gd : Option (Nat × Bool)}
    (h : wpList P ops Q ({ dst := d, op := Op.call { callee := Callee.builtin Builtin.clear, args := #[x], argTypes := #[t] }, type := ty, pos := pos, after := af, guard := gd } :: rest) a w) :
    wpList P ops Q ({ dst := d, op := Op.call { callee := Callee.builtin Builtin.clear, args := #[x], argTypes := #[t] }, type := ty, pos := pos, after := af, guard := gd } :: rest) a w := h
end Go.Proofs.Ytaniabhajngdeaa
