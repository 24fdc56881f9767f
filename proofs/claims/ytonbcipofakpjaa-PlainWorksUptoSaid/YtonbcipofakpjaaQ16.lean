/- Texts joined: Both pages; A cell lent and told, in words of pieces; espalierlaw06's pair; espalierlaw06.pair.lent; espalierlaw06.pair.bytes -/
import Derived.Test.YtonbcipofakpjaaQ9
import Derived.Test.YtonbcipofakpjaaQ11
import Derived.Test.YtonbcipofakpjaaQ13
import Derived.Test.YtonbcipofakpjaaQ15
-- Both pages: Bytes, Used, Len, Kind, New: walks.
namespace Go.Proofs.Ytonbcipofakpjaa
open Go.RowKit
section
variable {w0 w : World} {L : List Ent} {r p P : Nat} {kind : Int} {u : Value} {l : List CV}
theorem Sep.pgAt (hS : Sep w0 w (pgE p kind P (sizeF (pcs l) : Nat) u l :: L)) (hr : RngC l) : PgAt w p kind P (sizeF (pcs l) : Nat) u l := by
  have hS1 := hS.pgOpen
  exact ⟨hS1.head, hS1.openRd (u := u) (l := l) (by simp) (fun E hE => by simp [hE]) hr⟩
set_option maxRecDepth 20000 in
theorem PKind_any (h : PgAt w p kind P (sizeF (pcs l) : Nat) u l) : Calls Try.prog 37 #[.pointer (some ⟨p, 0, none⟩)] w fun e w' => e = .returned (.int .i64 kind) ∧ w = w' := by
  obtain ⟨c0, c1, c2, c3⟩ := cells4 h.blk
  go_enter Try.func37, Try.ntmps37
  go_wp2_with fail
  go_ret
  exact ⟨rfl, rfl⟩
theorem PBytes_sep (hS : Sep w0 w (pgE p kind P (sizeF (pcs l) : Nat) u l :: L)) (hr : RngC l) (hk : Wk kind P (pcs l)) (hkd : isKindB kind = true) (hP1 : 512 ≤ P) (hP : P ≤ 65536) :
    Calls Try.prog 29 #[.pointer (some ⟨p, 0, none⟩)] w fun e w' => ∃ v, e = .returned v ∧ Sep w0 w' (bytesE v (laidF kind (pcs l) P) :: pgE p kind P (sizeF (pcs l) : Nat) u l :: L) := by
  have h := hS.pgAt hr
  refine (PBytes_any p kind P _ u l w h.blk h.rd hkd hP1 hP (fun c hc => may_ok (hk.may c hc)) hk.size).mono ?_
  rintro e w' ⟨v, rfl, ho, hb⟩
  exact ⟨v, rfl, hS.bytes hb ho (Nat.le_refl _)⟩
structure RpAt (w : World) (r : Nat) (kind : Int) (P : Nat) (u : Value) (l : List CV) : Prop where
  blk : OBlk w r 92 [.int .i64 kind, .int .i64 (P : Int), u]
  rd : RdCs w u l
theorem Sep.rpAt (hS : Sep w0 w (rpE r kind P u l :: L)) (hr : RngC l) : RpAt w r kind P u l := by
  have hS1 := hS.rpOpen
  exact ⟨hS1.head, hS1.openRd (u := u) (l := l) (by simp) (fun E hE => by simp [hE]) hr⟩
set_option maxRecDepth 20000 in
theorem RLen_any (h : RpAt w r kind P u l) : Calls Try.prog 35 #[.pointer (some ⟨r, 0, none⟩)] w fun e w' => e = .returned (.int .i64 (l.length : Int)) ∧ w = w' := by
  obtain ⟨A, c, rfl, hm, hc⟩ := h.rd.slice
  obtain ⟨c0, c1, c2⟩ := cells3 h.blk
  go_enter Try.func35, Try.ntmps35
  go_wp2_with fail
  go_ret
  exact ⟨rfl, rfl⟩
set_option maxRecDepth 100000 in
set_option maxHeartbeats 1000000 in
theorem RUsed_any (h : RpAt w r kind P u l) (hk : Wk kind P (pcs l)) (hP : P ≤ 65536) : Calls Try.prog 36 #[.pointer (some ⟨r, 0, none⟩)] w fun e w' => e = .returned (.int .i64 (sizeF (pcs l) : Nat)) ∧ Below w.heap.size w w' := by
  obtain ⟨A, c, rfl, hm, hc⟩ := h.rd.slice
  obtain ⟨c0, c1, c2⟩ := cells3 h.blk
  have hlen := hk.len hP
  rw [pcs_length] at hlen
  have hsz : Calls Try.prog 13 #[.int .i64 kind, .slice A l.length c] w.drew fun e w' => e = .returned (.int .i64 (sizeF (pcs l) : Nat)) ∧ Below w.heap.size w.drew w' := RSize_any kind _ l w.drew (h.rd.below ((Below.refl _ _).drew)) (fit_of (P := P) (fun c hc => may_ok (hk.may c hc)) hP (by rw [pcs_length]; omega))
  have hbl := h.blk
  have hpl := hbl.lt
  have HSZ := Lib.hid hsz
  clear hsz h
  go_enter Try.func36, Try.ntmps36
  go_upto_region 1 with (fail)
  go_region_held3 (fun w' => w'.cell? ⟨r, 0, none⟩ = some (.int .i64 kind) ∧ w'.cell? ⟨r, 2, none⟩ = some (.slice A l.length c))
    (first
      | exact ⟨c0, c2⟩
      | (obtain ⟨f0, _, f2⟩ := cells3 (hbl.drew.below hw5 hpl); exact ⟨f0, f2⟩))
    (first
      | (go_at_call 13; refine HSZ.out.mono ?_; rintro e w5 ⟨rfl, hw5⟩)
      | fail)
  go_wp2_with fail
  go_ret
  exact ⟨rfl, (Below.refl _ _).drew.trans hw5⟩
set_option maxRecDepth 100000 in
set_option maxHeartbeats 1000000 in
theorem RBytes_sep (hS : Sep w0 w (rpE r kind P u l :: L)) (hr : RngC l) (hk : Wk kind P (pcs l)) (hkd : isKindB kind = true) (hPp : isPowB (P : Int) = true) (hP : P ≤ 65536) :
    Calls Try.prog 68 #[.pointer (some ⟨r, 0, none⟩)] w fun e w' => ∃ v, e = .returned v ∧ Sep w0 w' (bytesE v (laidF kind (pcs l) P) :: rpE r kind P u l :: L) := by
  have h := hS.rpAt hr
  obtain ⟨A, c, rfl, hm, hc⟩ := h.rd.slice
  obtain ⟨c0, c1, c2⟩ := cells3 h.blk
  have hlen := hk.len hP
  rw [pcs_length] at hlen
  have hz : encZ kind (pcs l) (P : Int) = 0 := by unfold encZ; rw [if_pos (by rw [hkd, hPp]; rfl)]; exact hk.enc
  have hen := REncZ kind _ l (P : Int) w.drew (h.rd.below ((Below.refl _ _).drew)) (by omega)
  rw [hz, show encL kind (pcs l) (P : Int) = laidF kind (pcs l) P by unfold encL; rw [if_pos hz]; rfl] at hen
  have hbl := h.blk
  have hpl := hbl.lt
  have HEN := Lib.hid hen
  have HS := Lib.hid hS
  clear hen h hz hS
  go_enter Try.func68, Try.ntmps68
  go_upto_region 1 with (fail)
  go_region_held3 (fun w' => w'.cell? ⟨r, 0, none⟩ = some (.int .i64 kind) ∧ w'.cell? ⟨r, 1, none⟩ = some (.int .i64 (P : Int)) ∧ w'.cell? ⟨r, 2, none⟩ = some (.slice A l.length c))
    (first
      | exact ⟨c0, c1, c2⟩
      | (obtain ⟨f0, f1, f2⟩ := cells3 (hbl.drew.below hw5 hpl); exact ⟨f0, f1, f2⟩))
    (first
      | (go_at_call 12; refine HEN.out.mono ?_; rintro e w5 ⟨v5, rfl, ho5, hw5⟩)
      | fail)
  go_wp2_with fail
  go_ret
  exact ⟨v5, rfl, HS.out.drew.bytes hw5 ho5 (Nat.le_refl _)⟩
set_option maxRecDepth 20000 in
set_option maxHeartbeats 1000000 in
theorem RNew_ok (hS : Sep w0 w L) (hk : isKindB kind = true) (hp : isPowB (P : Int) = true) : Calls Try.prog 33 #[.int .i64 kind, .int .i64 (P : Int)] w fun e w' =>
    ∃ r, e = .returned (.tuple #[.pointer (some ⟨r, 0, none⟩), .int .i64 0]) ∧ Sep w0 w' (rpE r kind P (.slice none 0 0) [] :: L) := by
  have hKi := fun W => RIsKind_any kind W
  have hPa := fun W => IsPage_any (P : Int) W
  rw [hk] at hKi
  rw [hp] at hPa
  have hS1 := hS.alloc 92 [.int .i64 kind, .int .i64 (P : Int), .slice none 0 0]
  have HS := Lib.hid hS1
  clear hk hp hS1
  go_enter Try.func33, Try.ntmps33
  go_wp2_with (first | (go_at_call 42; refine (hKi _).mono ?_; rintro e w1 ⟨rfl, rfl⟩) | (go_at_call 41; refine (hPa _).mono ?_; rintro e w1 ⟨rfl, rfl⟩) | fail)
  go_ret2
  refine ⟨_, rfl, Sep.rpClose (l := []) ?_⟩
  exact (Sep.nilC HS.out).sw1
set_option maxRecDepth 20000 in
set_option maxHeartbeats 1000000 in
theorem RNew_bad (Q : Int) (hk : (isPowB Q && isKindB kind) = false) : Calls Try.prog 33 #[.int .i64 kind, .int .i64 Q] w fun e w' =>
    e = .returned (.tuple #[.pointer none, .int .i64 1]) ∧ w = w' := by
  have hKi := fun W => RIsKind_any kind W
  have hPa := fun W => IsPage_any Q W
  cases hp : isPowB Q with
  | false =>
    rw [hp] at hPa
    clear hp hk
    go_enter Try.func33, Try.ntmps33
    go_wp2_with (first | (go_at_call 41; refine (hPa _).mono ?_; rintro e w1 ⟨rfl, rfl⟩) | fail)
    go_ret2
    exact ⟨rfl, rfl⟩
  | true =>
    rw [hp, Bool.true_and] at hk
    rw [hp] at hPa
    rw [hk] at hKi
    clear hp hk
    go_enter Try.func33, Try.ntmps33
    go_wp2_with (first | (go_at_call 42; refine (hKi _).mono ?_; rintro e w1 ⟨rfl, rfl⟩) | (go_at_call 41; refine (hPa _).mono ?_; rintro e w1 ⟨rfl, rfl⟩) | fail)
    go_ret2
    exact ⟨rfl, rfl⟩
end
end Go.Proofs.Ytonbcipofakpjaa

-- A cell lent and told, in words of pieces; espalierlaw06's pair: what it is.
namespace Go.Proofs.Ytonbcipofakpjaa
open Go.RowKit
def lkE (g : Nat) (l : List UInt8) : Ent := bytesE (.slice (some ⟨g, 0, none⟩) (l.length + 9) (l.length + 9)) (l ++ marks9)
theorem lent_xin {gk gv : Nat} {c : PC} {L : List Ent} (h1 : lkE gk c.key ∈ L) (h2 : lkE gv c.val ∈ L) (hr : RngY c) (s1 : c.key.length ≤ 140737488355328) (s2 : c.val.length ≤ 140737488355328) : XIn L (lentCV gk gv c) :=
  ⟨⟨_, h1, fun _ h => lentC_rd0 h rfl⟩, ⟨_, h2, fun _ h => lentC_rd0 h rfl⟩, hr.1, hr.2.1, hr.2.2, s1, s2⟩
theorem LentC_sep {w0 w : World} {L : List Ent} (h : Sep w0 w L) (x : CV) (hx : x.ok w) (s1 : x.c.key.length ≤ 140737488355328) (s2 : x.c.val.length ≤ 140737488355328) :
    Calls Try.prog 47 #[cellV x] w fun e w' => ∃ gk gv, e = .returned (cellV (lentCV gk gv x.c)) ∧ Sep w0 w' (lkE gk x.c.key :: lkE gv x.c.val :: L) := by
  refine (LentCell_any x w hx s1 s2).mono ?_
  rintro e w' ⟨gk, gv, rfl, hl, hb⟩
  refine ⟨gk, gv, rfl, ((h.below hb).cons (E := lkE gv x.c.val) (OwB.low hl.v (Nat.zero_le _)) (fun g hg => (Own.lt hl.v g hg).2) (fun A hA g hg hAg => ?_)).cons (E := lkE gk x.c.key) (OwB.low hl.k (Nat.zero_le _)) (fun g hg => (Own.lt hl.k g hg).2) (fun A hA g hg hAg => ?_)⟩
  · have h3 := (h.each A hA).2 g hAg
    have h4 := (Own.lt hl.v g hg).1
    omega
  · rcases List.mem_cons.1 hA with rfl | hA
    · have e1 : gk = g := Option.some.inj hg
      have e2 : gv = g := Option.some.inj hAg
      have := hl.lt
      omega
    · have h3 := (h.each A hA).2 g hAg
      have h4 := (Own.lt hl.k g hg).1
      omega
set_option maxRecDepth 100000 in
set_option maxHeartbeats 1000000 in
theorem AsLentC_sep {w0 w : World} {L : List Ent} {gk gv : Nat} (x : CV) (h : Sep w0 w (lkE gk x.c.key :: lkE gv x.c.val :: L)) (hx : XIn L x) :
    Calls Try.prog 54 #[cellV (lentCV gk gv x.c), cellV x] w fun e w' => e = .returned (.bool true) ∧ Sep w0 w' L := by
  have hx0 := hx.ok h (fun E hE => by simp [hE])
  obtain ⟨A, ca, B, cb, key, ck, val, pg, ct, rfl, -, -⟩ := CV.form hx0
  have hS1 := (h.alloc 32 [.slice (some ⟨gk, 0, none⟩) key.length (key.length + 9), .int .i64 ck, .slice (some ⟨gv, 0, none⟩) val.length (val.length + 9), .int .i64 pg, .int .i64 ct]).alloc 32 [.slice A key.length ca, .int .i64 ck, .slice B val.length cb, .int .i64 pg, .int .i64 ct]
  rw [show (w.alloc (.cells [.slice (some ⟨gk, 0, none⟩) key.length (key.length + 9), .int .i64 ck, .slice (some ⟨gv, 0, none⟩) val.length (val.length + 9), .int .i64 pg, .int .i64 ct].toArray 32)).heap.size = w.heap.size + 1 from World.size_alloc _ _] at hS1
  have HX := Lib.hid hx
  simp only at hS1
  unfold cellV lentCV
  simp only
  clear hx hx0 h
  go_enter Try.func54, Try.ntmps54
  go_upto_region 1 with (fail)
  generalize (w.alloc (.cells #[.slice (some ⟨gk, 0, none⟩) key.length (key.length + 9), .int .i64 ck, .slice (some ⟨gv, 0, none⟩) val.length (val.length + 9), .int .i64 pg, .int .i64 ct] 32)).alloc (.cells #[.slice A key.length ca, .int .i64 ck, .slice B val.length cb, .int .i64 pg, .int .i64 ct] 32) = w2 at *
  have hcq : OBlk w2 (w.heap.size + 1) 32 [.slice A key.length ca, .int .i64 ck, .slice B val.length cb, .int .i64 pg, .int .i64 ct] := hS1.head
  have hcp : OBlk w2 w.heap.size 32 [.slice (some ⟨gk, 0, none⟩) key.length (key.length + 9), .int .i64 ck, .slice (some ⟨gv, 0, none⟩) val.length (val.length + 9), .int .i64 pg, .int .i64 ct] := hS1.tail.head
  obtain ⟨c0, c1, c2, c3, c4⟩ := cells5 hcp
  obtain ⟨d0, d1, d2, d3, d4⟩ := cells5 hcq
  have hx1 := HX.out.ok hS1 (fun E hE => by simp [hE])
  have hal := AsLentB_sep (vb := .slice A key.length ca) (l := key) (g := gk) (n := key.length) (Sep.sw2 hS1) rfl hx1.k HX.out.s1
  clear hcq hcp hx1
  go_upto_region 3 with (first
    | (go_at_call 28; (with_reducible refine hal.mono ?_); rintro e w4 ⟨rfl, hS4⟩)
    | fail)
  clear c0 c1 c2 c3 c4 d0 d1 d2 d3 d4 hal hS1
  have hcq : OBlk w4 (w.heap.size + 1) 32 [.slice A key.length ca, .int .i64 ck, .slice B val.length cb, .int .i64 pg, .int .i64 ct] := hS4.head
  have hcp : OBlk w4 w.heap.size 32 [.slice (some ⟨gk, 0, none⟩) key.length (key.length + 9), .int .i64 ck, .slice (some ⟨gv, 0, none⟩) val.length (val.length + 9), .int .i64 pg, .int .i64 ct] := hS4.tail.head
  obtain ⟨c0, c1, c2, c3, c4⟩ := cells5 hcp
  obtain ⟨d0, d1, d2, d3, d4⟩ := cells5 hcq
  have hx1 := HX.out.ok hS4 (fun E hE => by simp [hE])
  have hal := AsLentB_sep (vb := .slice B val.length cb) (l := val) (g := gv) (n := val.length) (Sep.sw2 hS4) rfl hx1.v HX.out.s2
  clear hcq hcp hx1
  go_wp2_with (first
    | (go_at_call 28; (with_reducible refine hal.mono ?_); rintro e w5 ⟨rfl, hS5⟩)
    | fail)
  go_ret
  exact ⟨rfl, hS5.tail.tail⟩
/-! ### the pair -/
def strV (l : List UInt8) : Value := .string ⟨l.toArray⟩
abbrev w6T (kind : Int) (P p r : Nat) (u v : Value) (l lv : List CV) (cv : Value) (came : List CV) (wv : Value) (want : List CV) (pv : Value) (pics : List (Value × List UInt8)) (hv : Value) (L : List Ent) : List Ent :=
  pgE p kind P (sizeF (pcs l) : Nat) u l :: rpE r kind P v lv :: csE cv came :: csE wv want :: ownE 27 1 pv pics.length (pics.map Prod.fst) :: ownE 9 1 hv pics.length (pics.map fun p => strV p.2) :: allE (pics.map fun p => bytesE p.1 p.2) :: L
abbrev w6P (pb p r : Nat) (cv wv pv hv : Value) : Ent := blkE pb 66 [.pointer (some ⟨p, 0, none⟩), .pointer (some ⟨r, 0, none⟩), cv, wv, pv, hv]
structure W6B (k : Nat) (kind : Int) (P : Nat) (l lv came want : List CV) (pics : List (Value × List UInt8)) : Prop where
  rl : RngC l
  rv : RngC lv
  eq : pcs lv = pcs l
  wk : Wk kind P (pcs l)
  rc : RngC came
  rw : RngC want
  cw : pcs want = pcs came
  nc : came.length ≤ k
  np : pics.length ≤ k
  pl : ∀ p ∈ pics, p.2.length ≤ 65536
  cl : ∀ c ∈ pcs came, c.key.length ≤ 65536 ∧ c.val.length ≤ 65536
structure W6K (kind : Int) (P : Nat) : Prop where
  kd : isKindB kind = true
  pw : isPowB (P : Int) = true
theorem W6K.p1 {kind : Int} {P : Nat} (h : W6K kind P) : 512 ≤ P := by have := (isPowB_range h.pw).1; omega
theorem W6K.p2 {kind : Int} {P : Nat} (h : W6K kind P) : P ≤ 65536 := by have := (isPowB_range h.pw).2; omega
theorem W6K.kk {kind : Int} {P : Nat} (h : W6K kind P) : kind = 2 ∨ kind = 3 := of_decide_eq_true h.kd
/-- A pair, in words of pieces. -/
def W6At (pb : Nat) (kind : Int) (P : Nat) (w0 w : World) (L : List Ent) (k : Nat) : Prop :=
  ∃ p r u v l lv cv came wv want pv pics hv, Sep w0 w (w6P pb p r cv wv pv hv :: w6T kind P p r u v l lv cv came wv want pv pics hv L) ∧ W6B k kind P l lv came want pics
theorem W6B.mono {k : Nat} {kind : Int} {P : Nat} {l lv came want : List CV} {pics : List (Value × List UInt8)} (h : W6B k kind P l lv came want pics) : W6B (k + 1) kind P l lv came want pics :=
  { h with nc := Nat.le_succ_of_le h.nc, np := Nat.le_succ_of_le h.np }
theorem W6B.pages {k : Nat} {kind : Int} {P : Nat} {l lv came want l' lv' : List CV} {pics : List (Value × List UInt8)} (h : W6B k kind P l lv came want pics) (h1 : RngC l') (h2 : RngC lv') (h3 : pcs lv' = pcs l') (h4 : Wk kind P (pcs l')) : W6B k kind P l' lv' came want pics :=
  { h with rl := h1, rv := h2, eq := h3, wk := h4 }
end Go.Proofs.Ytonbcipofakpjaa

-- espalierlaw06.pair.lent: the walk.
namespace Go.Proofs.Ytonbcipofakpjaa
open Go.RowKit
set_option maxRecDepth 100000 in
set_option maxHeartbeats 4000000 in
theorem lent_sep {w0 w : World} {pb q P : Nat} {kind : Int} {L : List Ent} (hP : W6At pb kind P w0 w L q) (HK : W6K kind P) (k i : Int) (hi : i64r i) (x : CV) (hx : XIn L x) :
    Calls Try.prog 62 #[.pointer (some ⟨pb, 0, none⟩), .int .i64 k, .int .i64 i, cellV x] w fun e w' => e = .returned (.bool true) ∧ W6At pb kind P w0 w' L q := by
  obtain ⟨p, r, u, v, l, lv, cv, came, wv, want, pv, pics, hv, hS, hb⟩ := hP
  have hx0 := hx.ok hS (fun E hE => by simp [hE])
  have hS1 := hS.alloc 32 [x.kv, .int .i64 x.c.kind, x.vv, .int .i64 x.c.page, .int .i64 x.c.count]
  have hxl := LentC_sep hS1 x (hx.ok hS1 (fun E hE => by simp [hE])) hx.s1 hx.s2
  obtain ⟨c0, c1, c2, c3, c4⟩ := cells5 hS1.blk
  have hry : RngY x.c := ⟨hx.r1, hx.r2, hx.r3⟩
  have HB := Lib.hid hb
  clear hS hb
  obtain ⟨KA, ka, VA, va, key, ck, val, pg, ct, rfl, -, -⟩ := CV.form hx0
  have HX := Lib.hid hx
  unfold cellV lentCV at hxl
  unfold cellV
  simp only at hxl hry hS1 ⊢
  clear hx hx0 hS1
  go_enter Try.func62, Try.ntmps62
  go_upto_region 2 with (first
    | (go_at_call 47; (with_reducible refine hxl.mono ?_); rintro e w2 ⟨gk, gv, rfl, hS2⟩)
    | fail)
  have hS3 : Sep w0 _ (blkE w2.heap.size 32 [.slice (some ⟨gk, 0, none⟩) key.length (key.length + 9), .int .i64 ck, .slice (some ⟨gv, 0, none⟩) val.length (val.length + 9), .int .i64 pg, .int .i64 ct] :: lkE gk key :: lkE gv val :: blkE w.heap.size 32 [.slice KA key.length ka, .int .i64 ck, .slice VA val.length va, .int .i64 pg, .int .i64 ct] :: w6P pb p r cv wv pv hv :: w6T kind P p r u v l lv cv came wv want pv pics hv L) := hS2.alloc 32 [.slice (some ⟨gk, 0, none⟩) key.length (key.length + 9), .int .i64 ck, .slice (some ⟨gv, 0, none⟩) val.length (val.length + 9), .int .i64 pg, .int .i64 ct]
  clear hS2 hxl c0 c1 c2 c3 c4
  generalize w2.alloc (.cells #[.slice (some ⟨gk, 0, none⟩) key.length (key.length + 9), .int .i64 ck, .slice (some ⟨gv, 0, none⟩) val.length (val.length + 9), .int .i64 pg, .int .i64 ct] 32) = w3 at *
  obtain ⟨lb, hlb⟩ : ∃ b, w2.heap.size = b := ⟨_, rfl⟩
  obtain ⟨bx, hbx⟩ : ∃ b, w.heap.size = b := ⟨_, rfl⟩
  simp only [hlb, hbx] at hS3 ⊢
  clear hlb hbx
  have hKP := HK.p2
  have hKK := HK.kk
  go_upto_region 4 with (fail)
  by_cases hk2 : k = 2
  · subst hk2
    have hS4 : Sep w0 w3.drew (pgE p kind P (sizeF (pcs l) : Nat) u l :: blkE lb 32 [.slice (some ⟨gk, 0, none⟩) key.length (key.length + 9), .int .i64 ck, .slice (some ⟨gv, 0, none⟩) val.length (val.length + 9), .int .i64 pg, .int .i64 ct] :: w6P pb p r cv wv pv hv :: lkE gk key :: lkE gv val :: blkE bx 32 [.slice KA key.length ka, .int .i64 ck, .slice VA val.length va, .int .i64 pg, .int .i64 ct] :: rpE r kind P v lv :: csE cv came :: csE wv want :: ownE 27 1 pv pics.length (pics.map Prod.fst) :: ownE 9 1 hv pics.length (pics.map fun p => strV p.2) :: allE (pics.map fun p => bytesE p.1 p.2) :: L) := (Sep.pick (L := [_, _, _, _, _, _]) [5, 0, 4, 1, 2, 3] (by decide) rfl hS3).drew
    have cpb0 := OBlk.cell' (show OBlk w3.drew pb 66 [.pointer (some ⟨p, 0, none⟩), .pointer (some ⟨r, 0, none⟩), cv, wv, pv, hv] from hS4.tail.tail.head) (j := 0) rfl
    obtain ⟨e0, e1, e2, e3, e4⟩ := cells5 (show OBlk w3.drew lb 32 [.slice (some ⟨gk, 0, none⟩) key.length (key.length + 9), .int .i64 ck, .slice (some ⟨gv, 0, none⟩) val.length (val.length + 9), .int .i64 pg, .int .i64 ct] from hS4.tail.head)
    have hC := PSet_sep hS4 HB.out.rl HB.out.wk hKP (lentCV gk gv ⟨key, ck, val, pg, ct⟩) (lent_xin (by simp) (by simp) hry HX.out.s1 HX.out.s2) i hi
    unfold cellV lentCV at hC
    simp only at hC
    go_upto_region 5 with (fail)
    go_region_held3 (fun w' => w'.cell? ⟨pb, 0, none⟩ = some (.pointer (some ⟨p, 0, none⟩)) ∧ w'.cell? ⟨lb, 0, none⟩ = some (.slice (some ⟨gk, 0, none⟩) key.length (key.length + 9)) ∧ w'.cell? ⟨lb, 1, none⟩ = some (.int .i64 ck) ∧ w'.cell? ⟨lb, 2, none⟩ = some (.slice (some ⟨gv, 0, none⟩) val.length (val.length + 9)) ∧ w'.cell? ⟨lb, 3, none⟩ = some (.int .i64 pg) ∧ w'.cell? ⟨lb, 4, none⟩ = some (.int .i64 ct))
      (first | exact ⟨cpb0, e0, e1, e2, e3, e4⟩ | exact ⟨OBlk.cell' (show OBlk w5 pb 66 [.pointer (some ⟨p, 0, none⟩), .pointer (some ⟨r, 0, none⟩), cv, wv, pv, hv] from hS5.tail.tail.head) (j := 0) rfl, cells5 (show OBlk w5 lb 32 [.slice (some ⟨gk, 0, none⟩) key.length (key.length + 9), .int .i64 ck, .slice (some ⟨gv, 0, none⟩) val.length (val.length + 9), .int .i64 pg, .int .i64 ct] from hS5.tail.head)⟩)
      (first
        | (go_at_call 84; (with_reducible refine hC.mono ?_); rintro e w5 ⟨u5, l5, rfl, hl5, hr5, hS5⟩)
        | fail)
    clear hC hS4 cpb0 e0 e1 e2 e3 e4 hS3
    have hS6 : Sep w0 w5.drew (rpE r kind P v lv :: blkE bx 32 [.slice KA key.length ka, .int .i64 ck, .slice VA val.length va, .int .i64 pg, .int .i64 ct] :: w6P pb p r cv wv pv hv :: blkE lb 32 [.slice (some ⟨gk, 0, none⟩) key.length (key.length + 9), .int .i64 ck, .slice (some ⟨gv, 0, none⟩) val.length (val.length + 9), .int .i64 pg, .int .i64 ct] :: lkE gk key :: lkE gv val :: pgE p kind P (sizeF (pcs l5) : Nat) u5 l5 :: csE cv came :: csE wv want :: ownE 27 1 pv pics.length (pics.map Prod.fst) :: ownE 9 1 hv pics.length (pics.map fun p => strV p.2) :: allE (pics.map fun p => bytesE p.1 p.2) :: L) := (Sep.pick (L := [_, _, _, _, _, _, _]) [6, 5, 2, 1, 3, 4, 0] (by decide) rfl hS5).drew
    have cpb1 := OBlk.cell' (show OBlk w5.drew pb 66 [.pointer (some ⟨p, 0, none⟩), .pointer (some ⟨r, 0, none⟩), cv, wv, pv, hv] from hS6.tail.tail.head) (j := 1) rfl
    obtain ⟨e0, e1, e2, e3, e4⟩ := cells5 (show OBlk w5.drew bx 32 [.slice KA key.length ka, .int .i64 ck, .slice VA val.length va, .int .i64 pg, .int .i64 ct] from hS6.tail.head)
    have hC := RSet_sep hS6 HB.out.rv (by rw [HB.out.eq]; exact HB.out.wk) hKK hKP ⟨.slice KA key.length ka, .slice VA val.length va, ⟨key, ck, val, pg, ct⟩⟩ (XIn.app (L1 := [_, _, _, _, _, _, _, _, _, _, _]) HX.out) i hi
    rw [HB.out.eq] at hC
    unfold cellV at hC
    simp only at hC
    go_upto_region 6 with (fail)
    go_region_held3 (fun w' => w'.cell? ⟨pb, 1, none⟩ = some (.pointer (some ⟨r, 0, none⟩)) ∧ w'.cell? ⟨bx, 0, none⟩ = some (.slice KA key.length ka) ∧ w'.cell? ⟨bx, 1, none⟩ = some (.int .i64 ck) ∧ w'.cell? ⟨bx, 2, none⟩ = some (.slice VA val.length va) ∧ w'.cell? ⟨bx, 3, none⟩ = some (.int .i64 pg) ∧ w'.cell? ⟨bx, 4, none⟩ = some (.int .i64 ct))
      (first | exact ⟨cpb1, e0, e1, e2, e3, e4⟩ | exact ⟨OBlk.cell' (show OBlk w7 pb 66 [.pointer (some ⟨p, 0, none⟩), .pointer (some ⟨r, 0, none⟩), cv, wv, pv, hv] from hS7.tail.tail.head) (j := 1) rfl, cells5 (show OBlk w7 bx 32 [.slice KA key.length ka, .int .i64 ck, .slice VA val.length va, .int .i64 pg, .int .i64 ct] from hS7.tail.head)⟩)
      (first
        | (go_at_call 85; (with_reducible refine hC.mono ?_); rintro e w7 ⟨v7, lv7, rfl, hlv7, hr7, hS7⟩)
        | fail)
    clear hC hS6 cpb1 e0 e1 e2 e3 e4 hS5
    have hS8 : Sep w0 w7 (lkE gk key :: lkE gv val :: blkE lb 32 [.slice (some ⟨gk, 0, none⟩) key.length (key.length + 9), .int .i64 ck, .slice (some ⟨gv, 0, none⟩) val.length (val.length + 9), .int .i64 pg, .int .i64 ct] :: blkE bx 32 [.slice KA key.length ka, .int .i64 ck, .slice VA val.length va, .int .i64 pg, .int .i64 ct] :: w6P pb p r cv wv pv hv :: w6T kind P p r u5 v7 l5 lv7 cv came wv want pv pics hv L) := Sep.pick (L := [_, _, _, _, _, _, _]) [4, 5, 3, 1, 2, 6, 0] (by decide) rfl hS7
    obtain ⟨e0, e1, e2, e3, e4⟩ := cells5 (show OBlk w7 lb 32 [.slice (some ⟨gk, 0, none⟩) key.length (key.length + 9), .int .i64 ck, .slice (some ⟨gv, 0, none⟩) val.length (val.length + 9), .int .i64 pg, .int .i64 ct] from hS8.tail.tail.head)
    obtain ⟨f0, f1, f2, f3, f4⟩ := cells5 (show OBlk w7 bx 32 [.slice KA key.length ka, .int .i64 ck, .slice VA val.length va, .int .i64 pg, .int .i64 ct] from hS8.tail.tail.tail.head)
    have hA := AsLentC_sep ⟨.slice KA key.length ka, .slice VA val.length va, ⟨key, ck, val, pg, ct⟩⟩ hS8 (XIn.app (L1 := [_, _, _, _, _, _, _, _, _, _]) HX.out)
    unfold cellV lentCV at hA
    simp only at hA
    have hwk := HB.out.wk.ins i 1 ⟨key, ck, val, pg, ct⟩
    rw [← hl5] at hwk hlv7
    have HBN := Lib.hid (HB.out.pages hr5 hr7 hlv7 hwk)
    clear hwk hlv7 hl5
    generalize insZ kind P (pcs l) i 1 ⟨key, ck, val, pg, ct⟩ = Z at *
    go_wp2_with (first
      | (go_at_call 54; (with_reducible refine hA.mono ?_); rintro e w9 ⟨rfl, hS9⟩)
      | fail)
    go_ret
    exact ⟨rfl, p, r, u5, v7, l5, lv7, cv, came, wv, want, pv, pics, hv, hS9.tail.tail, HBN.out⟩
  · have hk3 : (k == 2) = false := beq_eq_false_iff_ne.2 hk2
    have hS4 : Sep w0 w3.drew (pgE p kind P (sizeF (pcs l) : Nat) u l :: blkE lb 32 [.slice (some ⟨gk, 0, none⟩) key.length (key.length + 9), .int .i64 ck, .slice (some ⟨gv, 0, none⟩) val.length (val.length + 9), .int .i64 pg, .int .i64 ct] :: w6P pb p r cv wv pv hv :: lkE gk key :: lkE gv val :: blkE bx 32 [.slice KA key.length ka, .int .i64 ck, .slice VA val.length va, .int .i64 pg, .int .i64 ct] :: rpE r kind P v lv :: csE cv came :: csE wv want :: ownE 27 1 pv pics.length (pics.map Prod.fst) :: ownE 9 1 hv pics.length (pics.map fun p => strV p.2) :: allE (pics.map fun p => bytesE p.1 p.2) :: L) := (Sep.pick (L := [_, _, _, _, _, _]) [5, 0, 4, 1, 2, 3] (by decide) rfl hS3).drew
    have cpb0 := OBlk.cell' (show OBlk w3.drew pb 66 [.pointer (some ⟨p, 0, none⟩), .pointer (some ⟨r, 0, none⟩), cv, wv, pv, hv] from hS4.tail.tail.head) (j := 0) rfl
    obtain ⟨e0, e1, e2, e3, e4⟩ := cells5 (show OBlk w3.drew lb 32 [.slice (some ⟨gk, 0, none⟩) key.length (key.length + 9), .int .i64 ck, .slice (some ⟨gv, 0, none⟩) val.length (val.length + 9), .int .i64 pg, .int .i64 ct] from hS4.tail.head)
    have hC := PInsert_sep hS4 HB.out.rl HB.out.wk hKP (lentCV gk gv ⟨key, ck, val, pg, ct⟩) (lent_xin (by simp) (by simp) hry HX.out.s1 HX.out.s2) i hi
    unfold cellV lentCV at hC
    simp only at hC
    go_upto_region 7 with (fail)
    go_region_held3 (fun w' => w'.cell? ⟨pb, 0, none⟩ = some (.pointer (some ⟨p, 0, none⟩)) ∧ w'.cell? ⟨lb, 0, none⟩ = some (.slice (some ⟨gk, 0, none⟩) key.length (key.length + 9)) ∧ w'.cell? ⟨lb, 1, none⟩ = some (.int .i64 ck) ∧ w'.cell? ⟨lb, 2, none⟩ = some (.slice (some ⟨gv, 0, none⟩) val.length (val.length + 9)) ∧ w'.cell? ⟨lb, 3, none⟩ = some (.int .i64 pg) ∧ w'.cell? ⟨lb, 4, none⟩ = some (.int .i64 ct))
      (first | exact ⟨cpb0, e0, e1, e2, e3, e4⟩ | exact ⟨OBlk.cell' (show OBlk w5 pb 66 [.pointer (some ⟨p, 0, none⟩), .pointer (some ⟨r, 0, none⟩), cv, wv, pv, hv] from hS5.tail.tail.head) (j := 0) rfl, cells5 (show OBlk w5 lb 32 [.slice (some ⟨gk, 0, none⟩) key.length (key.length + 9), .int .i64 ck, .slice (some ⟨gv, 0, none⟩) val.length (val.length + 9), .int .i64 pg, .int .i64 ct] from hS5.tail.head)⟩)
      (first
        | (go_at_call 40; (with_reducible refine hC.mono ?_); rintro e w5 ⟨u5, l5, rfl, hl5, hr5, hS5⟩)
        | fail)
    clear hC hS4 cpb0 e0 e1 e2 e3 e4 hS3
    have hS6 : Sep w0 w5.drew (rpE r kind P v lv :: blkE bx 32 [.slice KA key.length ka, .int .i64 ck, .slice VA val.length va, .int .i64 pg, .int .i64 ct] :: w6P pb p r cv wv pv hv :: blkE lb 32 [.slice (some ⟨gk, 0, none⟩) key.length (key.length + 9), .int .i64 ck, .slice (some ⟨gv, 0, none⟩) val.length (val.length + 9), .int .i64 pg, .int .i64 ct] :: lkE gk key :: lkE gv val :: pgE p kind P (sizeF (pcs l5) : Nat) u5 l5 :: csE cv came :: csE wv want :: ownE 27 1 pv pics.length (pics.map Prod.fst) :: ownE 9 1 hv pics.length (pics.map fun p => strV p.2) :: allE (pics.map fun p => bytesE p.1 p.2) :: L) := (Sep.pick (L := [_, _, _, _, _, _, _]) [6, 5, 2, 1, 3, 4, 0] (by decide) rfl hS5).drew
    have cpb1 := OBlk.cell' (show OBlk w5.drew pb 66 [.pointer (some ⟨p, 0, none⟩), .pointer (some ⟨r, 0, none⟩), cv, wv, pv, hv] from hS6.tail.tail.head) (j := 1) rfl
    obtain ⟨e0, e1, e2, e3, e4⟩ := cells5 (show OBlk w5.drew bx 32 [.slice KA key.length ka, .int .i64 ck, .slice VA val.length va, .int .i64 pg, .int .i64 ct] from hS6.tail.head)
    have hC := RInsert_sep hS6 HB.out.rv (by rw [HB.out.eq]; exact HB.out.wk) hKK hKP ⟨.slice KA key.length ka, .slice VA val.length va, ⟨key, ck, val, pg, ct⟩⟩ (XIn.app (L1 := [_, _, _, _, _, _, _, _, _, _, _]) HX.out) i hi
    rw [HB.out.eq] at hC
    unfold cellV at hC
    simp only at hC
    go_upto_region 8 with (fail)
    go_region_held3 (fun w' => w'.cell? ⟨pb, 1, none⟩ = some (.pointer (some ⟨r, 0, none⟩)) ∧ w'.cell? ⟨bx, 0, none⟩ = some (.slice KA key.length ka) ∧ w'.cell? ⟨bx, 1, none⟩ = some (.int .i64 ck) ∧ w'.cell? ⟨bx, 2, none⟩ = some (.slice VA val.length va) ∧ w'.cell? ⟨bx, 3, none⟩ = some (.int .i64 pg) ∧ w'.cell? ⟨bx, 4, none⟩ = some (.int .i64 ct))
      (first | exact ⟨cpb1, e0, e1, e2, e3, e4⟩ | exact ⟨OBlk.cell' (show OBlk w7 pb 66 [.pointer (some ⟨p, 0, none⟩), .pointer (some ⟨r, 0, none⟩), cv, wv, pv, hv] from hS7.tail.tail.head) (j := 1) rfl, cells5 (show OBlk w7 bx 32 [.slice KA key.length ka, .int .i64 ck, .slice VA val.length va, .int .i64 pg, .int .i64 ct] from hS7.tail.head)⟩)
      (first
        | (go_at_call 86; (with_reducible refine hC.mono ?_); rintro e w7 ⟨v7, lv7, rfl, hlv7, hr7, hS7⟩)
        | fail)
    clear hC hS6 cpb1 e0 e1 e2 e3 e4 hS5
    have hS8 : Sep w0 w7 (lkE gk key :: lkE gv val :: blkE lb 32 [.slice (some ⟨gk, 0, none⟩) key.length (key.length + 9), .int .i64 ck, .slice (some ⟨gv, 0, none⟩) val.length (val.length + 9), .int .i64 pg, .int .i64 ct] :: blkE bx 32 [.slice KA key.length ka, .int .i64 ck, .slice VA val.length va, .int .i64 pg, .int .i64 ct] :: w6P pb p r cv wv pv hv :: w6T kind P p r u5 v7 l5 lv7 cv came wv want pv pics hv L) := Sep.pick (L := [_, _, _, _, _, _, _]) [4, 5, 3, 1, 2, 6, 0] (by decide) rfl hS7
    obtain ⟨e0, e1, e2, e3, e4⟩ := cells5 (show OBlk w7 lb 32 [.slice (some ⟨gk, 0, none⟩) key.length (key.length + 9), .int .i64 ck, .slice (some ⟨gv, 0, none⟩) val.length (val.length + 9), .int .i64 pg, .int .i64 ct] from hS8.tail.tail.head)
    obtain ⟨f0, f1, f2, f3, f4⟩ := cells5 (show OBlk w7 bx 32 [.slice KA key.length ka, .int .i64 ck, .slice VA val.length va, .int .i64 pg, .int .i64 ct] from hS8.tail.tail.tail.head)
    have hA := AsLentC_sep ⟨.slice KA key.length ka, .slice VA val.length va, ⟨key, ck, val, pg, ct⟩⟩ hS8 (XIn.app (L1 := [_, _, _, _, _, _, _, _, _, _]) HX.out)
    unfold cellV lentCV at hA
    simp only at hA
    have hwk := HB.out.wk.ins i 0 ⟨key, ck, val, pg, ct⟩
    rw [← hl5] at hwk hlv7
    have HBN := Lib.hid (HB.out.pages hr5 hr7 hlv7 hwk)
    clear hwk hlv7 hl5
    generalize insZ kind P (pcs l) i 0 ⟨key, ck, val, pg, ct⟩ = Z at *
    go_wp2_with (first
      | (go_at_call 54; (with_reducible refine hA.mono ?_); rintro e w9 ⟨rfl, hS9⟩)
      | fail)
    go_ret
    exact ⟨rfl, p, r, u5, v7, l5, lv7, cv, came, wv, want, pv, pics, hv, hS9.tail.tail, HBN.out⟩
end Go.Proofs.Ytonbcipofakpjaa

-- espalierlaw06.pair.bytes: the walk.
namespace Go.Proofs.Ytonbcipofakpjaa
open Go.RowKit
theorem str_info : (Try.prog.info? 9).map (fun i => (i.zero, i.size, i.bytes)) = some (some (.string ⟨#[]⟩), 1, 16) := by kernel_rfl
theorem lb_info : (Try.prog.info? 27).map (fun i => (i.zero, i.size, i.bytes)) = some (some (.slice none 0 0), 1, 24) := by kernel_rfl
section laws
variable {w : World} {ops : Array Oper} {rest : List Oper} {o : Oper} {a : Act} {Q : Exit → Act → World → Prop}
/-- append(vs, u) of one slice of bytes that has just been laid. -/
theorem wp_append_LB (hgd : o.guard = none) (s x : Operand)
    (ho : o.op = .call { callee := .builtin .append, args := #[s, x], argTypes := #[36, 36] })
    (base n : Nat) (v : Value) (vs : List Value) (hs : a.eval s = v) (hown : Own w base 27 1 v n vs)
    (u : Value) (hu : u.oneCell' = true) (T : TypeId) (hx : a.eval x = .slice (some ⟨w.heap.size, 0, none⟩) 1 1) (hsm : n + 1 ≤ 100000000) (hbase : base ≤ w.heap.size)
    (h : ∀ v' w', Own w' base 27 1 v' (n + 1) (vs ++ [u]) → w.grownBy w' v.ownBlock → (v'.ownBlock = v.ownBlock ∨ (v'.ownBlock = some (w.heap.size + 1))) → wpList Try.prog ops Q rest (a.put o.dst v') w') :
    wpList Try.prog ops Q (o :: rest) a (w.alloc (.cells #[u] T)) := by
  obtain ⟨i, hi, hz0, hz1, hz2⟩ := info_parts lb_info
  refine wp_append hgd s x _ _ ho base 27 i _ 1 24 Try.underlying36 hi hz0 hz1 hz2 rfl v n vs hs (hown.alloc _) (.slice (some ⟨w.heap.size, 0, none⟩) 1 1) 1 [u] hx
    (Rd.src _ Try.underlying36 (by omega) (Rd.one w u T) (by simpa using hu)) (by omega) (by omega) (by simp; omega) ?_
  intro v' w' h1 h2 h3
  refine h v' w' h1 ⟨h2.os, h2.tape, h2.output, ?_, fun k hk hne => (h2.block k (by simp; omega) hne).trans (Below.heap_alloc _ _ _ hk)⟩ (by simpa using h3)
  have := h2.size
  simp at this; omega
end laws
section
variable {w0 w w' : World} {L : List Ent}
theorem Sep.appV {T : TypeId} {v v' : Value} {n m : Nat} {xs ys : List Value} (h : Sep w0 w (ownE T 1 v n xs :: L)) (ho : Own w' 0 T 1 v' m ys) (hg : w.grownBy w' v.ownBlock) (hk : v'.ownBlock = v.ownBlock ∨ ∃ k, v'.ownBlock = some k ∧ w.heap.size ≤ k) : Sep w0 w' (ownE T 1 v' m ys :: L) :=
  h.upd (Turn.of_grown hg (fun _ e => e)) ho (fun g hg' => ⟨by
    rcases hk with e | ⟨k, e, hk⟩
    · exact .inl (e.symm.trans hg' : v.ownBlock = some g)
    · right
      have := e.symm.trans hg'
      injection this with this
      omega, (Own.lt ho g hg').2⟩)
theorem Sep.snocAll {D : List Ent} {E : Ent} (h : Sep w0 w (allE D :: E :: L)) : Sep w0 w (allE (D ++ [E]) :: L) := by
  have h1 := h.unpack
  have e : D ++ E :: L = (D ++ [E]) ++ L := by simp
  rw [e] at h1
  exact h1.pack
end
theorem RdB.one {w : World} {v : Value} {l : List UInt8} (h : RdB w v l) : v.oneCell' = true := by obtain ⟨A, c, rfl, -⟩ := h.form; rfl
theorem W6B.pic {k : Nat} {kind : Int} {P : Nat} {l lv came want : List CV} {pics : List (Value × List UInt8)} (h : W6B k kind P l lv came want pics) (v : Value) {b : List UInt8} (hb : b.length ≤ 65536) : W6B (k + 1) kind P l lv came want (pics ++ [(v, b)]) :=
  { h.mono with np := by have := h.np; rw [List.length_append, List.length_singleton]; omega, pl := fun p hp => by rcases List.mem_append.1 hp with hp | hp; exact h.pl p hp; obtain rfl := List.mem_singleton.1 hp; exact hb }
set_option maxRecDepth 100000 in
set_option maxHeartbeats 4000000 in
theorem bytes_sep {w0 w : World} {pb q P : Nat} {kind : Int} {L : List Ent} (hP : W6At pb kind P w0 w L q) (HK : W6K kind P) (hq : q ≤ 5000000) :
    Calls Try.prog 38 #[.pointer (some ⟨pb, 0, none⟩)] w fun e w' => e = .returned (.bool true) ∧ W6At pb kind P w0 w' L (q + 1) := by
  obtain ⟨p, r, u, v, l, lv, cv, came, wv, want, pv, pics, hv, hS, hb⟩ := hP
  have HB := Lib.hid hb
  have hnp : pics.length ≤ 5000000 := by have := hb.np; omega
  have hd : (laidF kind (pcs l) P).length ≤ 65536 := by rw [laidF_length hb.wk.size]; exact HK.p2
  have HD := Lib.hid hd
  have hbk : OBlk w pb 66 [.pointer (some ⟨p, 0, none⟩), .pointer (some ⟨r, 0, none⟩), cv, wv, pv, hv] := hS.head
  have k0 := hbk.cell' (j := 0) rfl
  have hC := PBytes_sep (Sep.pick (L := [_, _]) [1, 0] (by decide) rfl hS) hb.rl hb.wk HK.kd HK.p1 HK.p2
  clear hb hbk hd
  go_enter Try.func38, Try.ntmps38
  go_upto_region 2 with (first
    | (go_at_call 29; (with_reducible refine hC.mono ?_); rintro e w2 ⟨va, rfl, hS2⟩)
    | fail)
  clear hC k0 hS
  have hS3 : Sep w0 w2 (rpE r kind P v lv :: bytesE va (laidF kind (pcs l) P) :: pgE p kind P (sizeF (pcs l) : Nat) u l :: w6P pb p r cv wv pv hv :: csE cv came :: csE wv want :: ownE 27 1 pv pics.length (pics.map Prod.fst) :: ownE 9 1 hv pics.length (pics.map fun p => strV p.2) :: allE (pics.map fun p => bytesE p.1 p.2) :: L) := Sep.pick (L := [_, _, _, _]) [3, 0, 1, 2] (by decide) rfl hS2
  have hbk : OBlk w2 pb 66 [.pointer (some ⟨p, 0, none⟩), .pointer (some ⟨r, 0, none⟩), cv, wv, pv, hv] := hS3.tail.tail.tail.head
  have k1 := hbk.cell' (j := 1) rfl
  have hC := RBytes_sep hS3 HB.out.rv (by rw [HB.out.eq]; exact HB.out.wk) HK.kd HK.pw HK.p2
  rw [HB.out.eq] at hC
  clear hbk
  go_upto_region 3 with (first
    | (go_at_call 68; (with_reducible refine hC.mono ?_); rintro e w4 ⟨vb, rfl, hS4⟩)
    | fail)
  clear hC k1 hS3 hS2
  generalize laidF kind (pcs l) P = d at *
  have hS5 : Sep w0 w4 (ownE 27 1 pv pics.length (pics.map Prod.fst) :: w6P pb p r cv wv pv hv :: bytesE va d :: bytesE vb d :: ownE 9 1 hv pics.length (pics.map fun p => strV p.2) :: pgE p kind P (sizeF (pcs l) : Nat) u l :: rpE r kind P v lv :: csE cv came :: csE wv want :: allE (pics.map fun p => bytesE p.1 p.2) :: L) := Sep.pick (L := [_, _, _, _, _, _, _, _, _]) [7, 4, 2, 0, 8, 3, 1, 5, 6] (by decide) rfl hS4
  clear hS4
  have hcw : Own w4 0 27 1 pv pics.length (pics.map Prod.fst) := hS5.head
  have hwv : Own w4 0 9 1 hv pics.length (pics.map fun p => strV p.2) := hS5.tail.tail.tail.tail.head
  obtain ⟨CA, cc, rfl⟩ := Own.slice hcw
  obtain ⟨WA, wc, rfl⟩ := Own.slice hwv
  have hra : RdB w4 va d := OwB.rd (show OwB w4 0 va d from hS5.tail.tail.head)
  have hrb : RdB w4 vb d := OwB.rd (show OwB w4 0 vb d from hS5.tail.tail.tail.head)
  have hone := hra.one
  obtain ⟨A1, d1, rfl, -⟩ := hra.form
  obtain ⟨B1, e1, rfl, -⟩ := hrb.form
  have hbk : OBlk w4 pb 66 [.pointer (some ⟨p, 0, none⟩), .pointer (some ⟨r, 0, none⟩), cv, wv, .slice CA pics.length cc, .slice WA pics.length wc] := hS5.tail.head
  have k4 := hbk.cell' (j := 4) rfl
  clear hbk hwv hra hrb
  go_upto_region 4 with (first
    | (at_builtin; refine wp_append_LB rfl (.tmp 19) (.tmp 21) rfl 0 pics.length (.slice CA pics.length cc) (pics.map Prod.fst) rfl hcw (.slice A1 d.length d1) hone _ rfl (by omega) (Nat.zero_le _) ?_; intro v5 w5 ho5 hg5 hk5; obtain ⟨VA, vc, rfl⟩ := Own.slice ho5; have hS6 := hS5.appV ho5 hg5 (by rcases hk5 with e | e; exact .inl e; exact .inr ⟨_, e, by omega⟩); have f4 := OBlk.frozen (show OBlk w5 pb 66 [.pointer (some ⟨p, 0, none⟩), .pointer (some ⟨r, 0, none⟩), cv, wv, .slice CA pics.length cc, .slice WA pics.length wc] from hS6.tail.head) (j := 4) (by simp); have k4' := OBlk.cell' (show OBlk w5 pb 66 [.pointer (some ⟨p, 0, none⟩), .pointer (some ⟨r, 0, none⟩), cv, wv, .slice CA pics.length cc, .slice WA pics.length wc] from hS6.tail.head) (j := 4) rfl; clear ho5 hg5 hk5)
    | fail)
  have hS7 : Sep w0 _ (w6P pb p r cv wv (.slice VA (pics.length + 1) vc) (.slice WA pics.length wc) :: ownE 27 1 (.slice VA (pics.length + 1) vc) (pics.length + 1) (pics.map Prod.fst ++ [.slice A1 d.length d1]) :: bytesE (.slice A1 d.length d1) d :: bytesE (.slice B1 d.length e1) d :: ownE 9 1 (.slice WA pics.length wc) pics.length (pics.map fun p => strV p.2) :: pgE p kind P (sizeF (pcs l) : Nat) u l :: rpE r kind P v lv :: csE cv came :: csE wv want :: allE (pics.map fun p => bytesE p.1 p.2) :: L) := (Sep.sw1 hS6).setCell 4 (.slice VA (pics.length + 1) vc)
  clear hS6 hS5 f4 k4' k4 hcw
  generalize w5.setCell ⟨pb, 4, none⟩ (.slice VA (pics.length + 1) vc) = w6 at *
  have hSd := hS7.drew
  have q2 := run_B_string (OwB.rd (show OwB w6.drew 0 (.slice B1 d.length e1) d from hSd.tail.tail.tail.head))
  obtain ⟨i0, hi, hz0, hz1, hz2⟩ := info_parts str_info
  have hbd : OBlk w6.drew pb 66 [.pointer (some ⟨p, 0, none⟩), .pointer (some ⟨r, 0, none⟩), cv, wv, .slice VA (pics.length + 1) vc, .slice WA pics.length wc] := hSd.head
  have k5 : w6.cell? ⟨pb, 5, none⟩ = some (.slice WA pics.length wc) := hbd.cell' (j := 5) rfl
  have hSa := hSd.alloc 9 [strV d]
  have hba : OBlk (w6.drew.alloc (.cells #[strV d] 9)) pb 66 [.pointer (some ⟨p, 0, none⟩), .pointer (some ⟨r, 0, none⟩), cv, wv, .slice VA (pics.length + 1) vc, .slice WA pics.length wc] := hSa.tail.head
  have k5a : (w6.alloc (.cells #[.string ⟨d.toArray⟩] 9)).cell? ⟨pb, 5, none⟩ = some (.slice WA pics.length wc) := hba.cell' (j := 5) rfl
  have hwa : Own (w6.drew.alloc (.cells #[strV d] 9)) 0 9 1 (.slice WA pics.length wc) pics.length (pics.map fun p => strV p.2) := hSa.tail.tail.tail.tail.tail.head
  have hr3 := Rd.one w6.drew (strV d) 9
  have hSw : Sep w0 (w6.drew.alloc (.cells #[strV d] 9)) (ownE 9 1 (.slice WA pics.length wc) pics.length (pics.map fun p => strV p.2) :: w6P pb p r cv wv (.slice VA (pics.length + 1) vc) (.slice WA pics.length wc) :: ownE 27 1 (.slice VA (pics.length + 1) vc) (pics.length + 1) (pics.map Prod.fst ++ [.slice A1 d.length d1]) :: bytesE (.slice A1 d.length d1) d :: bytesE (.slice B1 d.length e1) d :: pgE p kind P (sizeF (pcs l) : Nat) u l :: rpE r kind P v lv :: csE cv came :: csE wv want :: allE (pics.map fun p => bytesE p.1 p.2) :: L) := Sep.sw4 hSa.tail
  have hst : strV d = .string ⟨d.toArray⟩ := rfl
  rw [hst] at hSa hba hwa hr3 hSw
  clear hbd hba hSa hS7 hst
  go_region_law
    (first
      | (refine step_append (by rfl) (.tmp 29) (.tmp 32) _ _ (by rfl) 0 9 i0 _ 1 16 Try.underlying64 hi hz0 hz1 hz2 rfl (.slice WA pics.length wc) pics.length _ (by rfl) hwa (.slice (some ⟨w6.heap.size, 0, none⟩) 1 1) 1 [.string ⟨d.toArray⟩] (by rfl) (Rd.src _ Try.underlying64 (by omega) hr3 (by simp [Value.oneCell'])) (by omega) (by omega) (Nat.zero_le _) ?_; intro v8 w8 ho8 hg8 hk8; obtain ⟨W8, x8, rfl⟩ := Own.slice ho8; have hS8 := (hSw.appV ho8 hg8 (by rcases hk8 with e | e; exact .inl e; exact .inr ⟨_, e, Nat.le_refl _⟩)).sw1; have c5' := OBlk.cell' (show OBlk w8 pb 66 [.pointer (some ⟨p, 0, none⟩), .pointer (some ⟨r, 0, none⟩), cv, wv, .slice VA (pics.length + 1) vc, .slice WA pics.length wc] from hS8.head) (j := 5) rfl; have f5' := OBlk.frozen (show OBlk w8 pb 66 [.pointer (some ⟨p, 0, none⟩), .pointer (some ⟨r, 0, none⟩), cv, wv, .slice VA (pics.length + 1) vc, .slice WA pics.length wc] from hS8.head) (j := 5) (by simp))
      | fail)
  all_goals
    have hS9 : Sep w0 _ (w6P pb p r cv wv (.slice VA (pics.length + 1) vc) (.slice W8 (pics.length + 1) x8) :: ownE 9 1 (.slice W8 (pics.length + 1) x8) (pics.length + 1) ((pics.map fun p => strV p.2) ++ [strV d]) :: ownE 27 1 (.slice VA (pics.length + 1) vc) (pics.length + 1) (pics.map Prod.fst ++ [.slice A1 d.length d1]) :: bytesE (.slice A1 d.length d1) d :: bytesE (.slice B1 d.length e1) d :: pgE p kind P (sizeF (pcs l) : Nat) u l :: rpE r kind P v lv :: csE cv came :: csE wv want :: allE (pics.map fun p => bytesE p.1 p.2) :: L) := hS8.setCell 5 (.slice W8 (pics.length + 1) x8)
    clear hS8 hSw c5' f5' q2 hSd k5a k5 hwa hr3
    generalize w8.setCell ⟨pb, 5, none⟩ (.slice W8 (pics.length + 1) x8) = w9 at *
    have q3 := run_B_string (OwB.rd (show OwB w9 0 (.slice A1 d.length d1) d from hS9.tail.tail.tail.head))
    have q4 := run_B_string (OwB.rd (show OwB w9 0 (.slice B1 d.length e1) d from hS9.tail.tail.tail.tail.head))
    go_wp2_with fail
    go_ret
    have hS10 : Sep w0 w9 (allE (pics.map fun p => bytesE p.1 p.2) :: bytesE (.slice A1 d.length d1) d :: w6P pb p r cv wv (.slice VA (pics.length + 1) vc) (.slice W8 (pics.length + 1) x8) :: pgE p kind P (sizeF (pcs l) : Nat) u l :: rpE r kind P v lv :: csE cv came :: csE wv want :: ownE 27 1 (.slice VA (pics.length + 1) vc) (pics.length + 1) (pics.map Prod.fst ++ [.slice A1 d.length d1]) :: ownE 9 1 (.slice W8 (pics.length + 1) x8) (pics.length + 1) ((pics.map fun p => strV p.2) ++ [strV d]) :: L) := Sep.pick (L := [_, _, _, _, _, _, _, _, _, _]) [9, 3, 0, 5, 6, 7, 8, 2, 1] (by decide) rfl hS9
    have hS11 : Sep w0 w9 (w6P pb p r cv wv (.slice VA (pics.length + 1) vc) (.slice W8 (pics.length + 1) x8) :: pgE p kind P (sizeF (pcs l) : Nat) u l :: rpE r kind P v lv :: csE cv came :: csE wv want :: ownE 27 1 (.slice VA (pics.length + 1) vc) (pics.length + 1) (pics.map Prod.fst ++ [.slice A1 d.length d1]) :: ownE 9 1 (.slice W8 (pics.length + 1) x8) (pics.length + 1) ((pics.map fun p => strV p.2) ++ [strV d]) :: allE ((pics.map fun p => bytesE p.1 p.2) ++ [bytesE (.slice A1 d.length d1) d]) :: L) := Sep.pick (L := [_, _, _, _, _, _, _, _]) [1, 2, 3, 4, 5, 6, 7, 0] (by decide) rfl hS10.snocAll
    refine ⟨rfl, p, r, u, v, l, lv, cv, came, wv, want, .slice VA (pics.length + 1) vc, pics ++ [(.slice A1 d.length d1, d)], .slice W8 (pics.length + 1) x8, ?_, HB.out.pic _ HD.out⟩
    unfold w6T
    simp only [List.length_append, List.length_singleton, List.map_append, List.map_cons, List.map_nil]
    exact hS11
end Go.Proofs.Ytonbcipofakpjaa
