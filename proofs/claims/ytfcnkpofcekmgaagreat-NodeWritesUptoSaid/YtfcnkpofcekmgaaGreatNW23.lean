/- Texts joined: packed.own; slices.Clone of cells; bytes.HasPrefix; packed.Page as a piece; New, Open, Len, Kind, Used, Bytes, Find, Cell; packed.Open, Page.Cell; packed.Page's refused, changes; packed.Page.changes; A region that draws its order, whose last operations stand in one order -/
import Derived.Test.YtfcnkpofcekmgaaGreatNW16
import Derived.Test.YtfcnkpofcekmgaaGreatNW22
import Derived.StillTail
import Derived.OrdersHeld
import Derived.Deep.RegionHeld3
-- packed.own; slices.Clone of cells; bytes.HasPrefix: walks.
namespace Go.Proofs.YtfcnkpofcekmgaaGreat
open Go.RowKit
set_option maxRecDepth 100000 in
set_option maxHeartbeats 4000000 in
theorem Kown_sep {w0 w : World} {L : List Ent} (h : Sep w0 w L) (x : CV) (hx : x.ok w) (h1 : x.c.key.length ≤ 140737488355328) (h2 : x.c.val.length ≤ 140737488355328) :
    Calls Tryz.prog 225 #[cellV x] w fun e w' => ∃ y : CV, e = .returned (cellV y) ∧ y.c = x.c ∧ Sep w0 w' (bytesE y.kv y.c.key :: bytesE y.vv y.c.val :: L) := by
  obtain ⟨A, ca, B, cb, key, ck, val, pg, ct, rfl, hk1, hk2⟩ := CV.form hx
  simp only at h1 h2
  have hkr : RdB w (.slice A key.length ca) key := hx.k
  have hvr : RdB w (.slice B val.length cb) val := hx.v
  have hS1 := (((Sep.start w).alloc 43 [.slice A key.length ca, .int .i64 ck, .slice B val.length cb, .int .i64 pg, .int .i64 ct])).alloc 43 [.slice none 0 0, .int .i64 0, .slice none 0 0, .int .i64 0, .int .i64 0]
  have hz1 : (w.alloc (.cells [.slice A key.length ca, .int .i64 ck, .slice B val.length cb, .int .i64 pg, .int .i64 ct].toArray 43)).heap.size = w.heap.size + 1 := World.size_alloc _ _
  rw [hz1] at hS1
  clear hz1
  unfold cellV
  go_enter Tryz.func225, Tryz.ntmps225
  go_upto_region 1 with (fail)
  generalize (w.alloc (.cells #[.slice A key.length ca, .int .i64 ck, .slice B val.length cb, .int .i64 pg, .int .i64 ct] 43)).alloc (.cells #[.slice none 0 0, .int .i64 0, .slice none 0 0, .int .i64 0, .int .i64 0] 43) = w1 at *
  have hkr0 := (hS1.drew).rd (v := w) (by simp) hkr
  have hC : OBlk w1 w.heap.size 43 [.slice A key.length ca, .int .i64 ck, .slice B val.length cb, .int .i64 pg, .int .i64 ct] := hS1.tail.head
  obtain ⟨c0, c1, c2, c3, c4⟩ := cells5 hC
  go_region_law
    (first
      | (go_simp; go_at_call 167; refine (CloneK_any _ key _ hkr0 h1).mono ?_; rintro e w4 ⟨vd, rfl, hod, hw4⟩; obtain ⟨K2, kc2, rfl⟩ := Own.slice hod; have hS4 := hS1.drew.bytes hw4 hod (Nat.le_refl _); have hC4 : OBlk w4 w.heap.size 43 [.slice A key.length ca, .int .i64 ck, .slice B val.length cb, .int .i64 pg, .int .i64 ct] := hS4.tail.tail.head; have d2 := hC4.cell' (j := 2) (u := .slice B val.length cb) rfl; have d0 := hC4.cell' (j := 0) (u := .slice A key.length ca) rfl; have hvr4 := hS4.rd (v := w) (by simp) hvr)
      | (go_simp; go_at_call 167; refine (CloneK_any _ val _ hvr4 h2).mono ?_; rintro e w5 ⟨ve, rfl, hoe, hw5⟩; obtain ⟨V2, vc2, rfl⟩ := Own.slice hoe; have hS5 := hS4.bytes hw5 hoe (Nat.le_refl _); have hC5 : OBlk w5 w.heap.size 43 [.slice A key.length ca, .int .i64 ck, .slice B val.length cb, .int .i64 pg, .int .i64 ct] := hS5.tail.tail.tail.head; have e2 := hC5.cell' (j := 2) (u := .slice B val.length cb) rfl; have e0 := hC5.cell' (j := 0) (u := .slice A key.length ca) rfl; have g2 := hC5.frozen (j := 2) (by simp); have g0 := hC5.frozen (j := 0) (by simp))
      | fail)
  all_goals
    have hS6 : Sep w _ (blkE w.heap.size 43 [.slice K2 key.length kc2, .int .i64 ck, .slice V2 val.length vc2, .int .i64 pg, .int .i64 ct] :: bytesE (.slice V2 val.length vc2) val :: bytesE (.slice K2 key.length kc2) key :: blkE (w.heap.size + 1) 43 [.slice none 0 0, .int .i64 0, .slice none 0 0, .int .i64 0, .int .i64 0] :: [oldE w]) := ((Sep.sw3 hS5).setCell 0 (.slice K2 key.length kc2)).setCell 2 (.slice V2 val.length vc2)
    clear c0 c1 c2 c3 c4 d0 d2 e0 e2 g0 g2 hC hC4 hC5 hS4 hS5 hod hoe hkr0 hvr4
    generalize (w5.setCell ⟨w.heap.size, 0, none⟩ (.slice K2 key.length kc2)).setCell ⟨w.heap.size, 2, none⟩ (.slice V2 val.length vc2) = w6 at *
    obtain ⟨y0, y1, y2, y3, y4⟩ := cells5 (show OBlk w6 w.heap.size 43 [.slice K2 key.length kc2, .int .i64 ck, .slice V2 val.length vc2, .int .i64 pg, .int .i64 ct] from hS6.head)
    have hR6 : OBlk w6 (w.heap.size + 1) 43 [.slice none 0 0, .int .i64 0, .slice none 0 0, .int .i64 0, .int .i64 0] := hS6.tail.tail.tail.head
    obtain ⟨r0, r1, r2, r3, r4⟩ := cells5 hR6
    obtain ⟨f0, f1, f2, f3, f4⟩ := froz5 hR6
    go_wp2_with fail
    have hF := (Sep.sw3 hS6).set5 (.slice K2 key.length kc2) (.int .i64 ck) (.slice V2 val.length vc2) (.int .i64 pg) (.int .i64 ct)
    obtain ⟨e0, e1, e2, e3, e4⟩ := cells5 (show OBlk _ (w.heap.size + 1) 43 [.slice K2 key.length kc2, .int .i64 ck, .slice V2 val.length vc2, .int .i64 pg, .int .i64 ct] from hF.head)
    refine bodyPost_ret (v := .agg #[(.slice K2 key.length kc2), .int .i64 ck, (.slice V2 val.length vc2), .int .i64 pg, .int .i64 ct]) ?_ rfl ?_
    · simp [results, Tryz.results225, go_sem, e0, e1, e2, e3, e4]
    · exact ⟨⟨(.slice K2 key.length kc2), (.slice V2 val.length vc2), ⟨key, ck, val, pg, ct⟩⟩, rfl, rfl, Sep.lift2 (hF.tail.tail.sw1) (List.mem_singleton.2 rfl) h⟩
set_option maxRecDepth 20000 in
set_option maxHeartbeats 1000000 in
theorem HasPrefix_any (u v : Value) (a b : List UInt8) (w : World) (hu : RdB w u a) (hv : RdB w v b) :
    Calls Tryz.prog 230 #[u, v] w fun e w' => e = .returned (.bool (hasPre a b)) ∧ w' = w := by
  obtain ⟨A, c, rfl, hm⟩ := hu.form
  obtain ⟨B, d, rfl, hm2⟩ := hv.form
  by_cases hle : b.length ≤ a.length
  · obtain ⟨A2, c2, hrun, hrd⟩ := hu.run_h b.length hle
    have heq := Equal_q _ _ _ _ w hrd hv
    have hE : hasPre a b = (a.take b.length == b) := by unfold hasPre; rw [decide_eq_true hle]; rfl
    rw [hE]
    generalize (a.take b.length == b) = E at *
    have i1 : (b.length : Int) ≤ (a.length : Int) := by omega
    clear hE hrd
    go_enter Tryz.func230, Tryz.ntmps230
    go_wp2_with (first | (go_at_call 134; (with_reducible refine heq.mono ?_); rintro e w1 ⟨rfl, rfl⟩) | fail)
    go_ret
    exact ⟨rfl, rfl⟩
  · have hE : hasPre a b = false := by unfold hasPre; rw [decide_eq_false hle]; rfl
    rw [hE]
    have i1 : ¬ (b.length : Int) ≤ (a.length : Int) := by omega
    clear hE
    go_enter Tryz.func230, Tryz.ntmps230
    go_wp2_with fail
    go_ret
    exact ⟨rfl, rfl⟩
set_option maxRecDepth 20000 in
set_option maxHeartbeats 1000000 in
/-- A copy of a row of cells: their bytes stay shared. -/
theorem CloneC_sep {w0 w : World} {L : List Ent} (h : Sep w0 w L) (v : Value) (l : List CV) (hv : RdCs w v l) (hl : l.length ≤ 1000000) :
    Calls Tryz.prog 229 #[v] w fun e w' => ∃ v', e = .returned v' ∧ Sep w0 w' (ownE 43 5 v' l.length (flatC l) :: L) := by
  obtain ⟨A, c, rfl, hm, hc⟩ := hv.slice
  have q22 : ∀ (w : World) (a : Option Addr) (n c n' c' : Nat), (binOp .eql 32 (.slice a n c) (.slice none n' c')).run Tryz.prog w = .ok (.bool a.isNone) w := fun w a n c n' c' => Lib.run_eql_slice_nil w _ _ a n c n' c' Tryz.underlying32
  cases A with
  | none =>
    have : l = [] := by
      cases l with
      | nil => rfl
      | cons x r => obtain ⟨ad, h, _⟩ := hv.at_ (i := 0) (by simp); cases h
    subst this
    go_enter Tryz.func229, Tryz.ntmps229
    go_wp2_with fail
    go_ret
    exact ⟨_, rfl, h.nilC⟩
  | some ad =>
    obtain ⟨i0, hi, hz0, hz1, hz2⟩ := info_parts cell_info
    have hone := flatC_one hv.ok
    have hsrc := hv.form
    have hbase : Own (w.alloc (.cells #[] 43)) w.heap.size 43 5 (.slice (some ⟨w.heap.size, 0, none⟩) 0 0) 0 [] := by
      refine ⟨rfl, .inr ⟨w.heap.size, 0, [], rfl, Nat.le_refl _, OBlk.new' w 43 [], ?_⟩⟩
      simp
    go_enter Tryz.func229, Tryz.ntmps229
    go_wp2_with (first
      | (at_builtin; refine wp_append_C rfl (.tmp 5) (.tmp 6) rfl w.heap.size (.slice (some ⟨w.heap.size, 0, none⟩) 0 0) [] rfl hbase _ l rfl (hsrc.alloc _) hone (by simp; omega) (by simp) ?_; intro v' w' ho hg hbk)
      | fail)
    go_ret
    rw [List.nil_append] at ho
    refine ⟨v', rfl, h.new (((Below.refl w.heap.size w).alloc (Nat.le_refl _) _).grown hg (by simp) (fun k hk => Nat.le_of_eq (Option.some.inj hk))) (E := ownE _ _ _ _ _) (Own.low ho (Nat.zero_le _)) (fun g hg => Own.lt ho g hg)⟩
end Go.Proofs.YtfcnkpofcekmgaaGreat

-- packed.Page as a piece; New, Open, Len, Kind, Used, Bytes, Find, Cell: walks.
namespace Go.Proofs.YtfcnkpofcekmgaaGreat
open Go.RowKit
/-- A packed page that is worked on. -/
def pkE (p : Nat) (kind : Int) (P : Nat) (u pv : Value) (used waste : Nat) (l : List CV) (pre : List UInt8) : Ent := allE [pkB p kind P u pv used waste, csE u l, bytesE pv pre]
def PgK (w0 w : World) (L : List Ent) (p P : Nat) (kind : Int) (s : KP) : Prop :=
  ∃ u pv l, pcs l = s.l ∧ RngC l ∧ Sep w0 w (pkE p kind P u pv (usedP kind s) s.waste l s.pre :: L)
section
variable {w0 w w' : World} {L : List Ent} {p P used waste : Nat} {kind : Int} {u pv : Value} {l : List CV} {pre : List UInt8} {s : KP}
theorem Sep.pkOpen (h : Sep w0 w (pkE p kind P u pv used waste l pre :: L)) : Sep w0 w (pkB p kind P u pv used waste :: ownE 43 5 u l.length (flatC l) :: bytesE pv pre :: (cellsE l ++ L)) := by
  have h1 : Sep w0 w (pkB p kind P u pv used waste :: csE u l :: bytesE pv pre :: L) := h.unpack
  have h2 : Sep w0 w (ownE 43 5 u l.length (flatC l) :: (cellsE l ++ (pkB p kind P u pv used waste :: bytesE pv pre :: L))) := Sep.unpack (D := ownE 43 5 u l.length (flatC l) :: cellsE l) h1.sw1
  refine h2.perm ?_
  exact (List.Perm.cons _ (List.perm_append_comm_assoc (cellsE l) [pkB p kind P u pv used waste, bytesE pv pre] L)).trans (List.Perm.swap _ _ _)
theorem Sep.pkShut (h : Sep w0 w (pkB p kind P u pv used waste :: csE u l :: bytesE pv pre :: L)) : Sep w0 w (pkE p kind P u pv used waste l pre :: L) := Sep.pack (D := [_, _, _]) h
theorem Sep.pkClose (h : Sep w0 w (pkB p kind P u pv used waste :: ownE 43 5 u l.length (flatC l) :: bytesE pv pre :: (cellsE l ++ L))) : Sep w0 w (pkE p kind P u pv used waste l pre :: L) := by
  refine Sep.pkShut ((Sep.pack (D := ownE 43 5 u l.length (flatC l) :: cellsE l) (L := pkB p kind P u pv used waste :: bytesE pv pre :: L) (h.perm ?_)).sw1)
  exact (List.Perm.swap _ _ _).trans (List.Perm.cons _ (List.perm_append_comm_assoc (cellsE l) [pkB p kind P u pv used waste, bytesE pv pre] L).symm)
/-- The page, as it is read. -/
theorem Sep.kAt (h : Sep w0 w (pkE p kind P u pv used waste l pre :: L)) (hr : RngC l) : KAt w p kind P u pv used waste l :=
  ⟨h.pkOpen.head, h.pkOpen.openRd (by simp) (fun E hE => by simp [hE]) hr⟩
theorem PgK.below (h : PgK w0 w L p P kind s) (hb : Below w.heap.size w w') : PgK w0 w' L p P kind s := by
  obtain ⟨u, pv, l, h1, h2, h3⟩ := h
  exact ⟨u, pv, l, h1, h2, h3.below hb⟩
set_option maxRecDepth 20000 in
theorem KLen_any (h : KAt w p kind P u pv used waste l) : Calls Tryz.prog 221 #[.pointer (some ⟨p, 0, none⟩)] w fun e w' => e = .returned (.int .i64 (l.length : Int)) ∧ w = w' := by
  obtain ⟨A, c, rfl, hm, hc⟩ := h.rd.slice
  obtain ⟨b0, b1, b2, b3, b4, b5⟩ := cells6 h.blk
  go_enter Tryz.func221, Tryz.ntmps221
  go_wp2_with fail
  go_ret
  exact ⟨rfl, rfl⟩
set_option maxRecDepth 20000 in
set_option maxHeartbeats 1000000 in
theorem KNew_ok (kind : Int) (P : Nat) (hk : isKindB kind = true) (hp : isPowB (P : Int) = true) (h : Sep w0 w L) : Calls Tryz.prog 78 #[.int .i64 kind, .int .i64 (P : Int)] w fun e w' =>
    ∃ p, e = .returned (.tuple #[.pointer (some ⟨p, 0, none⟩), .int .i64 0]) ∧ PgK w0 w' L p P kind ⟨[], [], 0⟩ := by
  have hr := isPowB_range hp
  have hKi := fun W => KisKind_any kind W
  have hPa := fun W => KisSize_any (P : Int) (by omega) W
  rw [hk] at hKi
  rw [hp] at hPa
  clear hk hp
  have hS := h.alloc 150 [.int .i64 kind, .int .i64 (P : Int), .slice none 0 0, .slice none 0 0, .int .i64 10, .int .i64 0]
  have hS2 := (hS.nil.nilC).sw2
  have hu : usedP kind ⟨[], [], 0⟩ = 10 := by unfold usedP takenF; rfl
  have HU := Lib.hid hu
  clear hu h hS
  go_enter Tryz.func78, Tryz.ntmps78
  go_wp2_with (first | (go_at_call 135; refine (hKi _).mono ?_; rintro e w1 ⟨rfl, rfl⟩) | (go_at_call 136; refine (hPa _).mono ?_; rintro e w1 ⟨rfl, rfl⟩) | fail)
  go_ret2
  refine ⟨_, rfl, .slice none 0 0, .slice none 0 0, [], rfl, by simp [RngC], ?_⟩
  rw [HU.out]
  exact Sep.pkClose (l := []) hS2
end
end Go.Proofs.YtfcnkpofcekmgaaGreat

-- packed.Open, Page.Cell: walks.
namespace Go.Proofs.YtfcnkpofcekmgaaGreat
open Go.RowKit
theorem KInv.ok {kind : Int} {P : Nat} {s : KP} (h : KInv kind P s) : ∀ c ∈ s.l, OkC P c := fun c hc => may_ok (h.may c hc)
end Go.Proofs.YtfcnkpofcekmgaaGreat

-- packed.Page's refused, changes: walks.
namespace Go.Proofs.YtfcnkpofcekmgaaGreat
open Go.RowKit
set_option maxRecDepth 100000 in
set_option maxHeartbeats 2000000 in
theorem Krefused_any {w : World} {p : Nat} {kind : Int} {P : Nat} {u pv : Value} {used waste : Nat} {l : List CV} (h : KAt w p kind P u pv used waste l) (hkd : kind = 2 ∨ kind = 3) (hP : P ≤ 65536) (x : CV) (hx : x.ok w) (i j : Nat) (bf bh : Int) (hbf : bf = (i : Int) - 1) (hbh : bh = (j : Int)) (hi : i ≤ l.length) (hj : j ≤ l.length) :
    Calls Tryz.prog 227 #[.pointer (some ⟨p, 0, none⟩), cellV x, .int .i64 bf, .int .i64 bh] w fun e w' =>
      e = .returned (.int .i64 (if mayP kind P x.c = false then 62 else if 0 ≤ leftO (pcs l) i x.c ∨ 0 ≤ rightO (pcs l) j x.c then 63 else 0)) ∧ Below w.heap.size w w' := by
  subst hbh
  obtain ⟨A, ca, B, cb, key, ck, val, pg, ct, rfl, hk1, hk2⟩ := CV.form hx
  obtain ⟨L, lc, rfl, hm, hc⟩ := h.rd.slice
  have hA : Below w.heap.size w (w.alloc (.cells #[.slice A key.length ca, .int .i64 ck, .slice B val.length cb, .int .i64 pg, .int .i64 ct] 43)) := (Below.refl _ _).alloc (Nat.le_refl _) _
  have hC := OBlk.new' w 43 [.slice A key.length ca, .int .i64 ck, .slice B val.length cb, .int .i64 pg, .int .i64 ct]
  have hB := h.blk.alloc (.cells #[.slice A key.length ca, .int .i64 ck, .slice B val.length cb, .int .i64 pg, .int .i64 ct] 43)
  have hx1 := hx.below hA
  have hL := h.rd.below hA
  have hma := fun W => Kmay_any ⟨.slice A key.length ca, .slice B val.length cb, ⟨key, ck, val, pg, ct⟩⟩ kind hkd P hP W
  unfold cellV at hma ⊢
  have HM := Lib.hid hma
  obtain ⟨lO, hlO⟩ : ∃ q, leftO (pcs l) i ⟨key, ck, val, pg, ct⟩ = q := ⟨_, rfl⟩
  obtain ⟨rO, hrO⟩ : ∃ q, rightO (pcs l) j ⟨key, ck, val, pg, ct⟩ = q := ⟨_, rfl⟩
  obtain ⟨mB, hmB⟩ : ∃ q, mayP kind P ⟨key, ck, val, pg, ct⟩ = q := ⟨_, rfl⟩
  show Calls Tryz.prog _ _ w fun e w' => e = .returned (.int .i64 (if mayP kind P ⟨key, ck, val, pg, ct⟩ = false then 62 else if 0 ≤ leftO (pcs l) i ⟨key, ck, val, pg, ct⟩ ∨ 0 ≤ rightO (pcs l) j ⟨key, ck, val, pg, ct⟩ then 63 else 0)) ∧ Below w.heap.size w w'
  rw [hlO, hrO, hmB]
  have HLO : Hid ((bf = -1 ∧ lO = -1) ∨ ∃ k : Nat, bf = (k : Int) ∧ ∃ h : k < l.length, lO = ordC l[k].c.key key) := Lib.hid (by
    rcases Nat.eq_zero_or_pos i with e | e
    · exact .inl ⟨by omega, by rw [← hlO, e, leftO_zero]⟩
    · obtain ⟨k, rfl⟩ : ∃ k, i = k + 1 := ⟨i - 1, by omega⟩
      refine .inr ⟨k, by omega, by omega, ?_⟩
      rw [← hlO, leftO_succ _ (by rw [pcs_length]; omega), pcs_at (by omega)])
  have HRO : Hid ((j = l.length ∧ rO = -1) ∨ ∃ h : j < l.length, rO = ordC key l[j].c.key) := Lib.hid (by
    by_cases e : j < l.length
    · refine .inr ⟨e, ?_⟩
      rw [← hrO, rightO_in _ (by rw [pcs_length]; omega), pcs_at e]
    · exact .inl ⟨by omega, by rw [← hrO, rightO_end _ (by rw [pcs_length]; omega)]⟩)
  have HXK := Lib.hid hx1.k
  clear hma h hx hlO hrO hbf
  have hpl := hB.lt
  obtain ⟨Z, hZ⟩ : ∃ Z : Int, (if mB = false then 62 else if 0 ≤ lO ∨ 0 ≤ rO then 63 else 0) = Z := ⟨_, rfl⟩
  rw [hZ]
  have HZ := Lib.hid hZ
  clear hZ
  go_enter Tryz.func227, Tryz.ntmps227
  go_upto_region 1 with (fail)
  generalize (w.alloc (.cells #[.slice A key.length ca, .int .i64 ck, .slice B val.length cb, .int .i64 pg, .int .i64 ct] 43)) = w1 at *
  obtain ⟨c0, c1, c2, c3, c4⟩ := cells5 hC
  obtain ⟨b0, b1, b2, b3, b4, b5⟩ := cells6 hB
  have hcl := hC.lt
  go_cut [9] (fun s wx => s = .bool (!mB) ∧ Below w1.heap.size w1 wx)
  case first =>
    go_region_held3 (fun w' => w'.cell? ⟨w.heap.size, 0, none⟩ = some (.slice A key.length ca) ∧ w'.cell? ⟨w.heap.size, 1, none⟩ = some (.int .i64 ck) ∧ w'.cell? ⟨w.heap.size, 2, none⟩ = some (.slice B val.length cb) ∧ w'.cell? ⟨w.heap.size, 3, none⟩ = some (.int .i64 pg) ∧ w'.cell? ⟨w.heap.size, 4, none⟩ = some (.int .i64 ct) ∧ w'.cell? ⟨p, 0, none⟩ = some (.int .i64 kind) ∧ w'.cell? ⟨p, 1, none⟩ = some (.int .i64 (P : Int)))
      (first
        | exact ⟨c0, c1, c2, c3, c4, b0, b1⟩
        | (obtain ⟨d0, d1, d2, d3, d4⟩ := cells5 (hC.drew.below hw2 hcl); obtain ⟨f0, f1, _, _, _, _⟩ := cells6 (hB.drew.below hw2 hpl); exact ⟨d0, d1, d2, d3, d4, f0, f1⟩))
      (first
        | (go_at_call 140; refine (HM.out _ (hx1.below ((Below.refl _ _).drew))).mono ?_; rw [hmB]; rintro e w2 ⟨rfl, hw2⟩)
        | fail)
    go_wp2_with fail
    go_meet
    exact ⟨rfl, (Below.refl _ _).drew.trans hw2⟩
  case rest =>
    obtain ⟨rfl, hw2⟩ := hcut
    have hB2 := hB.below hw2 hpl
    have hA2 := hA.trans (hw2.mono hA.size)
    cases mB with
    | false =>
      have e : Z = 62 := by rw [← HZ.out]; rfl
      subst e
      go_wp2_with fail
      go_ret
      exact ⟨rfl, hA2⟩
    | true =>
      have hC2 := hC.below hw2 hcl
      have hL2 := hL.below hw2
      have hxk2 := HXK.out.below hw2 (Nat.le_refl _)
      clear c0 c1 c2 c3 c4 b0 b1 b2 b3 b4 b5 hC hB hx1 hL hA hw2
      obtain ⟨c0, c1, c2, c3, c4⟩ := cells5 hC2
      obtain ⟨b0, b1, b2, b3, b4, b5⟩ := cells6 hB2
      have hcl2 := hC2.lt
      have hpl2 := hB2.lt
      go_upto_region 3 with (fail)
      go_cut [21] (fun s wx => s = .bool (decide (0 ≤ lO)) ∧ Below wc.heap.size wc wx)
      case first =>
        rcases HLO.out with ⟨rfl, rfl⟩ | ⟨k, rfl, hk, rfl⟩
        · go_region
          go_wp2_with fail
          go_meet
          exact ⟨rfl, (Below.refl _ _).drew⟩
        · obtain ⟨ad, K, kc, rfl, q0, hkr⟩ := hL2.key_at' hk
          have j1 : (0 : Int) ≤ (k : Int) := by omega
          have j2 : (k : Int) < (l.length : Int) := by omega
          have hcmp := fun m => Compare_any _ _ _ _ (wc.drewN m) (show RdB (wc.drewN m) _ _ from hkr) (show RdB (wc.drewN m) _ _ from hxk2)
          simp only at hcmp
          have HCM := Lib.hid hcmp
          clear hcmp
          generalize ordC l[k].c.key key = oc at *
          generalize l[k].c.key = lk at *
          go_region_held3 (fun w' => w'.cell? (ad.add (k * 5)) = some (.slice K lk.length kc) ∧ w'.cell? ⟨w.heap.size, 0, none⟩ = some (.slice A key.length ca) ∧ w'.cell? ⟨p, 2, none⟩ = some (.slice (some ad) l.length lc))
            (first | exact ⟨q0, c0, b2⟩)
            (first
              | (go_at_call 130; refine (HCM.out 1).mono ?_; rintro e w7 ⟨rfl, rfl⟩)
              | fail)
          go_wp2_with fail
          go_meet
          exact ⟨rfl, (Below.refl _ _).drew⟩
      case rest =>
        obtain ⟨rfl, hw3⟩ := hcut
        have hC3 := hC2.below hw3 hcl2
        have hB3 := hB2.below hw3 hpl2
        have hA3 := hA2.trans (hw3.mono hA2.size)
        by_cases hlO : 0 ≤ lO
        · rw [show decide (0 ≤ lO) = true from decide_eq_true hlO]
          have e : Z = 63 := by rw [← HZ.out, if_neg (by simp), if_pos (Or.inl hlO)]
          subst e
          clear hlO
          go_wp2_with fail
          go_ret
          exact ⟨rfl, hA3⟩
        · have hL3 := hL2.below hw3
          have hxk3 := hxk2.below hw3 (Nat.le_refl _)
          rw [show decide (0 ≤ lO) = false from decide_eq_false hlO]
          have H1 := Lib.hid hlO
          clear c0 c1 c2 c3 c4 b0 b1 b2 b3 b4 b5 hC2 hB2 hL2 hA2 hw3 hlO HLO hxk2
          obtain ⟨c0, c1, c2, c3, c4⟩ := cells5 hC3
          obtain ⟨b0, b1, b2, b3, b4, b5⟩ := cells6 hB3
          have hcl3 := hC3.lt
          have hpl3 := hB3.lt
          go_upto_region 5 with (fail)
          go_cut [38] (fun s wx => s = .bool (decide (0 ≤ rO)) ∧ Below wc.heap.size wc wx)
          case first =>
            rcases HRO.out with ⟨rfl, rfl⟩ | ⟨hj2, rfl⟩
            · have j5 : ¬ (l.length : Int) < (l.length : Int) := by omega
              go_region
              go_wp2_with fail
              go_meet
              exact ⟨rfl, (Below.refl _ _).drew⟩
            · obtain ⟨ad, K, kc, rfl, q0, hkr⟩ := hL3.key_at' hj2
              have j1 : (0 : Int) ≤ (j : Int) := by omega
              have j2 : (j : Int) < (l.length : Int) := by omega
              have hcmp := fun m => Compare_any _ _ _ _ (wc.drewN m) (show RdB (wc.drewN m) _ _ from hxk3) (show RdB (wc.drewN m) _ _ from hkr)
              simp only at hcmp
              have HCM := Lib.hid hcmp
              clear hcmp
              generalize ordC key l[j].c.key = oc at *
              generalize l[j].c.key = lk at *
              go_region_held3 (fun w' => w'.cell? (ad.add (j * 5)) = some (.slice K lk.length kc) ∧ w'.cell? ⟨w.heap.size, 0, none⟩ = some (.slice A key.length ca) ∧ w'.cell? ⟨p, 2, none⟩ = some (.slice (some ad) l.length lc))
                (first | exact ⟨q0, c0, b2⟩)
                (first
                  | (go_at_call 130; refine (HCM.out 1).mono ?_; rintro e w7 ⟨rfl, rfl⟩)
                  | fail)
              go_wp2_with fail
              go_meet
              exact ⟨rfl, (Below.refl _ _).drew⟩
          case rest =>
            obtain ⟨rfl, hw4⟩ := hcut
            have hA4 := hA3.trans (hw4.mono hA3.size)
            by_cases hrO : 0 ≤ rO
            · rw [show decide (0 ≤ rO) = true from decide_eq_true hrO]
              have e : Z = 63 := by rw [← HZ.out, if_neg (by simp), if_pos (Or.inr hrO)]
              subst e
              clear hrO
              go_wp2_with fail
              go_ret
              exact ⟨rfl, hA4⟩
            · rw [show decide (0 ≤ rO) = false from decide_eq_false hrO]
              have e : Z = 0 := by rw [← HZ.out, if_neg (by simp), if_neg (fun e => by have h1 := H1.out; omega)]
              subst e
              clear hrO
              go_wp2_with fail
              go_ret
              exact ⟨rfl, hA4⟩
end Go.Proofs.YtfcnkpofcekmgaaGreat

-- packed.Page.changes: the walk.
namespace Go.Proofs.YtfcnkpofcekmgaaGreat
open Go.RowKit
/-- What changes leaves. -/
def ChAt (w0 : World) (M : List Ent) (p P : Nat) (kind : Int) (u pv u' : Value) (used waste : Nat) (pre : List UInt8) (l' : List PC) (waste' : Nat) (anew : Bool) (e : Ending) (w' : World) : Prop :=
  (P < psizeF kind l' ∧ e = .returned (.int .i64 61) ∧ Sep w0 w' (pkB p kind P u pv used waste :: bytesE pv pre :: M)) ∨
  (psizeF kind l' ≤ P ∧ e = .returned (.int .i64 0) ∧ ∃ pv', Sep w0 w' (pkB p kind P u' pv' (usedP kind (changeS kind P pre l' waste' anew)) (changeS kind P pre l' waste' anew).waste :: bytesE pv' (changeS kind P pre l' waste' anew).pre :: M))
set_option maxRecDepth 100000 in
set_option maxHeartbeats 4000000 in
theorem Kchanges_sep {w0 w : World} {M : List Ent} {p P : Nat} {kind : Int} {u pv u' : Value} {used waste : Nat} {pre : List UInt8} {l' : List CV} (hS : Sep w0 w (pkB p kind P u pv used waste :: bytesE pv pre :: M)) (hM : CsIn M u' l') (hf : bigK (pcs l') ≤ 140737488355328)
    (old : Nat) (ho : waste + old ≤ 1000000) (hpre : pre.length ≤ 1000000) (_hP : P ≤ 65536) (anew : Bool) (hp : anew = false → PreOk kind (pcs l') pre) :
    Calls Tryz.prog 228 #[.pointer (some ⟨p, 0, none⟩), u', .int .i64 (old : Int), .bool anew] w (ChAt w0 M p P kind u pv u' used waste pre (pcs l') (waste + old) anew) := by
  have hrd := hM.at_ hS (fun E hE => by simp [hE])
  obtain ⟨U, uc, rfl, hm, hc⟩ := hrd.slice
  have hpk : ∀ (i : Nat) (hi : i < (pcs l').length), ¬ (kind = 3 ∧ i = 0) → sharedF kind (pcs l') ≤ (pcs l')[i].key.length := fun i hi hn => (key_split (kind := kind) hi hn).1
  have hsb : sharedF kind (pcs l') ≤ 140737488355328 := by
    rcases Nat.eq_zero_or_pos (sharedF kind (pcs l')) with h | h
    · omega
    · obtain ⟨i, hi, hn⟩ := sharedF_pos h
      have h1 := hpk i hi hn
      have h2 := bigK_mem (List.getElem_mem hi)
      omega
  have hsh := Kshared_any kind (.slice U l'.length uc) l' w hrd
  have htk : ∀ W, RdCs W (.slice U l'.length uc) l' → Calls Tryz.prog 138 #[.int .i64 kind, .slice U l'.length uc, .int .i64 (sharedF kind (pcs l') : Nat)] W fun e w' => e = .returned (.int .i64 (psizeF kind (pcs l') : Nat)) ∧ Below W.heap.size W w' := fun W hW => Ktaken_any kind _ l' (sharedF kind (pcs l')) W hW (by omega) (by omega) hpk
  have htk2 : anew = false → ∀ W, RdCs W (.slice U l'.length uc) l' → Calls Tryz.prog 138 #[.int .i64 kind, .slice U l'.length uc, .int .i64 (pre.length : Int)] W fun e w' => e = .returned (.int .i64 (takenF kind (pcs l') pre.length : Nat)) ∧ Below W.heap.size W w' := fun ha W hW => Ktaken_any kind _ l' pre.length W hW (by omega) (by omega) (fun i hi hn => (hasPre_iff.1 (hp ha i hi hn)).1)
  have htb : takenF kind (pcs l') pre.length ≤ 10 + pre.length + bigK (pcs l') := by
    have := taken_big kind pre.length (pcs l') (pcs l').length (by omega)
    rw [List.take_length] at this; exact this
  have hTidy := fun W (pv2 : Value) (M2 : List Ent) us ws (h : Sep w0 W (pkB p kind P (.slice U l'.length uc) pv2 us ws :: M2)) (h2 : CsIn M2 (.slice U l'.length uc) l') => KTidy_sep h h2 hf
  have HST : Hid (anew = true ∨ P < takenF kind (pcs l') pre.length + (waste + old) → changeS kind P pre (pcs l') (waste + old) anew = tidyP kind (pcs l')) := Lib.hid (fun h => by
    unfold changeS
    rw [if_pos]
    rw [Bool.or_eq_true, decide_eq_true_iff]; exact h)
  have HSN : Hid (anew = false → ¬ P < takenF kind (pcs l') pre.length + (waste + old) → changeS kind P pre (pcs l') (waste + old) anew = ⟨pcs l', pre, waste + old⟩) := Lib.hid (fun h h2 => by
    unfold changeS
    rw [if_neg]
    rw [Bool.or_eq_true, decide_eq_true_iff, not_or]; exact ⟨by rw [h]; simp, h2⟩)
  have HUT : Hid (usedP kind (tidyP kind (pcs l')) = psizeF kind (pcs l')) := Lib.hid (usedP_tidy kind (pcs l'))
  have HUN : Hid (usedP kind ⟨pcs l', pre, waste + old⟩ = takenF kind (pcs l') pre.length) := Lib.hid rfl
  have hpw := (show OwB w 0 pv pre from hS.tail.head)
  obtain ⟨PV, pvc, rfl⟩ := Own.slice hpw
  unfold ChAt
  generalize changeS kind P pre (pcs l') (waste + old) anew = CS at *
  generalize sharedF kind (pcs l') = s at *
  generalize psizeF kind (pcs l') = z at *
  generalize takenF kind (pcs l') pre.length = tk at *
  have HTK := Lib.hid htk
  have HTK2 := Lib.hid htk2
  have HTD := Lib.hid hTidy
  have hbp : OBlk w p 150 [.int .i64 kind, .int .i64 (P : Int), u, .slice PV pre.length pvc, .int .i64 (used : Int), .int .i64 (waste : Int)] := hS.head
  obtain ⟨b0, b1, b2, b3, b4, b5⟩ := cells6 hbp
  have hbb := hf
  clear htk htk2 hTidy hpk hpw hp hf hrd
  go_enter Tryz.func228, Tryz.ntmps228
  go_upto_region 2 with (first
    | (go_at_call 139; (with_reducible refine hsh.mono ?_); rintro e w2 ⟨rfl, hw2⟩)
    | fail)
  have hS2 := hS.below hw2
  clear hsh hS hw2 hbp b0 b1 b2 b3 b4 b5
  have hbp : OBlk w2 p 150 [.int .i64 kind, .int .i64 (P : Int), u, .slice PV pre.length pvc, .int .i64 (used : Int), .int .i64 (waste : Int)] := hS2.head
  obtain ⟨b0, b1, b2, b3, b4, b5⟩ := cells6 hbp
  have htk := HTK.out w2.drew (hM.at_ hS2.drew (fun E hE => by simp [hE]))
  have hpz := hbp.lt
  go_cut [27] (fun c wx => c = .bool (decide (P < z)) ∧ Below w2.heap.size w2 wx)
  case first =>
    go_region_held3 (fun w' => w'.cell? ⟨p, 0, none⟩ = some (.int .i64 kind) ∧ w'.cell? ⟨p, 1, none⟩ = some (.int .i64 (P : Int)))
      (first | exact ⟨b0, b1⟩ | (have hx := cells6 (hbp.drew.below hw3 hpz); exact ⟨hx.1, hx.2.1⟩))
      (first
        | (go_at_call 138; refine htk.mono ?_; rintro e w3 ⟨rfl, hw3⟩)
        | fail)
    go_wp2_with fail
    go_meet
    exact ⟨rfl, (Below.refl _ _).drew.trans hw3⟩
  case rest =>
    obtain ⟨rfl, hw3⟩ := hcut
    have hS3 := hS2.below hw3
    clear htk hS2 hbp b0 b1 b2 b3 b4 b5 hw3 hpz
    by_cases hz : P < z
    · rw [show decide (P < z) = true from decide_eq_true hz]
      go_wp2_with fail
      go_ret
      exact .inl ⟨hz, rfl, hS3⟩
    · rw [show decide (P < z) = false from decide_eq_false hz]
      have HZ : Hid (z ≤ P) := Lib.hid (by omega)
      clear hz
      have hbp : OBlk wc p 150 [.int .i64 kind, .int .i64 (P : Int), u, .slice PV pre.length pvc, .int .i64 (used : Int), .int .i64 (waste : Int)] := hS3.head
      obtain ⟨b0, b1, b2, b3, b4, b5⟩ := cells6 hbp
      have f2 := hbp.frozen (j := 2) (by simp)
      have f5 := hbp.frozen (j := 5) (by simp)
      have e1 : IntKind.i64.wrap ((waste : Int) + (old : Int)) = (waste : Int) + (old : Int) := by rw [IntKind.wrap_i64]; omega
      go_upto_if 41 with (fail)
      have hS4 := (hS3.setCell 2 (.slice U l'.length uc)).setCell 5 (.int .i64 ((waste : Int) + (old : Int)))
      have hS4 : Sep w0 ((wc.setCell ⟨p, 2, none⟩ (.slice U l'.length uc)).setCell ⟨p, 5, none⟩ (.int .i64 ((waste : Int) + (old : Int)))) (pkB p kind P (.slice U l'.length uc) (.slice PV pre.length pvc) used (waste + old) :: bytesE (.slice PV pre.length pvc) pre :: M) := by
        unfold pkB
        rw [Int.natCast_add]
        exact hS4
      clear hS3 hbp b0 b1 b2 b3 b4 b5 f2 f5
      generalize (wc.setCell ⟨p, 2, none⟩ (.slice U l'.length uc)).setCell ⟨p, 5, none⟩ (.int .i64 ((waste : Int) + (old : Int))) = w4 at *
      cases anew with
      | true =>
        have hT := HTD.out w4 _ _ _ _ hS4 (fun W hW => hM W (fun E hE => hW E (by simp [hE])))
        have HCS : Hid (CS = tidyP kind (pcs l')) := Lib.hid (HST.out (.inl rfl))
        clear hS4
        go_wp2_with (first
          | (go_at_call 137; (with_reducible refine hT.mono ?_); rintro e w5 ⟨⟨x, rfl⟩, pv', hS5⟩)
          | fail)
        go_ret
        refine .inr ⟨HZ.out, rfl, pv', ?_⟩
        rw [HCS.out, HUT.out]
        exact (Sep.sub hS5 (((List.sublist_cons_self _ _).cons_cons _).cons_cons _))
      | false =>
        have hbp : OBlk w4 p 150 [.int .i64 kind, .int .i64 (P : Int), .slice U l'.length uc, .slice PV pre.length pvc, .int .i64 (used : Int), .int .i64 ((waste + old : Nat) : Int)] := hS4.head
        obtain ⟨b0, b1, b2, b3, b4, b5⟩ := cells6 hbp
        have hpz := hbp.lt
        have htk := HTK2.out rfl w4.drew (hM.at_ hS4.drew (fun E hE => by simp [hE]))
        go_upto_region 7 with (fail)
        go_cut [] (fun wx => Sep w0 wx (pkB p kind P (.slice U l'.length uc) (.slice PV pre.length pvc) tk (waste + old) :: bytesE (.slice PV pre.length pvc) pre :: M))
        case first =>
          go_region_law
            (first
              | (go_simp; go_at_call 138; refine htk.mono ?_; rintro e w5 ⟨rfl, hw5⟩; have hB5 := hbp.drew.below hw5 hpz; obtain ⟨d0, d1, d2, d3, d4, d5⟩ := cells6 hB5; have g4 := hB5.frozen (j := 4) (by simp); have hS5 := hS4.drew.below hw5)
              | fail)
          all_goals
            go_wp2_with fail
            go_meet
            exact hS5.setCell 4 (.int .i64 (tk : Int))
        case rest =>
          have hS6 := hcut
          clear hS4 hbp b0 b1 b2 b3 b4 b5 htk hpz hcut
          have hbp : OBlk wc p 150 [.int .i64 kind, .int .i64 (P : Int), .slice U l'.length uc, .slice PV pre.length pvc, .int .i64 (tk : Int), .int .i64 ((waste + old : Nat) : Int)] := hS6.head
          obtain ⟨b0, b1, b2, b3, b4, b5⟩ := cells6 hbp
          have e2 : IntKind.i64.wrap ((tk : Int) + ((waste : Int) + (old : Int))) = (tk : Int) + ((waste : Int) + (old : Int)) := by rw [IntKind.wrap_i64]; omega
          rw [Int.natCast_add] at b5
          by_cases hful : P < tk + (waste + old)
          · have i1 : (P : Int) < (tk : Int) + ((waste : Int) + (old : Int)) := by omega
            have HCS : Hid (CS = tidyP kind (pcs l')) := Lib.hid (HST.out (.inr hful))
            clear hful
            go_upto_region 8 with (fail)
            go_quiet (fail)
            have hT := HTD.out _ _ _ _ _ (hS6.drewN nq) (fun W hW => hM W (fun E hE => hW E (by simp [hE])))
            go_wp2_with (first
              | (go_at_call 137; refine hT.mono ?_; rintro e w5 ⟨⟨x, rfl⟩, pv', hS5⟩)
              | fail)
            go_ret
            refine .inr ⟨HZ.out, rfl, pv', ?_⟩
            rw [HCS.out, HUT.out]
            exact (Sep.sub hS5 (((List.sublist_cons_self _ _).cons_cons _).cons_cons _))
          · have i1 : ¬ (P : Int) < (tk : Int) + ((waste : Int) + (old : Int)) := by omega
            have HCS : Hid (CS = ⟨pcs l', pre, waste + old⟩) := Lib.hid (HSN.out rfl hful)
            clear hful
            go_upto_region 8 with (fail)
            go_quiet (fail)
            have hS7 := hS6.drewN nq
            go_wp2_with fail
            go_ret
            refine .inr ⟨HZ.out, rfl, .slice PV pre.length pvc, ?_⟩
            rw [HCS.out, HUN.out]
            exact hS7
end Go.Proofs.YtfcnkpofcekmgaaGreat

-- A region that draws its order, whose last operations stand in one order: its head is walked under a condition on the world.
namespace Go.Proofs.YtfcnkpofcekmgaaGreat
open Go
section
variable {P : Program} {ops : Array Oper} {Q : Exit → Act → World → Prop} {md : Region.Mode} {S : World → Prop} {n : Nat} {L : Array Bool → Act → World → Prop}
def wpAnyG (P : Program) (md : Region.Mode) (ops : Array Oper) (Q : Exit → Act → World → Prop) (n : Nat) (S : World → Prop) (L : Array Bool → Act → World → Prop) : Nat → Array Bool → Act → World → Prop
  | 0, listed, a, w => L listed a w
  | f + 1, listed, a, w => Region.ready md ops listed ≠ [] ∧ ∀ i ∈ Region.ready md ops listed, i < n ∧ wpOp P ops Q i (fun a' w' => S w' ∧ wpAnyG P md ops Q n S L f (listed.setIfInBounds i true) a' w') a w
theorem wpAny_of_headG {g : Nat} (hL : ∀ listed a w, L listed a w → wpAny P md ops Q g listed a w) :
    ∀ (f : Nat) (listed : Array Bool) (a : Act) (w : World), wpAnyG P md ops Q n S L f listed a w → wpAny P md ops Q (f + g) listed a w
  | 0, listed, a, w, h => by rw [Nat.zero_add]; exact hL _ _ _ h
  | f + 1, listed, a, w, h => by
    rw [show f + 1 + g = (f + g) + 1 by omega]
    exact ⟨fun h0 => absurd h0 h.1, fun i hi => wpOp_mono (fun a' w' h' => wpAny_of_headG hL f _ a' w' h'.2) (h.2 i hi).2⟩
theorem wpAnyG_first {i : Nat} {oi : Oper} {v : Value} (hi : ops[i]? = some oi) (hsel : ∀ (j : Nat) (o : Oper) cs b, ops[j]? = some o → o.op ≠ .select cs b)
    (hs : Region.sinkB md ops n = true) (hc : Region.chainB md ops n = true) (hn : n < ops.size) (hin : i < n)
    (hdone : ∀ listed a w, L listed a w → ∀ j ∈ Region.ready md ops listed, n ≤ j)
    (hQ : ∀ c a w, Q (.panic c) (a.put oi.dst v) w → Q (.panic c) a w) :
    ∀ (f : Nat) (listed : Array Bool) (a : Act) (w : World), HeadInv md ops n listed →
      (∀ j oj, ops[j]? = some oj → j ≠ i → listed.getD j true = false → (∀ e ∈ oj.after, Region.binds md e = true → e.on ≠ i) → oi.apart ops oj = true) →
      i ∈ Region.ready md ops listed → YieldsIf P ops S oi v a → S w →
      wpAnyG P md ops Q n S L f (listed.setIfInBounds i true) (a.put oi.dst v) w → wpAnyG P md ops Q n S L (f + 1) listed a w := by
  intro f
  induction f with
  | zero =>
    intro listed a w inv _ hr hy hS H
    have hun := (mem_ready.1 hr).1
    refine ⟨fun h => (by rw [h] at hr; cases hr), fun j hj => ?_⟩
    have hjn : j < n := by
      rcases Nat.lt_or_ge j n with h | h
      · exact h
      · exact absurd hj (tail_waits hs hc hn inv _ i rfl hin hun j h)
    refine ⟨hjn, ?_⟩
    by_cases hji : j = i
    · subst hji; exact hy.wpOp hi hS ⟨hS, H⟩
    · have := hdone _ _ _ H j (ready_mono hj hji)
      omega
  | succ f ih =>
    intro listed a w inv hfree hr hy hS H
    have hun := (mem_ready.1 hr).1
    refine ⟨fun h => (by rw [h] at hr; cases hr), fun j hj => ?_⟩
    have hjn : j < n := by
      rcases Nat.lt_or_ge j n with h | h
      · exact h
      · exact absurd hj (tail_waits hs hc hn inv _ i rfl hin hun j h)
    refine ⟨hjn, ?_⟩
    by_cases hji : j = i
    · subst hji; exact hy.wpOp hi hS ⟨hS, H⟩
    · have h1 := (H.2 j (ready_mono hj hji)).2
      obtain ⟨hjun, oj, hoj, hall⟩ := mem_ready.1 hj
      have hnot : ∀ e ∈ oj.after, Region.binds md e = true → e.on ≠ i := fun e he hb heq => by
        have h1 := hall e he hb
        rw [heq, getD_both hun] at h1
        cases h1
      have h2 := wpOp_putIf hoj (hfree j oj hoj hji hjun hnot) (fun cs b => hsel i oi cs b hi) (fun cs b => hsel j oj cs b hoj) hQ hy h1
      have hfree' : ∀ k ok, ops[k]? = some ok → k ≠ i → (listed.setIfInBounds j true).getD k true = false →
          (∀ e ∈ ok.after, Region.binds md e = true → e.on ≠ i) → oi.apart ops ok = true := fun k ok hk hki hun hno => by
        refine hfree k ok hk hki ?_ hno
        by_cases hjk : j = k
        · subst hjk; exact hjun
        · rw [getD_set_ne true hjk] at hun; exact hun
      refine wpOp_mono (fun a' w' h3 => ⟨h3.2.1, ih (listed.setIfInBounds j true) a' w' (inv.set hj hjn) hfree' (ready_mono hr (Ne.symm hji)) h3.1 h3.2.1 ?_⟩) h2
      rw [Array.setIfInBounds_comm _ _ hji]
      exact h3.2.2
/-- The walk's state. -/
def wpG (P : Program) (ops : Array Oper) (Q : Exit → Act → World → Prop) (n : Nat) (S : World → Prop) (T : Act → World → Prop) (f : Nat) (listed : Array Bool) (a : Act) (w : World) : Prop :=
  HeadInv .any ops n listed → Region.noSelect ops = true → Region.sinkB .any ops n = true → Region.chainB .any ops n = true → n < ops.size →
    wpAnyG P .any ops Q n S (fun l' a' w' => Region.seqB .any ops (ops.size - n) n l' = true ∧ T a' w') f listed a w
variable {T : Act → World → Prop}
theorem drop_at {l : List Oper} {i : Nat} {o : Oper} {r : List Oper} (h : l.drop i = o :: r) : l.toArray[i]? = some o := by
  have := congrArg (fun x => x[0]?) h
  simp only [List.getElem?_drop, Nat.add_zero, List.getElem?_cons_zero] at this
  simpa using this
theorem wpG_take' {i : Nat} {oi : Oper} {v : Value} {f : Nat} {listed : Array Bool} {a : Act} {w : World} (hi : ops[i]? = some oi) (hin : Nat.blt i n = true) (hf : Region.free .any ops listed i = true) (hr : (Region.ready .any ops listed).contains i = true)
    (hQ : ∀ c a w, Q (.panic c) (a.put oi.dst v) w → Q (.panic c) a w) (hy : YieldsIf P ops S oi v a) (hS : S w) (h : wpG P ops Q n S T f (listed.setIfInBounds i true) (a.put oi.dst v) w) : wpG P ops Q n S T (f + 1) listed a w := fun inv h1 h2 h3 h4 => by
  have hr' : i ∈ Region.ready .any ops listed := by simpa using hr
  have hin' : i < n := by simpa using hin
  exact wpAnyG_first hi (Region.noSelect_spec h1) h2 h3 h4 hin' (fun l' a' w' hL => seqB_ready hL.1) hQ f listed a w inv (Region.free_spec hi hf) hr' hy hS (h (inv.set hr' hin') h1 h2 h3 h4)
/-- The one that alone may come up. -/
theorem wpG_step' {i : Nat} {o : Oper} {f : Nat} {listed : Array Bool} {a : Act} {w : World} (hi : ops[i]? = some o) (hin : Nat.blt i n = true) (hr : Region.ready .any ops listed = [i])
    (h : ∀ K' : Act → World → Prop, Shut (∀ a w, S w → (S w → wpG P ops Q n S T f (listed.setIfInBounds i true) a w) → K' a w) → if Region.wanted o (yielded ops a.tmps) = true then Oper.wp P o a w K' Q else K' (a.put o.dst undef) w) : wpG P ops Q n S T (f + 1) listed a w := fun inv h1 h2 h3 h4 => by
  have hin' : i < n := by simpa using hin
  refine ⟨by rw [hr]; simp, fun j hj => ?_⟩
  rw [hr] at hj
  obtain rfl : j = i := by simpa using hj
  refine ⟨hin', wpOp_step hi (fun K' hK => h K' (fun a w hS hW => hK a w ⟨hS, hW hS (inv.set (by rw [hr]; simp) hin') h1 h2 h3 h4⟩))⟩
theorem wpG_take (i : Nat) {l rs : List Oper} {oi : Oper} {v : Value} {f : Nat} {listed : Array Bool} {a : Act} {w : World} (hi : l.drop i = oi :: rs) (hin : Nat.blt i n = true) (hf : Region.free .any l.toArray listed i = true) (hr : (Region.ready .any l.toArray listed).contains i = true)
    (hQ : ∀ c a w, Q (.panic c) (a.put oi.dst v) w → Q (.panic c) a w) (hw : Region.wanted oi (yielded l.toArray a.tmps) = true) (hS : S w) (hy : ∀ w, S w → (execOp a.eval oi).run P w = .ok (.value v) w) (h : wpG P l.toArray Q n S T f (listed.setIfInBounds i true) (a.put oi.dst v) w) : wpG P l.toArray Q n S T (f + 1) listed a w :=
  wpG_take' (drop_at hi) hin hf hr hQ (.inl ⟨hw, hy⟩) hS h
theorem wpG_skip (i : Nat) {l rs : List Oper} {oi : Oper} {f : Nat} {listed : Array Bool} {a : Act} {w : World} (hi : l.drop i = oi :: rs) (hin : Nat.blt i n = true) (hf : Region.free .any l.toArray listed i = true) (hr : (Region.ready .any l.toArray listed).contains i = true)
    (hQ : ∀ c a w, Q (.panic c) (a.put oi.dst undef) w → Q (.panic c) a w) (hw : Region.wanted oi (yielded l.toArray a.tmps) = false) (hS : S w) (h : wpG P l.toArray Q n S T f (listed.setIfInBounds i true) (a.put oi.dst undef) w) : wpG P l.toArray Q n S T (f + 1) listed a w :=
  wpG_take' (drop_at hi) hin hf hr hQ (.inr ⟨hw, rfl⟩) hS h
theorem wpG_step (i : Nat) {l rs : List Oper} {o : Oper} {f : Nat} {listed : Array Bool} {a : Act} {w : World} (hi : l.drop i = o :: rs) (hin : Nat.blt i n = true) (hr : Region.ready .any l.toArray listed = [i])
    (h : ∀ K' : Act → World → Prop, Shut (∀ a w, S w → (S w → wpG P l.toArray Q n S T f (listed.setIfInBounds i true) a w) → K' a w) → if Region.wanted o (yielded l.toArray a.tmps) = true then Oper.wp P o a w K' Q else K' (a.put o.dst undef) w) : wpG P l.toArray Q n S T (f + 1) listed a w :=
  wpG_step' (drop_at hi) hin hr h
theorem wpG_end {listed : Array Bool} {a : Act} {w : World} (hB : Region.seqB .any ops (ops.size - n) n listed = true) (h : T a w) : wpG P ops Q n S T 0 listed a w := fun _ _ _ _ _ => ⟨hB, h⟩
theorem wp_region_head {id : Nat} {a : Act} {w : World} {l : List Oper} (n : Nat) (S : World → Prop) (hm : P.follows .mixedOrders = true) (hsel : Region.noSelect l.toArray = true) (hs : Region.sinkB .any l.toArray n = true) (hc : Region.chainB .any l.toArray n = true) (hn : Nat.blt n l.length = true)
    (h : wpG P l.toArray Q n S (wpList P l.toArray Q (l.drop n)) n (Array.replicate l.toArray.size false) a w.drew) : (Code.region id l.toArray true).wp P Q a w := by
  have hn0 : n < l.length := by simpa using hn
  have hn' : n < l.toArray.size := by simpa using hn0
  have hdl : (l.drop n).length = l.toArray.size - n := by simp
  have inv0 : HeadInv .any l.toArray n (Array.replicate l.toArray.size false) :=
    ⟨by simp, fun j oj _ hl => (by rw [getD_replicate_false] at hl; cases hl), fun t _ ht => getD_in (by simpa using ht) (getD_replicate_false _ _)⟩
  have H := h inv0 hsel hs hc hn'
  refine wp_region_any hm ?_
  have := wpAny_of_headG (g := l.toArray.size - n) (fun listed a' w' hL => by
    have := wpAny_of_seq (md := .any) (Q' := Q) (l.drop n) n listed a' w' (fun j => by simp [List.getElem?_drop]) (by rw [hdl]; exact hL.1) hL.2
    rwa [hdl] at this) _ _ _ _ H
  rw [show n + (l.toArray.size - n) = l.toArray.size by omega] at this
  exact this
end
end Go.Proofs.YtfcnkpofcekmgaaGreat
