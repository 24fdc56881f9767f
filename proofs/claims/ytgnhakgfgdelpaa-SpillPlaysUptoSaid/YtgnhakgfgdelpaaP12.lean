/- Texts joined: espalierlaw09.pair.owned; The row's last step from 'Below' alone (the guide's small lemma 9).; A law that returns true and changes nothing below; Fields of bytes and integers in an argument.; A law's '..UptoSaid'; Scripts over benches; espalierlaw09 -/
import Derived.Test.YtgnhakgfgdelpaaP1
import Derived.Test.YtgnhakgfgdelpaaP7
import Derived.Test.YtgnhakgfgdelpaaP8
import Derived.Test.YtgnhakgfgdelpaaP9
import Derived.Test.YtgnhakgfgdelpaaP10
import Derived.Test.YtgnhakgfgdelpaaP11
import Derived.BigQuiet
import Derived.Below
import Derived.ChangeSame
import Derived.WalkKit
import Derived.ProofKit
import Derived.OpenShut
import Derived.SizedLaws
import Derived.Carry
import Derived.Lib.SmallJoins
import Derived.WideKeyArgs
import Derived.Deep.Slices
import Derived.Deep.Fields
import Derived.Test.YtgnhakgfgdelpaaRows
import Derived.JoinedCond
-- espalierlaw09.pair.owned: the walk.
namespace Go.Proofs.Ytgnhakgfgdelpaa
open Go.RowKit Go.Maps
section
variable {w0 w w' : World} {L : List Ent}
theorem Sep.unconsAll {E : Ent} {D : List Ent} (h : Sep w0 w (allE (E :: D) :: L)) : Sep w0 w (E :: allE D :: L) := by
  have h1 : Sep w0 w ((E :: D) ++ L) := h.unpack
  have h2 : Sep w0 w (D ++ E :: L) := Sep.back D h1
  exact h2.pack.sw1
/-- One of many pieces. -/
theorem Sep.focus {E : Ent} {D1 D2 : List Ent} (h : Sep w0 w (allE (D1 ++ E :: D2) :: L)) : Sep w0 w (E :: allE (D1 ++ D2) :: L) := by
  have h1 : Sep w0 w ((D1 ++ E :: D2) ++ L) := h.unpack
  have h2 : Sep w0 w (E :: ((D1 ++ D2) ++ L)) := by
    refine h1.perm ?_
    rw [List.append_assoc, List.append_assoc]
    exact List.perm_middle
  exact (Sep.back (D1 ++ D2) h2).pack.sw1
theorem Sep.unfocus {E : Ent} {D1 D2 : List Ent} (h : Sep w0 w (E :: allE (D1 ++ D2) :: L)) : Sep w0 w (allE (D1 ++ E :: D2) :: L) := by
  have h1 : Sep w0 w ((D1 ++ D2) ++ E :: L) := h.sw1.unpack
  have h2 : Sep w0 w ((D1 ++ E :: D2) ++ L) := by
    refine h1.perm ?_
    rw [List.append_assoc, List.append_assoc]
    refine List.Perm.append_left D1 ?_
    exact List.perm_middle
  exact h2.pack
theorem Sep.emptyAll (h : Sep w0 w L) : Sep w0 w (allE [] :: L) := Sep.pack (D := []) h
end
/-- The lists of integers: the first i of them are written full. -/
def mkO (p : Value × List Int) (j : Nat) : Ent := intsE p.1 (List.replicate p.2.length (1000 + (j : Int)))
def ownD (lists : List (Value × List Int)) (i : Nat) : List Ent := (lists.take i).mapIdx (fun j p => mkO p j) ++ (lists.drop i).map fun p => intsE p.1 p.2
theorem ownD_at (lists : List (Value × List Int)) (i : Nat) (hi : i < lists.length) (v : Value) (l : List Int) (hv : lists[i] = (v, l)) :
    ∃ D1 D2, ownD lists i = D1 ++ intsE v l :: D2 ∧ ownD lists (i + 1) = D1 ++ intsE v (List.replicate l.length (1000 + (i : Int))) :: D2 := by
  refine ⟨(lists.take i).mapIdx (fun j p => mkO p j), (lists.drop (i + 1)).map fun p => intsE p.1 p.2, ?_, ?_⟩
  · unfold ownD
    rw [List.drop_eq_getElem_cons hi, List.map_cons, hv]
  · unfold ownD
    rw [List.take_succ_eq_append_getElem hi, List.mapIdx_append, hv, List.append_assoc]
    congr 1
    simp [mkO, List.length_take, Nat.min_eq_left (Nat.le_of_lt hi)]
theorem ownD_end (lists : List (Value × List Int)) : ownD lists lists.length = (lists.mapIdx fun j p => mkO p j).drop 0 := by
  unfold ownD
  rw [List.take_length, List.drop_length, List.map_nil, List.append_nil, List.drop_zero]
theorem mapIdx_at (lists : List (Value × List Int)) (i : Nat) (hi : i < lists.length) (v : Value) (l : List Int) (hv : lists[i] = (v, l)) :
    (lists.mapIdx fun j p => mkO p j).drop i = intsE v (List.replicate l.length (1000 + (i : Int))) :: (lists.mapIdx fun j p => mkO p j).drop (i + 1) := by
  rw [List.drop_eq_getElem_cons (by simpa using hi), List.getElem_mapIdx]
  congr 1
  unfold mkO
  rw [hv]
/-- A list and what came of an append to it. -/
def dualI (v v' : Value) (l l' : List Int) : Ent := ⟨fun g => v.ownBlock = some g ∨ v'.ownBlock = some g, fun w => OwI w 0 v l ∧ OwI w 0 v' l', fun h k => ⟨Own.heap k.1 (fun g hg => h g (.inl hg)), Own.heap k.2 (fun g hg => h g (.inr hg))⟩⟩
theorem Sep.dualI {w0 w w' : World} {L : List Ent} {v v' : Value} {l l' : List Int} (h : Sep w0 w (intsE v l :: L)) (ho : OwI w' 0 v' l') (hg : w.grownBy w' v.ownBlock) (hk : v'.ownBlock = v.ownBlock ∨ ∃ k, v'.ownBlock = some k ∧ w.heap.size ≤ k) (hold : OwI w' 0 v l) : Sep w0 w' (dualI v v' l l' :: L) :=
  h.upd (Turn.of_grown hg (fun _ e => e)) ⟨hold, ho⟩ (fun g hg' => by
    rcases hg' with hg' | hg'
    · exact ⟨.inl hg', (Own.lt hold g hg').2⟩
    · refine ⟨?_, (Own.lt ho g hg').2⟩
      rcases hk with e | ⟨k, e, hk⟩
      · exact .inl (e.symm.trans hg' : v.ownBlock = some g)
      · right
        have := e.symm.trans hg'
        injection this with this
        omega)
section laws
variable {w : World} {ops : Array Oper} {rest : List Oper} {o : Oper} {a : Act} {Q : Exit → Act → World → Prop}
theorem wp_append_keep_I1 (hgd : o.guard = none) (s x : Operand)
    (ho : o.op = .call { callee := .builtin .append, args := #[s, x], argTypes := #[45, 45] })
    (base : Nat) (v : Value) (l : List Int) (hs : a.eval s = v) (hown : OwI w base v l)
    (y : Int) (T : TypeId) (hx : a.eval x = .slice (some ⟨w.heap.size, 0, none⟩) 1 1) (hsm : (l.length + 1) * 8 ≤ 140737488355328) (hbase : base ≤ w.heap.size)
    (h : ∀ v' w', OwI w' base v' (l ++ [y]) → w.grownBy w' v.ownBlock → (v'.ownBlock = v.ownBlock ∨ (v'.ownBlock = some (w.heap.size + 1))) → OwI w' base v l → wpList Try.prog ops Q rest (a.put o.dst v') w') :
    wpList Try.prog ops Q (o :: rest) a (w.alloc (.cells #[.int .i64 y] T)) := by
  obtain ⟨i, hi, hz0, hz1, hz2⟩ := info_parts int_info
  refine wp_append_keep hgd s x _ _ ho base 3 i _ 1 8 Try.underlying45 hi hz0 hz1 hz2 rfl v l.length (ivs l) hs (Own.alloc hown _) (.slice (some ⟨w.heap.size, 0, none⟩) 1 1) 1 [.int .i64 y] hx (Rd.src _ Try.underlying45 (by omega) (Rd.one w (.int .i64 y) T) (by simp [Value.oneCell'])) (by omega) (by omega) (by simp; omega) ?_
  intro v' w' h1 h2 h3 h4
  refine h v' w' ?_ ⟨h2.os, h2.tape, h2.output, ?_, fun k hk hne => (h2.block k (by simp; omega) hne).trans (Below.heap_alloc _ _ _ hk)⟩ (by simpa using h3) h4
  · unfold OwI
    rw [List.length_append, ivs_append]
    exact h1
  · have := h2.size
    simp at this; omega
end laws
theorem str_dr2 {w : World} {v : Value} {l : List UInt8} (h : RdB w v l) (n : Nat) : (convert 25 9 v).run Try.prog (w.drewN n) = .ok (.string ⟨l.toArray⟩) (w.drewN n) :=
  run_B_string (w := w.drewN n) h
section
variable {w0 w : World} {L : List Ent} {pb : Nat} {c0 c1 c2 : Value}
set_option maxRecDepth 100000 in
set_option maxHeartbeats 32000000 in
theorem owned_sep {k : Nat} {firsts : List Int} {cv wv lv ov : Value} {came : List (Value × List UInt8)} {lists other : List (Value × List Int)}
    (hS : Sep w0 w (blkE pb 59 [c0, c1, c2, cv, wv, lv, ov] :: prT cv came wv lv lists ov other L)) (hb : PrB k firsts came lists other) (hk : k ≤ 5000000) :
    Calls Try.prog 32 #[.pointer (some ⟨pb, 0, none⟩)] w fun e w' => e = .returned (.bool true) ∧ Sep w0 w' L := by
  have HB := Lib.hid hb
  have hcl : came.length ≤ 5000000 := by have := hb.c; omega
  have hll : lists.length ≤ 5000000 := by have := hb.l; omega
  have hol : other.length = lists.length := hb.len
  have HOL := Lib.hid hol
  clear hb hol
  obtain ⟨CA, cc, rfl⟩ := Own.slice (show Own w 0 25 1 cv came.length (came.map Prod.fst) from hS.tail.head)
  obtain ⟨WA, wc, rfl⟩ := Own.slice (show Own w 0 9 1 wv came.length (came.map fun p => strV p.2) from hS.tail.tail.head)
  obtain ⟨LA, lc, rfl⟩ := Own.slice (show Own w 0 45 1 lv lists.length (lists.map Prod.fst) from hS.tail.tail.tail.tail.head)
  obtain ⟨OA, oc, rfl⟩ := Own.slice (show Own w 0 45 1 ov other.length (other.map Prod.fst) from hS.tail.tail.tail.tail.tail.tail.head)
  go_enter Try.func32, Try.ntmps32
  have hS1 := hS.book
  go_upto_region 3 with (fail)
  generalize w.alloc (.cells #[.slice none 0 0] 34) = w1 at *
  generalize w.heap.size = bb at *
  clear hS
  go_loopw [4] (fun i wr => ∃ (q : Nat) (bv : Value), q ≤ came.length ∧ i = .int .i64 (q : Int) ∧
    Sep w0 wr (bookE bb bv (came.take q) :: blkE pb 59 [c0, c1, c2, .slice CA came.length cc, .slice WA came.length wc, .slice LA lists.length lc, .slice OA other.length oc] :: ownE 25 1 (.slice CA came.length cc) came.length (came.map Prod.fst) :: ownE 9 1 (.slice WA came.length wc) came.length (came.map fun p => strV p.2) :: allE ((came.drop q).map fun p => bytesE p.1 p.2) :: ownE 45 1 (.slice LA lists.length lc) lists.length (lists.map Prod.fst) :: allE (lists.map fun p => intsE p.1 p.2) :: ownE 45 1 (.slice OA other.length oc) other.length (other.map Prod.fst) :: allE (other.map fun p => intsE p.1 p.2) :: L)) (fun i _ => came.length - (intOf i).toNat)
  case atStart => exact ⟨0, _, Nat.zero_le _, rfl, by rw [List.take_zero, List.drop_zero]; exact hS1⟩
  case round =>
    clear hS1
    obtain ⟨q, bv, hq, rfl, hSq⟩ := hrel
    have hbk : OBlk wr pb 59 [c0, c1, c2, .slice CA came.length cc, .slice WA came.length wc, .slice LA lists.length lc, .slice OA other.length oc] := hSq.tail.head
    have k3 := hbk.cell' (j := 3) rfl
    have k4 := hbk.cell' (j := 4) rfl
    have k5 := hbk.cell' (j := 5) rfl
    by_cases hlt : q < came.length
    · have i1 : (q : Int) < (came.length : Int) := by omega
      have HQ := Lib.hid hlt
      have hdr : came.drop q = came[q] :: came.drop (q + 1) := List.drop_eq_getElem_cons hlt
      have htk : came.take (q + 1) = came.take q ++ [came[q]] := List.take_succ_eq_append_getElem hlt
      rw [hdr, List.map_cons] at hSq
      have hcw : Own wr 0 25 1 (.slice CA came.length cc) came.length (came.map Prod.fst) := hSq.tail.tail.head
      have hww : Own wr 0 9 1 (.slice WA came.length wc) came.length (came.map fun p => strV p.2) := hSq.tail.tail.tail.head
      have g1 : (came.map Prod.fst)[q]? = some came[q].1 := by rw [List.getElem?_map, List.getElem?_eq_getElem hlt]; rfl
      have g2 : (came.map fun p => strV p.2)[q]? = some (strV came[q].2) := by rw [List.getElem?_map, List.getElem?_eq_getElem hlt]; rfl
      obtain ⟨gc, xc, hgc⟩ := Own.some_ hcw (by omega)
      obtain ⟨gw, xw, hgw⟩ := Own.some_ hww (by omega)
      injection hgc with hgc _ hxc
      injection hgw with hgw _ hxw
      subst hgc hxc hgw hxw
      have ce := Own.cells hcw q _ g1
      have we := Own.cells hww q _ g2
      have HT := Lib.hid htk
      clear hdr htk g1 g2 hcw hww
      have HCL : Hid (came[q].2.length ≤ 65536) := Lib.hid (HB.out.cl _ (List.getElem_mem hlt))
      generalize hpq : came[q] = pq at *
      obtain ⟨u, l⟩ := pq
      have hSu : Sep w0 wr (bytesE u l :: allE ((came.drop (q + 1)).map fun p => bytesE p.1 p.2) :: [bookE bb bv (came.take q), blkE pb 59 [c0, c1, c2, .slice (some ⟨gc, 0, none⟩) came.length cc, .slice (some ⟨gw, 0, none⟩) came.length wc, .slice LA lists.length lc, .slice OA other.length oc], ownE 25 1 (.slice (some ⟨gc, 0, none⟩) came.length cc) came.length (came.map Prod.fst), ownE 9 1 (.slice (some ⟨gw, 0, none⟩) came.length wc) came.length (came.map fun p => strV p.2)] ++ (ownE 45 1 (.slice LA lists.length lc) lists.length (lists.map Prod.fst) :: allE (lists.map fun p => intsE p.1 p.2) :: ownE 45 1 (.slice OA other.length oc) other.length (other.map Prod.fst) :: allE (other.map fun p => intsE p.1 p.2) :: L)) := Sep.unconsAll (Sep.pick (L := [_, _, _, _, _]) [4, 0, 1, 2, 3] (by decide) rfl hSq)
      obtain ⟨UA, ux, rfl, -⟩ := (OwB.rd (show OwB wr 0 u l from hSu.head)).form
      have s1 := fun n => str_dr2 (OwB.rd (show OwB wr 0 (.slice UA l.length ux) l from hSu.head)) n
      replace ce : wr.cell? ⟨gc, q, none⟩ = some (.slice UA l.length ux) := ce
      replace we : wr.cell? ⟨gw, q, none⟩ = some (.string ⟨l.toArray⟩) := we
      clear hbk k5 hpq hlt
      go_upto_region 5 with (fail)
      go_quiet (fail)
      clear s1 k4 we
      have hT := fun m => Take_sep (Sep.pick (L := [_, _, _, _, _, _]) [2, 0, 1, 3, 4, 5] (by decide) rfl (hSu.drewN m)) (by rw [List.length_take]; omega)
      clear hSq hSu
      go_wp2_with (first
        | (go_at_call 17; (with_reducible refine (hT _).mono ?_); rintro e w5 ⟨⟨_, rfl⟩, bv5, hS5⟩)
        | fail)
      go_roundw
      case rel =>
        refine ⟨q + 1, bv5, HQ.out, by go_num, ?_⟩
        rw [HT.out]
        exact Sep.pick (L := [_, _, _, _, _]) [0, 2, 3, 4, 1] (by decide) rfl hS5
      case measure => have := HQ.out; simp [intOf]; omega
    · obtain rfl : q = came.length := by omega
      have hS2 : Sep w0 wr (allE (ownD lists 0) :: bookE bb bv came :: blkE pb 59 [c0, c1, c2, .slice CA came.length cc, .slice WA came.length wc, .slice LA lists.length lc, .slice OA other.length oc] :: ownE 45 1 (.slice LA lists.length lc) lists.length (lists.map Prod.fst) :: ownE 45 1 (.slice OA other.length oc) other.length (other.map Prod.fst) :: allE (other.map fun p => intsE p.1 p.2) :: L) := by
        have h : Sep w0 wr (allE (lists.map fun p => intsE p.1 p.2) :: bookE bb bv (came.take came.length) :: blkE pb 59 [c0, c1, c2, .slice CA came.length cc, .slice WA came.length wc, .slice LA lists.length lc, .slice OA other.length oc] :: ownE 45 1 (.slice LA lists.length lc) lists.length (lists.map Prod.fst) :: ownE 45 1 (.slice OA other.length oc) other.length (other.map Prod.fst) :: allE (other.map fun p => intsE p.1 p.2) :: L) := Sep.pick (L := [_, _, _, _, _, _, _, _, _]) [6, 0, 1, 5, 7, 8] (by decide) rfl hSq
        rw [List.take_length] at h
        have e : ownD lists 0 = lists.map fun p => intsE p.1 p.2 := by simp [ownD]
        rw [e]
        exact h
      have i1 : ¬ (came.length : Int) < (came.length : Int) := by omega
      clear hSq hbk k4 k5
      go_upto_region 9 with (fail)
      clear k3
      obtain ⟨wq, rfl⟩ : ∃ wq, wq = wr := ⟨_, rfl⟩
      go_loopw [5] (fun i wr => ∃ q : Nat, q ≤ lists.length ∧ i = .int .i64 (q : Int) ∧
        Sep w0 wr (allE (ownD lists q) :: bookE bb bv came :: blkE pb 59 [c0, c1, c2, .slice CA came.length cc, .slice WA came.length wc, .slice LA lists.length lc, .slice OA other.length oc] :: ownE 45 1 (.slice LA lists.length lc) lists.length (lists.map Prod.fst) :: ownE 45 1 (.slice OA other.length oc) other.length (other.map Prod.fst) :: allE (other.map fun p => intsE p.1 p.2) :: L)) (fun i _ => lists.length - (intOf i).toNat)
      case atStart => exact ⟨0, Nat.zero_le _, rfl, hS2⟩
      case round =>
        clear hS2
        obtain ⟨q, hq, rfl, hSq⟩ := hrel
        have hbk : OBlk wr pb 59 [c0, c1, c2, .slice CA came.length cc, .slice WA came.length wc, .slice LA lists.length lc, .slice OA other.length oc] := hSq.tail.tail.head
        have k5 := hbk.cell' (j := 5) rfl
        have k6 := hbk.cell' (j := 6) rfl
        clear hbk
        by_cases hlt : q < lists.length
        · have i2 : (q : Int) < (lists.length : Int) := by omega
          have HQ := Lib.hid hlt
          have hlo : q < other.length := by rw [HOL.out]; exact hlt
          have i3 : (q : Int) < (other.length : Int) := by omega
          obtain ⟨v, l, hvl⟩ : ∃ v l, lists[q] = (v, l) := ⟨_, _, rfl⟩
          obtain ⟨v2, l2, hvl2⟩ : ∃ v l, other[q] = (v, l) := ⟨_, _, rfl⟩
          have hll2 : l2 = l := by
            have h1 : (lists.map Prod.snd)[q]? = (other.map Prod.snd)[q]? := by rw [HB.out.same]
            rw [List.getElem?_map, List.getElem?_map, List.getElem?_eq_getElem hlt, List.getElem?_eq_getElem hlo] at h1
            have h2 := Option.some.inj h1
            have h3 := (congrArg Prod.snd hvl).symm.trans (h2.trans (congrArg Prod.snd hvl2))
            exact h3.symm
          subst hll2
          have hln : l2.length ≤ 65536 := by have := HB.out.ll lists[q] (List.getElem_mem hlt); rw [hvl] at this; exact this
          have hlw : Own wr 0 45 1 (.slice LA lists.length lc) lists.length (lists.map Prod.fst) := hSq.tail.tail.tail.head
          have how : Own wr 0 45 1 (.slice OA other.length oc) other.length (other.map Prod.fst) := hSq.tail.tail.tail.tail.head
          have g1 : (lists.map Prod.fst)[q]? = some v := by rw [List.getElem?_map, List.getElem?_eq_getElem hlt]; exact congrArg (fun p => some (Prod.fst p)) hvl
          have g2 : (other.map Prod.fst)[q]? = some v2 := by rw [List.getElem?_map, List.getElem?_eq_getElem hlo]; exact congrArg (fun p => some (Prod.fst p)) hvl2
          obtain ⟨gl, xl, hgl⟩ := Own.some_ hlw (by omega)
          obtain ⟨go, xo, hgo⟩ := Own.some_ how (by omega)
          injection hgl with hgl _ hxl
          injection hgo with hgo _ hxo
          subst hgl hxl hgo hxo
          have le : wr.cell? ⟨gl, q, none⟩ = some v := Own.cells hlw q _ g1
          have oe : wr.cell? ⟨go, q, none⟩ = some v2 := Own.cells how q _ g2
          have HG1 := Lib.hid g1
          clear hlw how g1 g2
          obtain ⟨D1, D2, hD1, hD2⟩ := ownD_at lists q hlt v l2 hvl
          rw [hD1] at hSq
          have HD2 := Lib.hid hD2
          have hSf := Sep.focus hSq
          have hi1 : RdI wr v l2 := OwI.rd (show OwI wr 0 v l2 from hSf.head)
          have hi2 : RdI wr v2 l2 := OwI.rd (show OwI wr 0 v2 l2 from (show (allE (other.map fun p => intsE p.1 p.2)).p wr from hSq.tail.tail.tail.tail.tail.head).1 _ (List.mem_map.2 ⟨other[q], List.getElem_mem hlo, by rw [hvl2]⟩))
          obtain ⟨VA, vx, rfl, -⟩ := hi1.form
          obtain ⟨V2, x2, rfl, -⟩ := hi2.form
          have hsi := sameInts_any _ _ l2 wr.drew hi1 hi2
          clear hSq hD1 hD2 hvl hvl2 hi1 hi2 hlo
          go_upto_region 11 with (fail)
          go_region_held3 (fun w' => w'.cell? ⟨pb, 5, none⟩ = some (.slice (some ⟨gl, 0, none⟩) lists.length lc) ∧ w'.cell? ⟨pb, 6, none⟩ = some (.slice (some ⟨go, 0, none⟩) other.length oc) ∧ w'.cell? ⟨gl, q, none⟩ = some (.slice VA l2.length vx) ∧ w'.cell? ⟨go, q, none⟩ = some (.slice V2 l2.length x2))
            (first | exact ⟨k5, k6, le, oe⟩)
            (first
              | (go_at_call 28; (with_reducible refine hsi.mono ?_); rintro e wc ⟨rfl, nq, rfl⟩)
              | fail)
          have hSk := hSf.drewN (1 + nq)
          clear k5 k6 le oe hsi hSf
          generalize wr.drewN (1 + nq) = wk at *
          obtain ⟨Y, HY⟩ : ∃ Y : Int, Hid (1000 + (q : Int) = Y) := ⟨_, Lib.hid rfl⟩
          have ewq : IntKind.i64.wrap (1000 + (q : Int)) = Y := by have := HY.out; rw [IntKind.wrap_i64]; omega
          go_upto_region 14 with (fail)
          go_loopw [6] (fun i wr => ∃ t : Nat, t ≤ l2.length ∧ i = .int .i64 (t : Int) ∧ Sep w0 wr (intsE (.slice VA l2.length vx) (List.replicate t Y ++ l2.drop t) :: allE (D1 ++ D2) :: bookE bb bv came :: blkE pb 59 [c0, c1, c2, .slice CA came.length cc, .slice WA came.length wc, .slice (some ⟨gl, 0, none⟩) lists.length lc, .slice (some ⟨go, 0, none⟩) other.length oc] :: ownE 45 1 (.slice (some ⟨gl, 0, none⟩) lists.length lc) lists.length (lists.map Prod.fst) :: ownE 45 1 (.slice (some ⟨go, 0, none⟩) other.length oc) other.length (other.map Prod.fst) :: allE (other.map fun p => intsE p.1 p.2) :: L)) (fun i _ => l2.length - (intOf i).toNat)
          case atStart => exact ⟨0, Nat.zero_le _, rfl, by rw [List.replicate_zero, List.drop_zero, List.nil_append]; exact hSk⟩
          case round =>
            clear hSk
            obtain ⟨t, ht, rfl, hSt⟩ := hrel
            have hbk : OBlk wr pb 59 [c0, c1, c2, .slice CA came.length cc, .slice WA came.length wc, .slice (some ⟨gl, 0, none⟩) lists.length lc, .slice (some ⟨go, 0, none⟩) other.length oc] := hSt.tail.tail.tail.head
            have k5 := hbk.cell' (j := 5) rfl
            have le : wr.cell? ⟨gl, q, none⟩ = some (.slice VA l2.length vx) := Own.cells (show Own wr 0 45 1 (.slice (some ⟨gl, 0, none⟩) lists.length lc) lists.length (lists.map Prod.fst) from hSt.tail.tail.tail.tail.head) q _ HG1.out
            have hit : OwI wr 0 (.slice VA l2.length vx) (List.replicate t Y ++ l2.drop t) := hSt.head
            have htl : (List.replicate t Y ++ l2.drop t).length = l2.length := by rw [List.length_append, List.length_replicate, List.length_drop]; omega
            clear hbk
            by_cases htt : t < l2.length
            · have i4 : (t : Int) < (l2.length : Int) := by omega
              have HT := Lib.hid htt
              have hset : (List.replicate t Y ++ l2.drop t).set t Y = List.replicate (t + 1) Y ++ l2.drop (t + 1) := by
                rw [List.set_append_right _ _ (by simp), List.length_replicate, Nat.sub_self, List.drop_eq_getElem_cons htt, List.set_cons_zero, List.replicate_succ', List.append_assoc]
                rfl
              obtain ⟨gv, xv, hgv⟩ := Own.some_ hit (by rw [htl]; omega)
              injection hgv with hgv hnn hxv
              clear hnn
              subst hgv hxv
              have hf := hit.frozen (j := t) (by rw [htl]; exact htt)
              have hc := hit.cell (j := t) (by rw [htl]; exact htt)
              have hSn := hSt.setInt t Y
              rw [hset] at hSn
              generalize (List.replicate t Y ++ l2.drop t)[t]'(by rw [htl]; exact htt) = y at hc
              clear hset hit hSt htl
              go_wp2_with fail
              go_roundw
              case rel => exact ⟨t + 1, HT.out, by go_num, hSn⟩
              case measure => have := HT.out; simp [intOf]; omega
            · obtain rfl : t = l2.length := by omega
              have i4 : ¬ (l2.length : Int) < (l2.length : Int) := by omega
              rw [List.drop_length, List.append_nil] at hSt
              clear hit htl
              go_wp2_with fail
              go_roundw
              case rel =>
                refine ⟨q + 1, HQ.out, by go_num, ?_⟩
                rw [HD2.out, HY.out]
                exact Sep.unfocus hSt
              case measure => have := HQ.out; simp [intOf]; omega
        · obtain rfl : q = lists.length := by omega
          have hS3 : Sep w0 wr (allE ((lists.mapIdx fun j p => mkO p j).drop 0) :: bookE bb bv came :: blkE pb 59 [c0, c1, c2, .slice CA came.length cc, .slice WA came.length wc, .slice LA lists.length lc, .slice OA other.length oc] :: ownE 45 1 (.slice LA lists.length lc) lists.length (lists.map Prod.fst) :: L) := by
            rw [← ownD_end]
            exact Sep.pick (L := [_, _, _, _, _, _]) [0, 1, 2, 3] (by decide) rfl hSq
          have i2 : ¬ (lists.length : Int) < (lists.length : Int) := by omega
          clear hSq k6
          go_upto_region 18 with (fail)
          clear k5
          obtain ⟨wz, rfl⟩ : ∃ wz, wz = wr := ⟨_, rfl⟩
          go_loopw [7] (fun i wr => ∃ q : Nat, q ≤ lists.length ∧ i = .int .i64 (q : Int) ∧
            Sep w0 wr (allE ((lists.mapIdx fun j p => mkO p j).drop q) :: bookE bb bv came :: blkE pb 59 [c0, c1, c2, .slice CA came.length cc, .slice WA came.length wc, .slice LA lists.length lc, .slice OA other.length oc] :: ownE 45 1 (.slice LA lists.length lc) lists.length (lists.map Prod.fst) :: L)) (fun i _ => lists.length - (intOf i).toNat)
          case atStart => exact ⟨0, Nat.zero_le _, rfl, hS3⟩
          case round =>
            clear hS3
            obtain ⟨q, hq, rfl, hSq⟩ := hrel
            have hbk : OBlk wr pb 59 [c0, c1, c2, .slice CA came.length cc, .slice WA came.length wc, .slice LA lists.length lc, .slice OA other.length oc] := hSq.tail.tail.head
            have k5 := hbk.cell' (j := 5) rfl
            clear hbk
            by_cases hlt : q < lists.length
            · have i3 : (q : Int) < (lists.length : Int) := by omega
              have HQ := Lib.hid hlt
              obtain ⟨v, l, hvl⟩ : ∃ v l, lists[q] = (v, l) := ⟨_, _, rfl⟩
              have hln : l.length ≤ 65536 := by have := HB.out.ll lists[q] (List.getElem_mem hlt); rw [hvl] at this; exact this
              have hlw : Own wr 0 45 1 (.slice LA lists.length lc) lists.length (lists.map Prod.fst) := hSq.tail.tail.tail.head
              have g1 : (lists.map Prod.fst)[q]? = some v := by rw [List.getElem?_map, List.getElem?_eq_getElem hlt]; exact congrArg (fun p => some (Prod.fst p)) hvl
              obtain ⟨gl, xl, hgl⟩ := Own.some_ hlw (by omega)
              injection hgl with hgl _ hxl
              subst hgl hxl
              have le : wr.cell? ⟨gl, q, none⟩ = some v := Own.cells hlw q _ g1
              rw [mapIdx_at lists q hlt v l hvl] at hSq
              have hSu := Sep.unconsAll hSq
              obtain ⟨Y, HY⟩ : ∃ Y : Int, Hid (1000 + (q : Int) = Y) := ⟨_, Lib.hid rfl⟩
              have ewq : IntKind.i64.wrap (1000 + (q : Int)) = Y := by have := HY.out; rw [IntKind.wrap_i64]; omega
              rw [HY.out] at hSu
              have hov : OwI wr 0 v (List.replicate l.length Y) := hSu.head
              obtain ⟨VA, vx, hva, -⟩ := (OwI.rd hov).form
              rw [List.length_replicate] at hva
              subst hva
              have HG1 := Lib.hid g1
              clear hlw g1 hSq hvl
              go_upto_region 21 with (first
                | (at_builtin; refine wp_append_keep_I1 rfl (.tmp 110) (.tmp 113) rfl 0 (.slice VA l.length vx) (List.replicate l.length Y) rfl hov Y _ rfl (by rw [List.length_replicate]; omega) (Nat.zero_le _) ?_; intro v5 w5 hO5 hg5 hk5 hold; have hS5 := hSu.dualI hO5 hg5 (by rcases hk5 with e | e; exact .inl e; exact .inr ⟨_, e, by omega⟩) hold; clear hO5 hg5 hk5 hold)
                | fail)
              have hlY : (List.replicate l.length Y ++ [Y]).length = l.length + 1 := by rw [List.length_append, List.length_replicate, List.length_singleton]
              have hYg : ∀ t (h : t < (List.replicate l.length Y ++ [Y]).length), (List.replicate l.length Y ++ [Y])[t] = Y := fun t h => by
                rcases List.mem_append.1 (List.getElem_mem h) with h1 | h1
                · exact List.eq_of_mem_replicate h1
                · exact List.mem_singleton.1 h1
              have hd5 : (dualI (.slice VA l.length vx) v5 (List.replicate l.length Y) (List.replicate l.length Y ++ [Y])).p w5 := hS5.head
              obtain ⟨gv, xv, hgv⟩ := Own.some_ hd5.2 (by omega)
              rw [hlY] at hgv
              subst hgv
              have hbk5 : OBlk w5 pb 59 [c0, c1, c2, .slice CA came.length cc, .slice WA came.length wc, .slice (some ⟨gl, 0, none⟩) lists.length lc, .slice OA other.length oc] := hS5.tail.tail.tail.head
              have k5' := hbk5.cell' (j := 5) rfl
              have le' : w5.cell? ⟨gl, q, none⟩ = some (.slice VA l.length vx) := Own.cells (show Own w5 0 45 1 (.slice (some ⟨gl, 0, none⟩) lists.length lc) lists.length (lists.map Prod.fst) from hS5.tail.tail.tail.tail.head) q _ HG1.out
              have hcY : ∀ t, t < l.length + 1 → w5.cell? ⟨gv, t, none⟩ = some (.int .i64 Y) := fun t ht => by
                rw [OwI.cell hd5.2 (j := t) (by omega), hYg]
              have HCY := Lib.hid hcY
              have hcX : ∀ t, t < l.length → ∃ ad, VA = some ad ∧ w5.cell? (ad.add t) = some (.int .i64 Y) := fun t ht => by
                obtain ⟨ad, h1, h2⟩ := (OwI.rd (show OwI w5 0 (.slice VA l.length vx) (List.replicate l.length Y) from hd5.1)).at_ (j := t) (by rw [List.length_replicate]; exact ht)
                rw [List.getElem_replicate] at h2
                exact ⟨ad, h1, h2⟩
              have HCX := Lib.hid hcX
              have HS5 := Lib.hid hS5
              clear hlY hYg hd5 hbk5 hcY hcX hS5 hSu hov k5 le
              go_upto_region 22 with (fail)
              go_loopw [9] (fun i wr => ∃ t : Nat, t ≤ l.length + 1 ∧ i = .int .i64 (t : Int) ∧ w5 = wr) (fun i _ => l.length + 1 - (intOf i).toNat)
              case atStart => exact ⟨0, Nat.zero_le _, rfl, rfl⟩
              case round =>
                obtain ⟨t, ht, rfl, rfl⟩ := hrel
                by_cases htt : t < l.length + 1
                · have i4 : (t : Int) < (l.length : Int) + 1 := by omega
                  have HT := Lib.hid htt
                  have hc := HCY.out t htt
                  go_wp2_with fail
                  go_roundw
                  case rel => exact ⟨t + 1, HT.out, by go_num, by trivial⟩
                  case measure => have := HT.out; simp [intOf]; omega
                · obtain rfl : t = l.length + 1 := by omega
                  go_upto_region 27 with (fail)
                  go_loopw [10] (fun i wr => ∃ t : Nat, t ≤ l.length ∧ i = .int .i64 (t : Int) ∧ w5 = wr) (fun i _ => l.length - (intOf i).toNat)
                  case atStart => exact ⟨0, Nat.zero_le _, rfl, rfl⟩
                  case round =>
                    obtain ⟨t, ht, rfl, rfl⟩ := hrel
                    by_cases htt : t < l.length
                    · have i5 : (t : Int) < (l.length : Int) := by omega
                      have HT := Lib.hid htt
                      obtain ⟨ad, rfl, hc⟩ := HCX.out t htt
                      go_wp2_with fail
                      go_roundw
                      case rel => exact ⟨t + 1, HT.out, by go_num, by trivial⟩
                      case measure => have := HT.out; simp [intOf]; omega
                    · obtain rfl : t = l.length := by omega
                      have i5 : ¬ (l.length : Int) < (l.length : Int) := by omega
                      go_wp2_with fail
                      go_roundw
                      case rel => exact ⟨q + 1, HQ.out, by go_num, HS5.out.tail⟩
                      case measure => have := HQ.out; simp [intOf]; omega
            · obtain rfl : q = lists.length := by omega
              have i3 : ¬ (lists.length : Int) < (lists.length : Int) := by omega
              have hO := Owned_sep hSq.sw1 (by omega) (fun p hp => by have := HB.out.cl p hp; omega)
              go_wp2_with (first
                | (go_at_call 18; (with_reducible refine hO.mono ?_); rintro e w9 ⟨rfl, hS9⟩)
                | fail)
              go_ret
              exact ⟨rfl, hS9.tail.tail.tail⟩
end
end Go.Proofs.Ytgnhakgfgdelpaa

-- The row's last step from 'Below' alone (the guide's small lemma 9).
namespace Go.Proofs.Ytgnhakgfgdelpaa
open Go.RowKit Go.WideShapes Go.ChangeShapes
section
variable {H : Type} {enc : TypeId × Value → H} {P : Program}
theorem post_of_below {f : Func} {s : ChangeSpec} {apart fresh handsOn again : Bool} {W W' : World} {args : Array Value} {v : Value} {ds gs : List (DataW H)} {before pa pv : List MemPlace}
    (hW : DataW.Whole enc P f.params.toList s.vars apart W args.toList ds gs before)
    (hres : ∀ (b : Nat) (sp : Nat → Bool) (hd : Bool), DataW.TrodAll enc P W' b sp hd f.resultTypes.toList (v.resultList f.resultTypes.size) (s.fn H (ds ++ gs)).results [])
    (hargs : ∀ sp : Nat → Bool, (∀ p ∈ before, sp p.block = true) → DataW.TrodAll enc P W' 0 sp true f.params.toList args.toList (s.fn H (ds ++ gs)).args pa)
    (hvars : ∀ sp : Nat → Bool, (∀ p ∈ before, sp p.block = true) → DataW.TrodVars enc P W' sp s.vars (s.fn H (ds ++ gs)).vars pv)
    (hps : before = pa ++ pv) (hb : Below W.heap.size W W')
    (hok : ∀ (j : Nat) (t : TypeId) (r : Value), f.resultTypes[j]? = some t → (v.resultList f.resultTypes.size)[j]? = some r → Value.okWide P W' .any 0 t r) :
    s.post enc P f apart fresh handsOn again W args v W' := by
  have hlt : ∀ p ∈ before, p.block < W.heap.size := fun p hp => hW.lt p hp
  have hold : ∀ p ∈ before, (fun b => decide (b < W.heap.size)) p.block = true := fun p hp => by simpa using hlt p hp
  refine ⟨ds, gs, before, [], pa, pv, hW, hres _ _ _, hargs _ hold, hvars _ hold, World.keptBut_mono (fun p hp => ⟨hp, ?_⟩) (hb.frame (· ∈ before)), fun _ => ?_⟩
  · rw [hps, List.mem_append] at hp
    exact Or.inr hp
  · obtain ⟨_, _, _, _, _, hz, hn⟩ := hW
    refine ⟨hok, _, _, ([] ++ pa) ++ pv, ⟨[] ++ pa, pv, trodAll_append (hargs _ (fun _ _ => rfl)) (hres _ _ _), hvars _ (fun _ _ => rfl), rfl, ?_, ?_⟩, ?_⟩
    · intro b off hp
      have hin : MemPlace.cell b off ∈ before := by rw [hps]; simpa using hp
      rw [hb.frozen (hlt _ hin)]
      exact hz b off hin
    · intro ha
      have := hn ha
      rw [hps] at this
      simpa using this
    · intro p hp _
      rw [hps]
      simpa using hp
end
end Go.Proofs.Ytgnhakgfgdelpaa

-- A law that returns true and changes nothing below: from its walk to the row's own form.
namespace Go.Proofs.Ytgnhakgfgdelpaa
open Go.RowKit Go.WideShapes Go.ChangeShapes Go.Joins
section
variable {H : Type} {enc : TypeId × Value → H} {P : Program}
theorem trodAll_stays (hl : laidOutB P = true) {W W' : World} {sp' : Nat → Bool} : ∀ {ts : List TypeId} {vs : List Value} {ds : List (DataW H)} {ps : List MemPlace}, (ts.all fun t => P.readableRec t && decide (t < P.types.size)) = true →
    DataW.TrodAll enc P W 0 (fun _ => true) true ts vs ds ps → (∀ p ∈ ps, W.sameAt W' p) → (∀ p ∈ ps, sp' p.block = true) → DataW.TrodAll enc P W' 0 sp' true ts vs ds ps
  | [], [], [], _, _, h, _, _ => h
  | t :: ts, _ :: _, _ :: _, _, hr, ⟨p, q, h1, h2, e⟩, hk, hs => by
    simp only [List.all_cons, Bool.and_eq_true, decide_eq_true_eq] at hr
    obtain ⟨⟨hr1, hr2⟩, hr3⟩ := hr
    exact ⟨p, q, WideElems.Trod_stays hl hr1 hr2 h1 (fun x hx => hk x (by rw [e]; exact List.mem_append_left _ hx)) (fun x hx => hs x (by rw [e]; exact List.mem_append_left _ hx)),
      trodAll_stays hl hr3 h2 (fun x hx => hk x (by rw [e]; exact List.mem_append_right _ hx)) (fun x hx => hs x (by rw [e]; exact List.mem_append_right _ hx)), e⟩
theorem trodAll_len {w : World} {base : Nat} {spare : Nat → Bool} {held : Bool} : ∀ {ts : List TypeId} {vs : List Value} {ds : List (DataW H)} {ps : List MemPlace}, DataW.TrodAll enc P w base spare held ts vs ds ps → ds.length = ts.length
  | [], [], [], _, _ => rfl
  | _ :: _, _ :: _, _ :: _, _, ⟨_, _, _, h2, _⟩ => by simp [trodAll_len h2]
theorem law_post {fn : Func} {s : ChangeSpec} {tb : TypeId} {W W' : World} {args : Array Value} {ds gs : List (DataW H)} {before : List MemPlace} (hvars : s.vars = []) (hrt : fn.resultTypes = #[tb]) (htb : P.underlying tb = some .bool) (hl : laidOutB P = true)
    (hr : (fn.params.toList.all fun t => P.readableRec t && decide (t < P.types.size)) = true) (hs : ∀ ds : List (DataW H), ds.length = fn.params.size → s.fn H ds = { results := [.lit (.bool true)], args := ds })
    (hW : DataW.Whole enc P fn.params.toList s.vars false W args.toList ds gs before) (hb : Below W.heap.size W W') : s.post enc P fn false true false false W args (.bool true) W' := by
  have hW' := hW
  obtain ⟨p, q, hA, hV, rfl, hfz, hnd⟩ := hW
  rw [hvars] at hV
  obtain ⟨rfl, rfl⟩ := trodVars_none hV
  have hlen : ds.length = fn.params.size := by simpa using trodAll_len hA
  have hfn := hs ds hlen
  have hlt : ∀ x ∈ p, x.block < W.heap.size := fun x hx => hW'.lt x (List.mem_append_left _ hx)
  refine post_of_below (pa := p) (pv := []) hW' ?_ ?_ ?_ (by simp) hb (ok_one hrt rfl (okWide_bool_mk htb _))
  · intro b sp hd
    rw [List.append_nil, hfn, hrt]
    exact trodAll_cons_mk (shut_bool htb _) trodAll_mk0
  · intro sp hsp
    rw [List.append_nil, hfn]
    exact trodAll_stays hl hr hA (fun x hx => hb.same (hlt x hx)) (fun x hx => hsp x (List.mem_append_left _ hx))
  · intro sp _
    rw [List.append_nil, hfn, hvars]
    exact (rfl : DataW.TrodVars enc P W' sp [] [] [])
end
theorem law_lifts {H : Type} {enc : TypeId × Value → H} {C : Checked} {os : Os} {fno : FuncId} {fn : Func} {s : ChangeSpec} {conds : List PathCond} {tb : TypeId}
    (own : ownKnob C.prog.godebug = none) (started : os.Started) (noInit : C.prog.inits.idxOf? fno = none) (hfn : C.prog.funcs[fno]? = some fn)
    (witness : ∃ (w : World) (tape : Tape) (i : Input), w.os = os ∧ (w.forCall tape i).Shaped C.prog ∧ i.vars = [] ∧ Input.okWide C.prog (w.forCall tape i) .any w.heap.size fno i ∧
      s.pre6 enc C.prog fn conds false (w.forCall tape i).memory i.args ∧ ({} : Assume).holds C.prog (lone (Frame.enter C.prog fno i.args .normal) [] (w.forCall tape i)))
    (hvars : s.vars = []) (hrt : fn.resultTypes = #[tb]) (htb : C.prog.underlying tb = some .bool) (hl : laidOutB C.prog = true)
    (hr : (fn.params.toList.all fun t => C.prog.readableRec t && decide (t < C.prog.types.size)) = true) (hs : ∀ ds : List (DataW H), ds.length = fn.params.size → s.fn H ds = { results := [.lit (.bool true)], args := ds })
    (walk : ∀ (W : World) (base : Nat) (args : Array Value) (ds : List (DataW H)) (p : List MemPlace), (∀ (j : Nat) t v, fn.params[j]? = some t → args[j]? = some v → Value.okWide C.prog W .any base t v) →
      DataW.TrodAll enc C.prog W 0 (fun _ => true) true fn.params.toList args.toList ds p → (DataW.weightsEach C.prog fn.params.toList ds).all (· ≤ reachBytes) = true →
      Calls C.prog fno args W fun e W' => e = .returned (.bool true) ∧ Below W.heap.size W W') :
    ReturnsInHanded {} C os fno .any (s.pre6 enc C.prog fn conds false) (s.post enc C.prog fn false true false false) := by
  refine returnsInHanded_of_change_sized own started noInit hfn witness ?_
  intro W base args ds gs before hval hW _ hsz _
  have hW' := hW
  obtain ⟨p, q, hA, hV, _, _, _⟩ := hW
  rw [hvars] at hV
  obtain ⟨rfl, rfl⟩ := trodVars_none hV
  have hv : s.plain.varTypes C.prog = [] := by
    unfold ChangeSpec.plain DataSpec.varTypes
    simp [hvars]
  rw [hv, List.append_nil, List.append_nil] at hsz
  refine (walk W base args ds p hval hA hsz).mono fun e W' h => ?_
  obtain ⟨rfl, hb⟩ := h
  exact ⟨_, rfl, law_post hvars hrt htb hl hr hs hW' hb⟩
section
variable {H : Type} {enc : TypeId × Value → H} {W : World}
theorem cells_u8 : Try.prog.cellsOf 5 = 1 := by kernel_rfl
theorem bytes_u8 : Try.prog.bytesOf 5 = 1 := by kernel_rfl
set_option maxRecDepth 100000 in
/-- An argument of type []byte. -/
theorem open_bytes {base : Nat} {v : Value} {d : DataW H} {p : List MemPlace} {ts : List TypeId} {ds : List (DataW H)} {j : Nat} (hv : Value.okWide Try.prog W .any base 25 v) (h : DataW.Trod enc Try.prog W 0 (fun _ => true) true 25 v d p)
    (hsz : (DataW.weightsEach Try.prog ts ds).all (· ≤ reachBytes) = true) (ht : ts[j]? = some 25) (hd : ds[j]? = some d) :
    ∃ l : List UInt8, RdB W v l ∧ l.length ≤ 140737488351232 := by
  obtain ⟨a0, len, cap, rfl⟩ := okWide_slice Try.underlying25 hv
  obtain ⟨fuel, hf⟩ := h
  rcases open_ints Try.underlying25 Try.underlying5 cells_u8 hf with ⟨hcs, _⟩ | ⟨a, len', cap', zs, hcs, _, hl, hm, hz, hx, hcell, hwz⟩
  · simp [Value.cells] at hcs
    obtain ⟨rfl, rfl, rfl⟩ := hcs
    exact ⟨[], RdB.nil, by simp⟩
  · simp [Value.cells] at hcs
    obtain ⟨rfl, rfl, rfl⟩ := hcs
    simp only [if_true] at hz
    simp only [Prod.mk.injEq] at hx
    obtain ⟨rfl, _⟩ := hx
    have hs := sized_slice hsz ht hd Try.underlying25
    rw [bytes_u8] at hs
    simp only [lits, List.length_map, List.length_take, List.length_drop, reachBytes] at hs
    refine ⟨(zs.take len).map fun z => UInt8.ofNat z.toNat, ?_, by simp; omega⟩
    have hlen : ((zs.take len).map fun z => UInt8.ofNat z.toNat).length = len := by simp; omega
    refine ⟨some a, cap, by rw [hlen], by rw [hlen]; exact hl, hm, fun j hj => ⟨a, rfl, ?_⟩⟩
    rw [hlen] at hj
    rw [hcell j (by omega)]
    have hjz : j < zs.length := by omega
    have hmem : zs[j] ∈ zs := List.getElem_mem hjz
    have hw := hwz _ hmem
    have hg : zs.getD j 0 = zs[j] := by simp [List.getD, hjz]
    rw [hg]
    simp [Lit.wf, IntKind.min, IntKind.max, IntKind.signed, IntKind.bits] at hw
    simp
    omega
end
end Go.Proofs.Ytgnhakgfgdelpaa

-- Fields of bytes and integers in an argument.
namespace Go.Proofs.Ytgnhakgfgdelpaa
open Go.RowKit Go.WideShapes Go.ChangeShapes Go.Deep
section
variable {H : Type} {enc : TypeId × Value → H} {W : World}
theorem cells_int : Try.prog.cellsOf 3 = 1 := by kernel_rfl
theorem bytes_int : Try.prog.bytesOf 3 = 8 := by kernel_rfl
/-- A field, or an element, of type []byte. -/
theorem trod_bytes {fuel : Nat} {cs : List Value} {x : DataW H × List MemPlace} (h : DataW.trod enc Try.prog W 0 (fun _ => true) true fuel 25 cs = some x) :
    ∃ (v : Value) (l : List UInt8), cs = [v] ∧ RdB W v l ∧ ((x.1 = .nil ∧ l = []) ∨ ∃ e s, x.1 = .slice e s ∧ l.length ≤ e.length + s.length) := by
  rcases open_ints Try.underlying25 Try.underlying5 cells_u8 h with ⟨rfl, rfl⟩ | ⟨a, len, cap, zs, rfl, _, hl, hm, hz, rfl, hcell, hwz⟩
  · exact ⟨_, [], rfl, RdB.nil, .inl ⟨rfl, rfl⟩⟩
  · simp only [if_true] at hz
    have hlen : ((zs.take len).map fun z => UInt8.ofNat z.toNat).length = len := by simp; omega
    refine ⟨_, (zs.take len).map fun z => UInt8.ofNat z.toNat, rfl, ⟨some a, cap, by rw [hlen], by rw [hlen]; exact hl, hm, fun j hj => ⟨a, rfl, ?_⟩⟩, .inr ⟨_, _, rfl, by rw [hlen]; simp [lits]; omega⟩⟩
    rw [hlen] at hj
    rw [hcell j (by omega)]
    have hjz : j < zs.length := by omega
    have hw := hwz _ (List.getElem_mem hjz)
    have hg : zs.getD j 0 = zs[j] := by simp [List.getD, hjz]
    rw [hg]
    simp [Lit.wf, IntKind.min, IntKind.max, IntKind.signed, IntKind.bits] at hw
    simp
    omega
theorem trod_i64 {fuel : Nat} {cs : List Value} {x : DataW H × List MemPlace} (h : DataW.trod enc Try.prog W 0 (fun _ => true) true fuel 3 cs = some x) : ∃ n : Int, cs = [.int .i64 n] ∧ -9223372036854775808 ≤ n ∧ n ≤ 9223372036854775807 := by
  obtain ⟨n, rfl, _, hw⟩ := DataW.trod_int Try.underlying3 h
  simp [Lit.wf, IntKind.min, IntKind.max, IntKind.signed, IntKind.bits] at hw
  exact ⟨n, rfl, hw⟩
theorem weightsAll_in {P : Program} {e : TypeId} : ∀ {l : List (DataW H)} {d : DataW H}, d ∈ l → ∀ n ∈ d.weights P e, n ∈ DataW.weightsAll P e l
  | [], _, h => by cases h
  | x :: r, d, h => by
    intro n hn
    rw [DataW.weightsAll, List.mem_append]
    rcases List.mem_cons.1 h with rfl | h
    · exact .inl hn
    · exact .inr (weightsAll_in h n hn)
end
end Go.Proofs.Ytgnhakgfgdelpaa

-- A law's '..UptoSaid': what the bound on the bulk gives; from the walk to the row's own form.
namespace Go.Proofs.Ytgnhakgfgdelpaa
open Go.RowKit Go.WideShapes Go.ChangeShapes Go.Joins Go.Deep
section
variable {H : Type} {enc : TypeId × Value → H} {W : World}
theorem bulk_pos (d : DataW H) : 1 ≤ Rows.uptoBulk d := by
  cases d with
  | lit l => cases l <;> simp [Rows.uptoBulk]
  | nil => simp [Rows.uptoBulk]
  | ptr d => simp [Rows.uptoBulk]
  | slice elems spare => simp [Rows.uptoBulk]
  | agg parts => simp [Rows.uptoBulk]
  | iface t d => simp [Rows.uptoBulk]
  | map entries => simp [Rows.uptoBulk]
  | held h => simp [Rows.uptoBulk]
theorem bulk_mem {d : DataW H} : ∀ {l : List (DataW H)}, d ∈ l → Rows.uptoBulk d ≤ Rows.uptoBulkAll l
  | x :: r, h => by
    simp only [Rows.uptoBulkAll]
    rcases List.mem_cons.1 h with rfl | e
    · omega
    · have := bulk_mem e
      omega
theorem bulk_length : ∀ l : List (DataW H), l.length ≤ Rows.uptoBulkAll l
  | [] => by simp [Rows.uptoBulkAll]
  | x :: r => by
    have h1 := bulk_pos x
    have h2 := bulk_length r
    simp only [Rows.uptoBulkAll, List.length_cons]
    omega
theorem bulk_places (elems spare : List (DataW H)) : elems.length + spare.length + 1 ≤ Rows.uptoBulk (.slice elems spare) := by
  have h1 := bulk_length elems
  have h2 := bulk_length spare
  simp only [Rows.uptoBulk]
  omega
end
theorem law_lifts_upto {H : Type} {enc : TypeId × Value → H} {C : Checked} {os : Os} {fno : FuncId} {fn : Func} {s : ChangeSpec} {conds : List PathCond} {tb : TypeId} {F : Stop.Interp}
    (own : ownKnob C.prog.godebug = none) (started : os.Started) (noInit : C.prog.inits.idxOf? fno = none) (hfn : C.prog.funcs[fno]? = some fn)
    (witness : ∃ (w : World) (tape : Tape) (i : Input), w.os = os ∧ (w.forCall tape i).Shaped C.prog ∧ i.vars = [] ∧ Input.okWide C.prog (w.forCall tape i) .any w.heap.size fno i ∧
      (Rows.OpenSpec.upto s).pre6 enc C.prog fn conds false (w.forCall tape i).memory i.args ∧ ({} : Assume).holds C.prog (lone (Frame.enter C.prog fno i.args .normal) [] (w.forCall tape i)))
    (hvars : s.vars = []) (hrt : fn.resultTypes = #[tb]) (htb : C.prog.underlying tb = some .bool) (hl : laidOutB C.prog = true)
    (hr : (fn.params.toList.all fun t => C.prog.readableRec t && decide (t < C.prog.types.size)) = true) (hs : ∀ ds : List (DataW H), ds.length = fn.params.size → s.fn H ds = { results := [.lit (.bool true)], args := ds })
    (walk : ∀ (W : World) (base : Nat) (args : Array Value) (ds : List (DataW H)) (p : List MemPlace), (∀ (j : Nat) t v, fn.params[j]? = some t → args[j]? = some v → Value.okWide C.prog W .any base t v) →
      DataW.TrodAll enc C.prog W 0 (fun _ => true) true fn.params.toList args.toList ds p → Rows.uptoBulkAll ds ≤ 1048576 →
      Calls C.prog fno args W fun e W' => e = .returned (.bool true) ∧ Below W.heap.size W W') :
    ReturnsInHanded {} C os fno .any ((Rows.OpenSpec.upto s).pre6 enc C.prog fn conds false) (((Rows.OpenSpec.upto s).at F).post enc C.prog fn false true false false) := by
  refine returnsInHanded_of_cond (s := Rows.OpenSpec.upto s) (k := Rows.uptoSmall) rfl own started noInit hfn witness ?_
  intro W base args ds gs before hval hW _ hk _
  have hW' : DataW.Whole enc C.prog fn.params.toList s.vars false W args.toList ds gs before := hW
  obtain ⟨p, q, hA, hV, _, _, _⟩ := hW
  have hV : DataW.TrodVars enc C.prog W (fun _ => true) s.vars gs q := hV
  rw [hvars] at hV
  obtain ⟨rfl, rfl⟩ := trodVars_none hV
  rw [List.append_nil] at hk
  refine (walk W base args ds p hval hA (of_decide_eq_true hk)).mono fun e W' h => ?_
  obtain ⟨rfl, hb⟩ := h
  exact ⟨_, rfl, law_post hvars hrt htb hl hr hs hW' hb⟩
end Go.Proofs.Ytgnhakgfgdelpaa

-- Scripts over benches: an argument of type []espalierlaw09.Op, of bulk at most the bound.
namespace Go.Proofs.Ytgnhakgfgdelpaa
open Go.RowKit Go.WideShapes Go.ChangeShapes Go.Deep
structure OpV where
  kind : Int
  first : Int
  n : Int
  fr : Int
  to_ : Int
  dv : Value
  data : List UInt8
instance : Inhabited OpV := ⟨⟨0, 0, 0, 0, 0, .slice none 0 0, []⟩⟩
def OpV.cells (o : OpV) : List Value := [.int .i64 o.kind, .int .i64 o.first, .int .i64 o.n, .int .i64 o.fr, .int .i64 o.to_, o.dv]
structure OpV.ok (W : World) (o : OpV) : Prop where
  d : RdB W o.dv o.data
  r0 : i64w o.kind
  r1 : i64w o.first
  r2 : i64w o.n
  r3 : i64w o.fr
  r4 : i64w o.to_
structure RdOps (W : World) (v : Value) (l : List OpV) : Prop where
  form : ∃ A c, v = .slice A l.length c ∧ l.length ≤ c ∧ c ≤ maxLen ∧ ∀ i (h : i < l.length), ∃ ad, A = some ad ∧ ∀ r u, l[i].cells[r]? = some u → W.cell? (ad.add (i * 6 + r)) = some u
  ok : ∀ o ∈ l, o.ok W
section
variable {H : Type} {enc : TypeId × Value → H} {W : World}
theorem cells_Op : Try.prog.cellsOf 61 = 6 := by kernel_rfl
set_option maxRecDepth 100000 in
theorem open_op {fuel : Nat} {cs : List Value} {x : DataW H × List MemPlace} (h : DataW.trod enc Try.prog W 0 (fun _ => true) true fuel 61 cs = some x) :
    ∃ o : OpV, cs = o.cells ∧ o.ok W := by
  obtain ⟨xs, n, _, rfl, hcl, hxl, hg⟩ := DataW.trod_struct Try.underlying61 h
  rw [cells_Op] at hcl
  match cs, hcl with
  | [c0, c1, c2, c3, c4, c5], _ =>
    match xs, hxl with
    | [z0, z1, z2, z3, z4, z5], _ =>
      have g0 := hg 0 _ rfl
      have g1 := hg 1 _ rfl
      have g2 := hg 2 _ rfl
      have g3 := hg 3 _ rfl
      have g4 := hg 4 _ rfl
      have g5 := hg 5 _ rfl
      obtain ⟨k, e0, r0⟩ := trod_i64 (cs := [c0]) g0
      obtain ⟨f, e1, r1⟩ := trod_i64 (cs := [c1]) g1
      obtain ⟨nn, e2, r2⟩ := trod_i64 (cs := [c2]) g2
      obtain ⟨fr, e3, r3⟩ := trod_i64 (cs := [c3]) g3
      obtain ⟨to_, e4, r4⟩ := trod_i64 (cs := [c4]) g4
      obtain ⟨dv, data, e5, hd, w5⟩ := trod_bytes (cs := [c5]) g5
      injection e0 with e0
      injection e1 with e1
      injection e2 with e2
      injection e3 with e3
      injection e4 with e4
      injection e5 with e5
      subst e0 e1 e2 e3 e4 e5
      exact ⟨⟨k, f, nn, fr, to_, c5, data⟩, rfl, ⟨hd, r0, r1, r2, r3, r4⟩⟩
set_option maxRecDepth 100000 in
theorem open_ops_upto {base : Nat} {v : Value} {d : DataW H} {p : List MemPlace} {ds : List (DataW H)} {j : Nat} (hv : Value.okWide Try.prog W .any base 54 v) (h : DataW.Trod enc Try.prog W 0 (fun _ => true) true 54 v d p)
    (hk : Rows.uptoBulkAll ds ≤ 1048576) (hd : ds[j]? = some d) :
    ∃ l : List OpV, RdOps W v l ∧ l.length ≤ 1048576 := by
  obtain ⟨a0, len, cap, rfl⟩ := okWide_slice Try.underlying54 hv
  have hbd := bulk_mem (List.mem_of_getElem? hd)
  obtain ⟨fuel, hf⟩ := h
  rcases open_slice Try.underlying54 hf with ⟨hcs, _⟩ | ⟨a, len', cap', m, n, D, Pl, hcs, _, hl, hm, hmm, hx, hi⟩
  · simp [Value.cells] at hcs
    obtain ⟨rfl, rfl, rfl⟩ := hcs
    exact ⟨[], ⟨⟨none, 0, rfl, by simp, by simp, fun i hi => by simp at hi⟩, by simp⟩, by simp⟩
  · simp [Value.cells] at hcs
    obtain ⟨rfl, rfl, rfl⟩ := hcs
    simp only [if_true] at hmm
    subst hmm
    simp only [Prod.mk.injEq] at hx
    obtain ⟨rfl, _⟩ := hx
    have key : ∀ i, i < m → ∃ o : OpV, (∀ r u, o.cells[r]? = some u → W.cell? (a.add (i * 6 + r)) = some u) ∧ o.ok W := fun i him => by
      obtain ⟨cs', hc, ht'⟩ := hi i him
      obtain ⟨o, rfl, hok⟩ := open_op ht'
      refine ⟨o, fun r u hu => ?_, hok⟩
      obtain ⟨_, hcl, hat⟩ := World.cells?_some hc
      have hr : r < Try.prog.cellsOf 61 := by
        have := (List.getElem?_eq_some_iff.1 hu).1
        rw [← hcl]; exact this
      have := hat r hr
      rw [cells_Op] at this
      rw [← add_of_add, this, hu]
    obtain ⟨f, hf'⟩ := choose_lt key
    refine ⟨(List.range len).map f, ⟨⟨some a, m, by simp, by simpa using hl, hm, fun i hi' => ⟨a, rfl, ?_⟩⟩, ?_⟩, ?_⟩
    · have hil : i < len := by simpa using hi'
      simpa using (hf' i (by omega)).1
    · intro o ho
      obtain ⟨i, hi', rfl⟩ := List.mem_map.1 ho
      have := List.mem_range.1 hi'
      exact (hf' i (by omega)).2
    · have hs := Nat.le_trans (bulk_places _ _) hbd
      simp only [List.length_map, List.length_range] at hs
      simp only [List.length_map, List.length_range]
      omega
end
end Go.Proofs.Ytgnhakgfgdelpaa

-- espalierlaw09: a pair of new benches; a read of any page.
namespace Go.Proofs.Ytgnhakgfgdelpaa
open Go.RowKit Go.Maps
section
variable {w0 w : World} {L : List Ent} {pb gb gm gb2 gm2 : Nat} {pv pv2 : Int → Option Value} {S : BS}
theorem Sep.nilO (T : TypeId) (h : Sep w0 w L) : Sep w0 w (ownE T 1 (.slice none 0 0) 0 [] :: L) :=
  h.cons (Own.nil w 0 _ _) (fun g hg => by cases hg) (fun _ _ g hg => by cases hg)
theorem PrAt.init (h : Sep w0 w (blkE pb 59 [.pointer (some ⟨gb, 0, none⟩), .pointer (some ⟨gb2, 0, none⟩), .slice none 0 0, .slice none 0 0, .slice none 0 0, .slice none 0 0, .slice none 0 0] :: benchE gb2 gm2 pv2 S :: benchE gb gm pv S :: L)) : PrAt pb gb gm gb2 gm2 w0 w L 0 := by
  have h1 : Sep w0 w (intsE (.slice none 0 0) [] :: ownE 25 1 (.slice none 0 0) 0 [] :: ownE 9 1 (.slice none 0 0) 0 [] :: allE [] :: ownE 45 1 (.slice none 0 0) 0 [] :: allE [] :: ownE 45 1 (.slice none 0 0) 0 [] :: allE [] :: blkE pb 59 [.pointer (some ⟨gb, 0, none⟩), .pointer (some ⟨gb2, 0, none⟩), .slice none 0 0, .slice none 0 0, .slice none 0 0, .slice none 0 0, .slice none 0 0] :: benchE gb2 gm2 pv2 S :: benchE gb gm pv S :: L) :=
    (((((((h.emptyAll).nilO _).emptyAll).nilO _).emptyAll).nilO _).nilO _).nilI
  exact ⟨pv, pv2, S, .slice none 0 0, [], .slice none 0 0, [], .slice none 0 0, .slice none 0 0, [], .slice none 0 0, [], Sep.pick (L := [_, _, _, _, _, _, _, _, _, _, _]) [8, 10, 9, 0, 1, 2, 3, 4, 5, 6, 7] (by decide) rfl h1, ⟨by simp, by simp, by simp, by simp, rfl, by simp, by simp⟩⟩
theorem PrAt.belowO {k : Nat} (h : PrAt pb gb gm gb2 gm2 w0 w [oldE w0] k) : Below w0.heap.size w0 w := by
  obtain ⟨pv, pv2, S, fv, firsts, cv, came, wv, lv, lists, ov, other, hS, -⟩ := h
  exact hS.belowOld (v := w0) (by simp)
theorem RdIn.oldP {v : World} {x : Value} {l : List UInt8} (hr : RdB v x l) (hm : oldE v ∈ L) : RdIn L x l :=
  ⟨oldE v, hm, fun _ h => hr.keep fun p hp => World.cell?_of_block (h p.block hp)⟩
theorem BRead_pg (hS : Sep w0 w (benchE gb gm pv S :: L)) (n : Int) (hn : i64w n) :
    Calls Try.prog 31 #[.pointer (some ⟨gb, 0, none⟩), .int .i64 n] w fun e w' => ∃ u z, e = .returned (.tuple #[u, .int .i64 z]) ∧ Sep w0 w' (bytesE u (pageB S n) :: benchE gb gm pv (pageS S n) :: L) := by
  cases hh : S.held n with
  | none =>
    have h1 : pageB S n = [] := by unfold pageB; rw [hh]; rfl
    have h2 : pageS S n = S := by unfold pageS; rw [if_pos hh]
    rw [h1, h2]
    refine (BRead_none hS.head n hn hh).mono ?_
    rintro e w' ⟨rfl, rfl⟩
    exact ⟨_, _, rfl, hS.nil⟩
  | some b =>
    have h1 : pageB S n = b := by unfold pageB; rw [hh]; rfl
    have h2 : pageS S n = S.read := by unfold pageS; rw [if_neg (by rw [hh]; simp)]
    rw [h1, h2]
    refine (BRead_some hS n hn b hh).mono ?_
    rintro e w' ⟨u, rfl, h⟩
    exact ⟨u, _, rfl, h⟩
theorem takenF_i64 (S : BS) (hp : S.pages ≤ 65536) : ∀ x ∈ takenF S, i64w x := by
  intro x hx
  unfold takenF takenTo at hx
  obtain ⟨k, hk, rfl⟩ := List.mem_map.1 hx
  have := List.mem_range.1 (List.mem_filter.1 hk).1
  exact ⟨by show (-9223372036854775808 : Int) ≤ (k : Int); omega, by show (k : Int) ≤ 9223372036854775807; omega⟩
end
end Go.Proofs.Ytgnhakgfgdelpaa
