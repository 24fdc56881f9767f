/- Texts joined. -/
import Derived.Test.YtfcnkpofcekmgaaGreatNQ7
import Derived.StillTail
import Derived.Deep.Quiet
set_option maxRecDepth 100000
set_option maxHeartbeats 64000000
namespace Go.Proofs.YtfcnkpofcekmgaaGreat
open Go.RowKit
structure Ent where
 F:Nat→Prop
 p:World→Prop
 loc:∀{w w':World},(∀g,F g→w'.heap[g]? =w.heap[g]?)→p w→p w'
structure Same (w0 w:World):Prop where
 os:w.os=w0.os
 tape:w.tape=w0.tape
 output:w.output=w0.output
 size:w0.heap.size≤w.heap.size
theorem Same.refl (w:World):Same w w:=⟨rfl,rfl,rfl,Nat.le_refl _⟩
theorem Same.trans {a b c:World} (h:Same a b) (k:Same b c):Same a c:=⟨k.os.trans h.os,k.tape.trans h.tape,k.output.trans h.output,Nat.le_trans h.size k.size⟩
theorem Same.of_below {B:Nat} {w w':World} (h:Below B w w'):Same w w':=⟨h.os,h.tape,h.output,h.size⟩
theorem Same.of_turn {F:Nat→Prop} {w w':World} (h:Turn F w w'):Same w w':=⟨h.os,h.tape,h.output,h.size⟩
structure Sep (w0 w:World) (L:List Ent):Prop where
 same:Same w0 w
 each:∀E∈L,E.p w∧∀g,E.F g→g<w.heap.size
 apart:L.Pairwise fun a b=>∀g,a.F g→¬b.F g
section
variable {w0 w w':World} {L L':List Ent} {E E' A B C D:Ent}
theorem Sep.perm (h:Sep w0 w L) (hp:L.Perm L'):Sep w0 w L':=
 ⟨h.same,fun E hE=>h.each E (hp.mem_iff.2 hE),(hp.pairwise_iff (fun {_a _b} hab g h1 h2=>hab g h2 h1)).1 h.apart⟩
theorem Sep.sw1 (h:Sep w0 w (A::E::L)):Sep w0 w (E::A::L):=h.perm (List.perm_middle (l₁:= [A]))
theorem Sep.sw2 (h:Sep w0 w (A::B::E::L)):Sep w0 w (E::A::B::L):=h.perm (List.perm_middle (l₁:= [A,B]))
theorem Sep.sw3 (h:Sep w0 w (A::B::C::E::L)):Sep w0 w (E::A::B::C::L):=h.perm (List.perm_middle (l₁:= [A,B,C]))
theorem Sep.sw4 (h:Sep w0 w (A::B::C::D::E::L)):Sep w0 w (E::A::B::C::D::L):=h.perm (List.perm_middle (l₁:= [A,B,C,D]))
theorem Sep.sw (L1:List Ent) (h:Sep w0 w (L1++E::L)):Sep w0 w (E::(L1++L)):=h.perm List.perm_middle
theorem Sep.sn (L1:List Ent) (h:Sep w0 w (A::(L1++E::L))):Sep w0 w (A::E::(L1++L)):=h.perm (List.Perm.cons _ List.perm_middle)
theorem Sep.head (h:Sep w0 w (E::L)):E.p w:=(h.each E (List.mem_cons_self ..)).1
theorem Sep.lt (h:Sep w0 w (E::L)):∀g,E.F g→g<w.heap.size:=(h.each E (List.mem_cons_self ..)).2
theorem Sep.of_mem (h:Sep w0 w L) (hE:E∈L):E.p w:=(h.each E hE).1
theorem Sep.tail (h:Sep w0 w (E::L)):Sep w0 w L:=⟨h.same,fun X hX=>h.each X (List.mem_cons_of_mem _ hX),(List.pairwise_cons.1 h.apart).2⟩
theorem Sep.far (h:Sep w0 w (E::L)) (hA:A∈L):∀g,E.F g→¬A.F g:=(List.pairwise_cons.1 h.apart).1 A hA
theorem Sep.cons (h:Sep w0 w L) (hp:E.p w) (hl:∀g,E.F g→g<w.heap.size) (ha:∀A∈L,∀g,E.F g→¬A.F g):Sep w0 w (E::L):=
 ⟨h.same,fun X hX=>by rcases List.mem_cons.1 hX with rfl|hX;exact ⟨hp,hl⟩;exact h.each X hX,List.pairwise_cons.2 ⟨ha,h.apart⟩⟩
theorem Sep.below (h:Sep w0 w L) (hb:Below w.heap.size w w'):Sep w0 w' L:=
 ⟨h.same.trans (Same.of_below hb),fun X hX=>⟨X.loc (fun g hg=>hb.block g ((h.each X hX).2 g hg)) (h.each X hX).1,fun g hg=>Nat.lt_of_lt_of_le ((h.each X hX).2 g hg) hb.size⟩,h.apart⟩
theorem Sep.new (h:Sep w0 w L) (hb:Below w.heap.size w w') (hp:E.p w') (hF:∀g,E.F g→w.heap.size≤g∧g<w'.heap.size):Sep w0 w' (E::L):=
 (h.below hb).cons hp (fun g hg=>(hF g hg).2) (fun X hX g hg h2=>by have h1:=(h.each X hX).2 g h2;have h3:=(hF g hg).1;omega)
theorem Sep.upd (h:Sep w0 w (E::L)) (ht:Turn E.F w w') (hp:E'.p w') (hF:∀g,E'.F g→(E.F g∨w.heap.size≤g)∧g<w'.heap.size):Sep w0 w' (E'::L):=by
 have hl:Sep w0 w' L:=⟨h.same.trans (Same.of_turn ht),fun X hX=>⟨X.loc (fun g hg=>ht.block g ((h.tail.each X hX).2 g hg) (fun e=>h.far hX g e hg)) (h.tail.each X hX).1,fun g hg=>Nat.lt_of_lt_of_le ((h.tail.each X hX).2 g hg) ht.size⟩,h.tail.apart⟩;refine hl.cons hp (fun g hg=>(hF g hg).2) (fun X hX g hg h2=> ?_);rcases (hF g hg).1 with h3|h3
 ·exact h.far hX g h3 h2
 ·have h1:=(h.tail.each X hX).2 g h2;omega
theorem Sep.kill (h:Sep w0 w (E::L)) (ht:Turn E.F w w'):Sep w0 w' L:=
 ⟨h.same.trans (Same.of_turn ht),fun X hX=>⟨X.loc (fun g hg=>ht.block g ((h.tail.each X hX).2 g hg) (fun e=>h.far hX g e hg)) (h.tail.each X hX).1,fun g hg=>Nat.lt_of_lt_of_le ((h.tail.each X hX).2 g hg) ht.size⟩,h.tail.apart⟩
theorem Sep.weak (h:Sep w0 w (E::L)) (hp:E.p w→E'.p w) (hF:∀g,E'.F g→E.F g):Sep w0 w (E'::L):=
 h.tail.cons (hp h.head) (fun g hg=>h.lt g (hF g hg)) (fun _ hX g hg=>h.far hX g (hF g hg))
def Ent.star (A B:Ent):Ent:=⟨fun g=>A.F g∨B.F g,fun w=>A.p w∧B.p w∧∀g,A.F g→¬B.F g,
 fun h ⟨h1,h2,h3⟩=>⟨A.loc (fun g hg=>h g (.inl hg)) h1,B.loc (fun g hg=>h g (.inr hg)) h2,h3⟩⟩
theorem Sep.join (h:Sep w0 w (A::B::L)):Sep w0 w (A.star B::L):=by
 refine h.tail.tail.cons ⟨h.head,h.tail.head,h.far (List.mem_cons_self ..)⟩ (fun g hg=>hg.elim (h.lt g) (h.tail.lt g)) (fun X hX g hg=> ?_);rcases hg with hg|hg
 ·exact h.far (List.mem_cons_of_mem _ hX) g hg
 ·exact h.tail.far hX g hg
theorem Sep.split (h:Sep w0 w (A.star B::L)):Sep w0 w (A::B::L):=by
 refine (h.tail.cons (E:=B) h.head.2.1 (fun g hg=>h.lt g (.inr hg)) (fun X hX g hg=>h.far hX g (.inr hg))).cons h.head.1 (fun g hg=>h.lt g (.inl hg)) (fun X hX g hg=> ?_);rcases List.mem_cons.1 hX with rfl|hX
 ·exact h.head.2.2 g hg
 ·exact h.far hX g (.inl hg)
theorem Sep.drewN (h:Sep w0 w L) (n:Nat):Sep w0 (w.drewN n) L:=h.below (w':=w.drewN n) ⟨rfl,rfl,rfl,Nat.le_refl _,fun _ _=>rfl⟩
theorem Sep.drew (h:Sep w0 w L):Sep w0 w.drew L:=h.below (w':=w.drew) ⟨rfl,rfl,rfl,Nat.le_refl _,fun _ _=>rfl⟩
def yK (w0:World):Ent:=⟨fun g=>g<w0.heap.size,fun w=>∀g,g<w0.heap.size→w.heap[g]? =w0.heap[g]?,fun h k g hg=>(h g hg).trans (k g hg)⟩
theorem Sep.start (w:World):Sep w w [yK w]:=⟨Same.refl w,fun E hE=>by obtain rfl:=List.mem_singleton.1 hE;exact ⟨fun _ _=>rfl,fun _ h=>h⟩,List.pairwise_singleton _ _⟩
theorem Sep.belowOld {_v:World} (h:Sep w0 w L) (hm:yK w0∈L):Below w0.heap.size w0 w:=⟨h.same.os,h.same.tape,h.same.output,h.same.size,h.of_mem hm⟩
theorem Sep.old_cell {v:World} (h:Sep w0 w L) (hm:yK v∈L):∀p:Addr,p.block<v.heap.size→w.cell? p=v.cell? p:=fun p hp=>World.cell?_of_block (h.of_mem hm p.block hp)
theorem Sep.rd {v:World} {x:Value} {l:List UInt8} (h:Sep w0 w L) (hm:yK v∈L) (hr:RdB v x l):RdB w x l:=hr.keep (h.old_cell hm)
def z7 (g:Nat) (T:TypeId) (cs:List Value):Ent:=⟨fun b=>b=g,fun w=>OBlk w g T cs,fun h k=>k.of_heap (h g rfl)⟩
def zB (v:Value) (l:List UInt8):Ent:=⟨fun g=>v.ownBlock=some g,fun w=>OwB w 0 v l,fun h k=>Own.heap k h⟩
def zP (T:TypeId) (size:Nat) (v:Value) (n:Nat) (xs:List Value):Ent:=⟨fun g=>v.ownBlock=some g,fun w=>Own w 0 T size v n xs,fun h k=>Own.heap k h⟩
theorem Sep.alloc (h:Sep w0 w L) (T:TypeId) (cs:List Value):Sep w0 (w.alloc (.cells cs.toArray T)) (z7 w.heap.size T cs::L):=
 h.new ((Below.refl _ _).alloc (Nat.le_refl _) _) (OBlk.new' w T cs) (fun g hg=>by have hg':g=w.heap.size:=hg;rw [World.size_alloc];omega)
theorem Sep.setCell {g:Nat} {T:TypeId} {cs:List Value} (h:Sep w0 w (z7 g T cs::L)) (j:Nat) (u:Value):Sep w0 (w.setCell ⟨g,j,none⟩ u) (z7 g T (cs.set j u)::L):=
 h.upd (Turn.of_grown (zY w ⟨g,j,none⟩ u) (fun k e=>(Option.some.inj e).symm)) (OBlk.set (h.head:OBlk w g T cs) j u) (fun b hb=>⟨.inl hb,by have h':=h.lt b hb;simpa using h'⟩)
theorem Sep.bytes {b:Nat} {v:Value} {l:List UInt8} (h:Sep w0 w L) (hb:Below w.heap.size w w') (ho:OwB w' b v l) (hB:w.heap.size≤b):Sep w0 w' (zB v l::L):=
 h.new hb (OwB.low ho (Nat.zero_le _)) (fun g hg=>⟨Nat.le_trans hB (Own.lt ho g hg).1,(Own.lt ho g hg).2⟩)
def RdIn (L:List Ent) (v:Value) (l:List UInt8):Prop:=∃E∈L,∀w,E.p w→RdB w v l
theorem RdIn.cons {v:Value} {l:List UInt8} (h:RdIn L v l):RdIn (E::L) v l:=by obtain ⟨X,hX,h⟩:=h;exact ⟨X,List.mem_cons_of_mem _ hX,h⟩
theorem Sep.rdIn {v:Value} {l:List UInt8} (h:Sep w0 w L) (hr:RdIn L v l):RdB w v l:=by obtain ⟨X,hX,hr⟩:=hr;exact hr w (h.of_mem hX)
def lM (D:List Ent):Ent:=⟨fun g=>∃E∈D,E.F g,fun w=>(∀E∈D,E.p w)∧D.Pairwise (fun (a b:Ent)=>∀g:Nat,a.F g→¬b.F g),
 fun h ⟨h1,h2⟩=>⟨fun E hE=>E.loc (fun g hg=>h g ⟨E,hE,hg⟩) (h1 E hE),h2⟩⟩
theorem Sep.pack {D:List Ent} (h:Sep w0 w (D++L)):Sep w0 w (lM D::L):=by
 have h1:=List.pairwise_append.1 h.apart;refine Sep.cons ⟨h.same,fun X hX=>h.each X (List.mem_append_right _ hX),h1.2.1⟩ ⟨fun E hE=>(h.each E (List.mem_append_left _ hE)).1,h1.1⟩ (fun g hg=> ?_) (fun X hX g hg=> ?_)
 ·obtain ⟨E,hE,hg⟩:=hg;exact (h.each E (List.mem_append_left _ hE)).2 g hg
 ·obtain ⟨E,hE,hg⟩:=hg;exact h1.2.2 E hE X hX g hg
theorem Sep.unpack {D:List Ent} (h:Sep w0 w (lM D::L)):Sep w0 w (D++L):=by
 have hp:=h.head;refine ⟨h.same,fun X hX=> ?_,List.pairwise_append.2 ⟨hp.2,h.tail.apart,fun E hE X hX g hg=>h.far hX g ⟨E,hE,hg⟩⟩⟩;rcases List.mem_append.1 hX with hX|hX
 ·exact ⟨hp.1 X hX,fun g hg=>h.lt g ⟨X,hX,hg⟩⟩
 ·exact h.tail.each X hX
end
def zG (l:List CV):List Ent:=l.flatMap fun x=> [zB x.kv x.c.key,zB x.vv x.c.val]
def vI (l:List CV):List (Value×List UInt8):=l.flatMap fun x=> [(x.kv,x.c.key),(x.vv,x.c.val)]
theorem cD (l:List CV):(vI l).length=2*l.length:=by
 induction l with
 |nil=>rfl
 |cons x r ih=>simp only [vI,List.flatMap_cons,List.length_append,List.length_cons,List.length_nil] at ih⊢;omega
theorem oR (l:List CV) {k:Nat} (h:k<l.length):vI (l.take (k+1))=vI (l.take k)++ [(l[k].kv,l[k].c.key)]++ [(l[k].vv,l[k].c.val)]:=by
 rw [List.take_succ_eq_append_getElem h];unfold vI;rw [List.flatMap_append,List.append_assoc];rfl
theorem gY (l:List CV) {k:Nat} (h:k<l.length):zG (l.drop k)=zB l[k].kv l[k].c.key::zB l[k].vv l[k].c.val::zG (l.drop (k+1)):=by
 rw [List.drop_eq_getElem_cons h];rfl
theorem Sep.cellsAdd {w0 w:World} {L:List Ent} {base:Nat} {v:Value} {l:List CV} (h:Sep w0 w L) (hL:∀E∈L,∀g,E.F g→g<base) (ho:OwCs w base v l):Sep w0 w (zP 43 5 v l.length (zF l)::(zG l++L)):=by
 have hall:∀E∈zG l,E.p w∧(∀g,E.F g→base≤g∧g<w.heap.size∧∃cs,OBlk w g 5 cs):=fun E hE=>by
  obtain ⟨x,hx,hE⟩:=List.mem_flatMap.1 hE;obtain ⟨hk,hv⟩:=ho.each x hx;simp only [List.mem_cons,List.not_mem_nil,or_false] at hE;rcases hE with rfl|rfl
  ·exact ⟨OwB.low hk (Nat.zero_le _),fun g hg=>⟨(Own.lt hk g hg).1,(Own.lt hk g hg).2,OwB.blkU hk hg⟩⟩
  ·exact ⟨OwB.low hv (Nat.zero_le _),fun g hg=>⟨(Own.lt hv g hg).1,(Own.lt hv g hg).2,OwB.blkU hv hg⟩⟩
 have key:∀(l:List CV) (S:List Ent),Sep w0 w S→(∀E∈S,∀g,E.F g→g<base)→(∀E∈zG l,E.p w∧(∀g,E.F g→base≤g∧g<w.heap.size))→((l.flatMap fun x=> [x.kv.ownBlock,x.vv.ownBlock]).filterMap id).Pairwise (· < ·)→Sep w0 w (zG l++S):=by
  intro l
  induction l with
  |nil=>intro S hS _ _ _;exact hS
  |cons x r ih=>
   intro S hS hSb hp hr
   have hr':((r.flatMap fun x=> [x.kv.ownBlock,x.vv.ownBlock]).filterMap id).Pairwise (· < ·):=by
    rw [List.flatMap_cons,List.filterMap_append,List.pairwise_append] at hr;exact hr.2.1
   have hS2:=ih S hS hSb (fun E hE=>hp E (by simp only [zG,List.flatMap_cons] at hE⊢;exact List.mem_append_right _ hE)) hr'
   have hmem:∀(y:CV),y∈r→∀g,(y.kv.ownBlock=some g∨y.vv.ownBlock=some g)→g∈((r.flatMap fun x=> [x.kv.ownBlock,x.vv.ownBlock]).filterMap id):=fun y hy g hg=>by
    rw [List.mem_filterMap];refine ⟨some g,List.mem_flatMap.2 ⟨y,hy,?_⟩,rfl⟩;simp only [List.mem_cons,List.not_mem_nil,or_false];exact hg.imp Eq.symm Eq.symm
   rw [List.flatMap_cons,List.filterMap_append,List.pairwise_append] at hr;obtain ⟨hr1,_,hr3⟩:=hr;have hkp:=hp (zB x.kv x.c.key) (by simp [zG]);have hvp:=hp (zB x.vv x.c.val) (by simp [zG])
   have far:∀(u:Value),(u=x.kv∨u=x.vv)→∀A∈zG r++S,∀g,u.ownBlock=some g→¬A.F g:=fun u hu A hA g hg hAg=>by
    rcases List.mem_append.1 hA with hA|hA
    ·obtain ⟨y,hy,hA⟩:=List.mem_flatMap.1 hA
     have hyg:y.kv.ownBlock=some g∨y.vv.ownBlock=some g:=by
      simp only [List.mem_cons,List.not_mem_nil,or_false] at hA;rcases hA with rfl|rfl
      ·exact .inl hAg
      ·exact .inr hAg
     have h1:g∈ [x.kv.ownBlock,x.vv.ownBlock].filterMap id:=by
      rw [List.mem_filterMap];refine ⟨some g,?_,rfl⟩;simp only [List.mem_cons,List.not_mem_nil,or_false];rcases hu with rfl|rfl
      ·exact .inl hg.symm
      ·exact .inr hg.symm
     have:=hr3 g h1 g (hmem y hy g hyg)
     omega
    ·have h1:=hSb A hA g hAg
     have h2:base≤g:=by
      rcases hu with rfl|rfl
      ·exact (hkp.2 g hg).1
      ·exact (hvp.2 g hg).1
     omega
   have hV:=hS2.cons (E:=zB x.vv x.c.val) hvp.1 (fun g hg=>(hvp.2 g hg).2) (fun A hA g hg=>far x.vv (.inr rfl) A hA g hg);refine hV.cons (E:=zB x.kv x.c.key) hkp.1 (fun g hg=>(hkp.2 g hg).2) (fun A hA g hg=> ?_);rcases List.mem_cons.1 hA with rfl|hA
   ·intro hvg;have hk':x.kv.ownBlock=some g:=hg;have hv':x.vv.ownBlock=some g:=hvg;rw [hk',hv'] at hr1;simp at hr1
   ·exact far x.kv (.inl rfl) A hA g hg
 have hC:=key l L h hL (fun E hE=>⟨(hall E hE).1,fun g hg=>⟨((hall E hE).2 g hg).1,((hall E hE).2 g hg).2.1⟩⟩) ho.apart;refine hC.cons (E:=zP 43 5 v l.length (zF l)) (Own.low ho.own (Nat.zero_le _)) (fun g hg=>(Own.lt ho.own g hg).2) (fun A hA g hg hAg=> ?_);rcases List.mem_append.1 hA with hA|hA
 ·obtain ⟨cs,h1⟩:=((hall A hA).2 g hAg).2.2;exact Own.ne_Tg ho.own h1 (by decide) hg.symm
 ·have h1:=hL A hA g hAg;have h2:=(Own.lt ho.own g hg).1;omega
theorem Sep.cells {w0 w w':World} {L:List Ent} {v:Value} {l:List CV} (h:Sep w0 w L) (hb:Below w.heap.size w w') (ho:OwCs w' w.heap.size v l):Sep w0 w' (zP 43 5 v l.length (zF l)::(zG l++L)):=
 (h.below hb).cellsAdd (fun E hE g hg=>(h.each E hE).2 g hg) ho
def RngC (l:List CV):Prop:=∀x∈l,yE x.c.kind∧yE x.c.page∧yE x.c.count
def csE (u:Value) (l:List CV):Ent:=lM (zP 43 5 u l.length (zF l)::zG l)
theorem qA {w:World} {u:Value} {l:List CV} (h:(csE u l).p w) (hr:RngC l):RdCs w u l:=by
 have ho:Own w 0 43 5 u l.length (zF l):=h.1 _ (List.mem_cons_self ..);refine ⟨ho.rd,fun x hx=> ?_⟩;have hk:OwB w 0 x.kv x.c.key:=h.1 (zB x.kv x.c.key) (List.mem_cons_of_mem _ (List.mem_flatMap.2 ⟨x,hx,by simp⟩));have hv:OwB w 0 x.vv x.c.val:=h.1 (zB x.vv x.c.val) (List.mem_cons_of_mem _ (List.mem_flatMap.2 ⟨x,hx,by simp⟩));exact ⟨hk.rd,hv.rd,(hr x hx).1,(hr x hx).2.1,(hr x hx).2.2⟩
structure XIn (L:List Ent) (x:CV):Prop where
 k:RdIn L x.kv x.c.key
 v:RdIn L x.vv x.c.val
 r1:yE x.c.kind
 r2:yE x.c.page
 r3:yE x.c.count
 s1:x.c.key.length≤140737488355328
 s2:x.c.val.length≤140737488355328
theorem XIn.ok {L M:List Ent} {x:CV} {w0 w:World} (h:XIn L x) (hS:Sep w0 w M) (hs:∀E∈L,E∈M):x.ok w:=by
 obtain ⟨E,hE,hr⟩:=h.k;obtain ⟨E',hE',hr'⟩:=h.v;exact ⟨hr w (hS.of_mem (hs E hE)),hr' w (hS.of_mem (hs E' hE')),h.r1,h.r2,h.r3⟩
theorem XIn.app {L1 L2:List Ent} {x:CV} (h:XIn L2 x):XIn (L1++L2) x:=by
 obtain ⟨E,hE,hr⟩:=h.k;obtain ⟨E',hE',hr'⟩:=h.v;exact ⟨⟨E,List.mem_append_right _ hE,hr⟩,⟨E',List.mem_append_right _ hE',hr'⟩,h.r1,h.r2,h.r3,h.s1,h.s2⟩
theorem xM (a b:List CV):zG (a++b)=zG a++zG b:=by simp [zG]
theorem bB (y:CV) (b:List CV):zG (y::b)=zB y.kv y.c.key::zB y.vv y.c.val::zG b:=rfl
theorem qC (l:List CV) (i:Nat):zG l=zG (l.take i)++zG (l.drop i):=by rw [←xM,List.take_append_drop]
theorem vJ (a b:List CV):pcs (a++b)=pcs a++pcs b:=by simp [pcs]
theorem fM (l:List CV) (i:Nat):pcs (l.take i)=(pcs l).take i:=by simp [pcs,List.map_take]
theorem mC (l:List CV) (i:Nat):pcs (l.drop i)=(pcs l).drop i:=by simp [pcs,List.map_drop]
theorem rC (l:List CV) (i:Nat):pcs (l.take i++l.drop (i+1))=(pcs l).take i++(pcs l).drop (i+1):=by
 rw [vJ,fM,←mC]
theorem RngC.with_ {l:List CV} (h:RngC l) {y:CV} (hy:yE y.c.kind∧yE y.c.page∧yE y.c.count) (i j:Nat):RngC (l.take i++y::l.drop j):=by
 intro x hx;rcases List.mem_append.1 hx with hx|hx
 ·exact h x (List.mem_of_mem_take hx)
 ·rcases List.mem_cons.1 hx with rfl|hx
  ·exact hy
  ·exact h x (List.mem_of_mem_drop hx)
theorem RngC.rem {l:List CV} (h:RngC l) (i j:Nat):RngC (l.take i++l.drop j):=by
 intro x hx;rcases List.mem_append.1 hx with hx|hx
 ·exact h x (List.mem_of_mem_take hx)
 ·exact h x (List.mem_of_mem_drop hx)
section
variable {w0 w w':World} {L:List Ent} {u v:Value} {l:List CV} {y:CV} {i:Nat}
theorem Sep.sub {L':List Ent} (h:Sep w0 w L) (hs:L'.Sublist L):Sep w0 w L':=⟨h.same,fun E hE=>h.each E (hs.subset hE),h.apart.sublist hs⟩
theorem aE {α:Type} (k a O:α) (T X:List α):(k::a::O::(T++X)).Perm (O::(T++(k::a::X))):=
 (List.perm_middle (l₁:= [k,a])).trans (List.Perm.cons _ (List.perm_append_comm_assoc [k,a] T X))
theorem rL (hi:i<l.length):(zG (l.take i)++zG (l.drop (i+1))).Sublist (zG l):=by
 rw [qC l i,gY l hi];exact (List.Sublist.refl _).append (((List.Sublist.refl _).cons _).cons _)
theorem Sep.push3 {a b c d:Ent} {T:List Ent} (h:Sep w0 w (a::b::c::d::(T++L))):Sep w0 w (a::b::c::(T++d::L)):=h.perm (((List.perm_middle.symm).cons _|>.cons _|>.cons _))
theorem Sep.push1 {a d:Ent} {T:List Ent} (h:Sep w0 w (a::d::(T++L))):Sep w0 w (a::(T++d::L)):=h.perm ((List.perm_middle.symm).cons _)
theorem Sep.csIns {N:Nat} (hN:(l.take i++y::l.drop i).length=N) (h:Sep w0 w (zB y.kv y.c.key::zB y.vv y.c.val::zP 43 5 v N (zF (l.take i++y::l.drop i))::(zG l++L))):Sep w0 w (csE v (l.take i++y::l.drop i)::L):=by
 subst hN;refine Sep.pack (D:=zP 43 5 v _ _::zG _) (h.perm ?_);rw [xM,bB,qC l i];simp only [List.cons_append,List.append_assoc];exact aE _ _ _ _ _
theorem Sep.csSet {N:Nat} (hN:(l.take i++y::l.drop (i+1)).length=N) (hi:i<l.length) (h:Sep w0 w (zB y.kv y.c.key::zB y.vv y.c.val::zP 43 5 v N (zF (l.take i++y::l.drop (i+1)))::(zG l++L))):Sep w0 w (csE v (l.take i++y::l.drop (i+1))::L):=by
 subst hN;have h1:=h.sub ((((rL (l:=l) hi).append (List.Sublist.refl L)).cons_cons _).cons_cons _|>.cons_cons _);refine Sep.pack (D:=zP 43 5 v _ _::zG _) (h1.perm ?_);rw [xM,bB];simp only [List.cons_append,List.append_assoc];exact aE _ _ _ _ _
theorem Sep.csDel {N:Nat} (hN:(l.take i++l.drop (i+1)).length=N) (hi:i<l.length) (h:Sep w0 w (zP 43 5 v N (zF (l.take i++l.drop (i+1)))::(zG l++L))):Sep w0 w (csE v (l.take i++l.drop (i+1))::L):=by
 refine Sep.pack (D:=zP 43 5 v _ _::zG _) ((by subst hN;exact h:Sep w0 w (zP 43 5 v (l.take i++l.drop (i+1)).length (zF (l.take i++l.drop (i+1)))::(zG l++L))).sub ?_);rw [xM];exact ((rL (l:=l) hi).append (List.Sublist.refl L)).cons_cons _
end
theorem Sep.openRd {w0 w:World} {M:List Ent} {u:Value} {l:List CV} (h:Sep w0 w M) (h1:zP 43 5 u l.length (zF l)∈M) (h2:∀E∈zG l,E∈M) (hr:RngC l):RdCs w u l:=by
 have ho:Own w 0 43 5 u l.length (zF l):=h.of_mem h1;refine ⟨ho.rd,fun x hx=> ?_⟩;have hk:OwB w 0 x.kv x.c.key:=h.of_mem (E:=zB x.kv x.c.key) (h2 _ (List.mem_flatMap.2 ⟨x,hx,by simp⟩));have hv:OwB w 0 x.vv x.c.val:=h.of_mem (E:=zB x.vv x.c.val) (h2 _ (List.mem_flatMap.2 ⟨x,hx,by simp⟩));exact ⟨hk.rd,hv.rd,(hr x hx).1,(hr x hx).2.1,(hr x hx).2.2⟩
theorem Sep.set5 {w0 w:World} {g:Nat} {T:TypeId} {b0 b1 b2 b3 b4:Value} {L:List Ent} (h:Sep w0 w (z7 g T [b0,b1,b2,b3,b4]::L)) (a0 a1 a2 a3 a4:Value):
 Sep w0 (((((w.setCell ⟨g,0,none⟩ a0).setCell ⟨g,1,none⟩ a1).setCell ⟨g,2,none⟩ a2).setCell ⟨g,3,none⟩ a3).setCell ⟨g,4,none⟩ a4) (z7 g T [a0,a1,a2,a3,a4]::L):=
 ((((h.setCell 0 a0).setCell 1 a1).setCell 2 a2).setCell 3 a3).setCell 4 a4
theorem xJ {w:World} {g:Nat} {T:TypeId} {a0 a1 a2 a3 a4:Value} (h:OBlk w g T [a0,a1,a2,a3,a4]):
 w.frozen? ⟨g,0,none⟩=false∧w.frozen? ⟨g,1,none⟩=false∧w.frozen? ⟨g,2,none⟩=false∧w.frozen? ⟨g,3,none⟩=false∧w.frozen? ⟨g,4,none⟩=false:=
 ⟨h.frozen (j:=0) (by simp),h.frozen (j:=1) (by simp),h.frozen (j:=2) (by simp),h.frozen (j:=3) (by simp),h.frozen (j:=4) (by simp)⟩
theorem Sep.appC {w0 w w':World} {L:List Ent} {v v':Value} {n m:Nat} {xs ys:List Value} (h:Sep w0 w (zP 43 5 v n xs::L)) (ho:Own w' 0 43 5 v' m ys) (hg:w.grownBy w' v.ownBlock) (hk:v'.ownBlock=v.ownBlock∨∃k,v'.ownBlock=some k∧w.heap.size≤k):Sep w0 w' (zP 43 5 v' m ys::L):=
 h.upd (Turn.of_grown hg (fun _ e=>e)) ho (fun g hg'=>⟨by
  rcases hk with e|⟨k,e,hk⟩
  ·exact .inl (e.symm.trans hg':v.ownBlock=some g)
  ·right
   have:=e.symm.trans hg'
   injection this with this
   omega,(Own.lt ho g hg').2⟩)
theorem Sep.nilC {w0 w:World} {L:List Ent} (h:Sep w0 w L):Sep w0 w (zP 43 5 (.slice none 0 0) 0 []::L):=
 h.cons (Own.nil w 0 _ _) (fun g hg=>by cases hg) (fun _ _ g hg=>by cases hg)
theorem Sep.csSnocFar {w0 w:World} {v:Value} {l:List CV} {y:CV} {R:List Ent} (xs:List Ent) (h:Sep w0 w (zP 43 5 v (l.length+1) (zF l++y.cells)::zB y.kv y.c.key::zB y.vv y.c.val::(xs++(zG l++R)))):Sep w0 w (csE v (l++ [y])::(xs++R)):=by
 have e1:zF (l++ [y])=zF l++y.cells:=by rw [vK];simp [zF]
 have e2:zG (l++ [y])=zG l++ [zB y.kv y.c.key,zB y.vv y.c.val]:=by rw [xM];rfl
 have e3:(l++ [y]).length=l.length+1:=by simp
 unfold csE;rw [e1,e2,e3];refine Sep.pack (D:=zP 43 5 v (l.length+1) (zF l++y.cells)::(zG l++ [zB y.kv y.c.key,zB y.vv y.c.val])) (h.perm (List.Perm.cons _ ?_));have e4:(zB y.kv y.c.key::zB y.vv y.c.val::(xs++(zG l++R)))=(zB y.kv y.c.key::zB y.vv y.c.val::xs)++(zG l++R):=rfl;rw [e4];refine (List.perm_append_comm_assoc (zB y.kv y.c.key::zB y.vv y.c.val::xs) (zG l) R).trans (List.Perm.of_eq ?_)
 show zG l++((zB y.kv y.c.key::zB y.vv y.c.val::xs)++R)=(zG l++ [zB y.kv y.c.key,zB y.vv y.c.val])++(xs++R)
 rw [List.append_assoc];rfl
theorem Sep.lift2 {w0 w w':World} {A B:Ent} {M L:List Ent} (hS:Sep w w' (A::B::M)) (hm:yK w∈M) (h:Sep w0 w L):Sep w0 w' (A::B::L):=by
 have hb:Below w.heap.size w w':=hS.belowOld (_v:=w) (by simp [hm]);refine ((h.below hb).cons (E:=B) hS.tail.head hS.tail.lt (fun X hX g hg hg2=> ?_)).cons (E:=A) hS.head hS.lt (fun X hX g hg hg2=> ?_)
 ·exact hS.tail.far hm g hg ((h.each X hX).2 g hg2)
 ·rcases List.mem_cons.1 hX with rfl|hX
  ·exact hS.far (List.mem_cons_self ..) g hg hg2
  ·exact hS.far (List.mem_cons_of_mem _ hm) g hg ((h.each X hX).2 g hg2)
theorem Sep.lift1 {w0 w w':World} {A:Ent} {M L:List Ent} (hS:Sep w w' (A::M)) (hm:yK w∈M) (h:Sep w0 w L):Sep w0 w' (A::L):=by
 have hb:Below w.heap.size w w':=hS.belowOld (_v:=w) (by simp [hm]);exact (h.below hb).cons (E:=A) hS.head hS.lt (fun X hX g hg hg2=>hS.far hm g hg ((h.each X hX).2 g hg2))
section
variable {w0 w w':World} {L:List Ent} {u v:Value} {l:List CV} {y:CV} {i:Nat}
theorem Sep.insAt {l':List CV} {e:Ending} (h:Sep w0 w (zP 43 5 u l.length (zF l)::L)) (hi:wQ w u l' e w'):∃v',e= .returned v'∧Sep w0 w' (zP 43 5 v' l'.length (zF l')::L):=by
 obtain ⟨v',rfl,ho,ht,hv⟩:=hi;exact ⟨v',rfl,h.upd ht ho (fun g hg=>⟨hv g hg,(Own.lt ho g hg).2⟩)⟩
end
theorem Own.cells5k {w:World} {b g n c:Nat} {l:List CV} (h:Own w b 43 5 (.slice (some ⟨g,0,none⟩) n c) n (zF l)) {k:Nat} (hk:k<l.length):
 (∃u,w.cell? ⟨g,k*5,none⟩=some u)∧(∃u,w.cell? ⟨g,k*5+1,none⟩=some u)∧(∃u,w.cell? ⟨g,k*5+2,none⟩=some u)∧(∃u,w.cell? ⟨g,k*5+3,none⟩=some u)∧(∃u,w.cell? ⟨g,k*5+4,none⟩=some u):=
 ⟨⟨_,h.cells (k*5) _ (vN l k 0 hk (by omega))⟩,⟨_,h.cells (k*5+1) _ (vN l k 1 hk (by omega))⟩,⟨_,h.cells (k*5+2) _ (vN l k 2 hk (by omega))⟩,⟨_,h.cells (k*5+3) _ (vN l k 3 hk (by omega))⟩,⟨_,h.cells (k*5+4) _ (vN l k 4 hk (by omega))⟩⟩
theorem Own.froz5k {w:World} {b g n c:Nat} {l:List CV} (h:Own w b 43 5 (.slice (some ⟨g,0,none⟩) n c) n (zF l)) {k:Nat} (hk:k<l.length):
 w.frozen? ⟨g,k*5,none⟩=false∧w.frozen? ⟨g,k*5+1,none⟩=false∧w.frozen? ⟨g,k*5+2,none⟩=false∧w.frozen? ⟨g,k*5+3,none⟩=false∧w.frozen? ⟨g,k*5+4,none⟩=false:=by
 have hl:=jL l;exact ⟨h.frozen (by omega),h.frozen (by omega),h.frozen (by omega),h.frozen (by omega),h.frozen (by omega)⟩
theorem Own.set5k {w:World} {b g n c:Nat} {l:List CV} (h:Own w b 43 5 (.slice (some ⟨g,0,none⟩) n c) n (zF l)) {k:Nat} (hk:k<l.length) (x:CV):
 Own (((((w.setCell ⟨g,k*5,none⟩ x.kv).setCell ⟨g,k*5+1,none⟩ (.int .i64 x.c.kind)).setCell ⟨g,k*5+2,none⟩ x.vv).setCell ⟨g,k*5+3,none⟩ (.int .i64 x.c.page)).setCell ⟨g,k*5+4,none⟩ (.int .i64 x.c.count)) b 43 5 (.slice (some ⟨g,0,none⟩) n c) n (zF (l.set k x)):=by
 rw [←aQ l k hk x];exact ((((h.set (k*5) x.kv).set (k*5+1) (.int .i64 x.c.kind)).set (k*5+2) x.vv).set (k*5+3) (.int .i64 x.c.page)).set (k*5+4) (.int .i64 x.c.count)
end Go.Proofs.YtfcnkpofcekmgaaGreat
namespace Go.Proofs.YtfcnkpofcekmgaaGreat
section
variable {P:Program} {ops:Array Oper} {md:Region.Mode} {C:World→Prop}
def mU (P:Program) (md:Region.Mode) (ops:Array Oper) (C:World→Prop) (n:Nat) (L:Array Bool→Act→Prop):Nat→Array Bool→Act→Prop
 |0,listed,a=>L listed a
 |f+1,listed,a=>Region.ready md ops listed≠ []∧∀i∈Region.ready md ops listed,i<n∧qOp P ops C i (mU P md ops C n L f (listed.setIfInBounds i true)) a
theorem fY {n g:Nat} {L:Array Bool→Act→Prop} {Q':Exit→Act→World→Prop} (hL:∀listed a w,C w→L listed a→wpAny P md ops Q' g listed a w):
 ∀(f:Nat) (listed:Array Bool) (a:Act) (w:World),C w→mU P md ops C n L f listed a→wpAny P md ops Q' (f+g) listed a w
 |0,listed,a,w,hw,h=>by rw [Nat.zero_add];exact hL _ _ _ hw h
 |f+1,listed,a,w,hw,h=>by
  rw [show f+1+g=(f+g)+1 by omega];exact ⟨fun e=>absurd e h.1,fun i hi=>wpOp_of_qOp hw (fun a' w' hw' k=>fY hL f _ a' w' hw' k) (h.2 i hi).2⟩
theorem dR {n i:Nat} {oi:Oper} {v:Value} {L:Array Bool→Act→Prop} (hi:ops[i]? =some oi) (hsel:∀(j:Nat) (o:Oper) cs b,ops[j]? =some o→o.op≠ .select cs b)
 (hs:Region.sinkB md ops n=true) (hc:Region.chainB md ops n=true) (hn:n<ops.size) (hin:i<n)
 (hdone:∀listed a,L listed a→∀j∈Region.ready md ops listed,n≤j):
 ∀(f:Nat) (listed:Array Bool) (a:Act),HeadInv md ops n listed→
  (∀j oj,ops[j]? =some oj→j≠i→listed.getD j true=false→(∀e∈oj.after,Region.binds md e=true→e.on≠i)→oi.apart ops oj=true)→
  i∈Region.ready md ops listed→YieldsIn P ops C oi v a→
  mU P md ops C n L f (listed.setIfInBounds i true) (a.put oi.dst v)→mU P md ops C n L (f+1) listed a
 |0,listed,a,inv,_,hr,hy,H=>by
  have hun:=(mem_ready.1 hr).1;refine ⟨fun e=>(by rw [e] at hr;cases hr),fun j hj=> ?_⟩;have hjn:j<n:=(Nat.lt_or_ge j n).elim id fun h=>absurd hj (tail_waits hs hc hn inv _ i rfl hin hun j h);refine ⟨hjn,?_⟩
  by_cases e:j=i
  ·subst e;exact hy.qOp hi H
  ·have:=hdone _ _ H j (ready_mono hj e);omega
 |f+1,listed,a,inv,hfree,hr,hy,H=>by
  have hun:=(mem_ready.1 hr).1;refine ⟨fun e=>(by rw [e] at hr;cases hr),fun j hj=> ?_⟩;have hjn:j<n:=(Nat.lt_or_ge j n).elim id fun h=>absurd hj (tail_waits hs hc hn inv _ i rfl hin hun j h);refine ⟨hjn,?_⟩
  by_cases e:j=i
  ·subst e;exact hy.qOp hi H
  obtain ⟨hjun,oj,hoj,hall⟩:=mem_ready.1 hj
  have hnot:∀e∈oj.after,Region.binds md e=true→e.on≠i:=fun e he hb heq=>by
   have:=hall e he hb
   rw [heq,getD_both hun] at this
   cases this
  have h2:=qOp_put hoj (hfree j oj hoj e hjun hnot) (fun cs b=>hsel i oi cs b hi) (fun cs b=>hsel j oj cs b hoj) hy (H.2 j (ready_mono hj e)).2;refine qOp_mono (fun a' h3=> ?_) h2;refine dR hi hsel hs hc hn hin hdone f _ a' (inv.set hj hjn) ?_ (ready_mono hr (Ne.symm e)) h3.1 ?_
  ·intro k ok hk hki hku hno;refine hfree k ok hk hki ?_ hno
   by_cases hjk:j=k
   ·subst hjk;exact hjun
   ·rwa [getD_set_ne true hjk] at hku
  ·rw [Array.setIfInBounds_comm _ _ e];exact h3.2
theorem pO {n g:Nat} {Lq:Act→Prop} (hsel:Region.noSelect ops=true) (hs:Region.sinkB md ops n=true) (hc:Region.chainB md ops n=true) (hn:n<ops.size):
 ∀(l:List Oper) (k:Nat) (listed:Array Bool) (a:Act),(∀j,j<l.length→l[j]? =ops[k+j]?)→k+l.length=n→HeadInv md ops n listed→
 Region.lexHead md ops g l.length k listed=true→wpQuiet P ops C Lq l a→
 mU P md ops C n (fun listed' a'=>Region.seqB md ops g n listed'=true∧Lq a') l.length listed a
 | [],k,listed,a,_,hk,_,hB,h=>by
  obtain rfl:k=n:=by simpa using hk
  exact ⟨by simpa [Region.lexHead] using hB,h⟩
 |o::l,k,listed,a,hl,hk,inv,hB,h=>by
  have h0:ops[k]? =some o:=by simpa using (hl 0 (by simp)).symm
  simp only [List.length_cons,Region.lexHead,Bool.and_eq_true] at hB;obtain ⟨⟨hr,hf⟩,hB'⟩:=hB
  have hkn:k<n:=by simp only [List.length_cons] at hk;omega
  have hr':k∈Region.ready md ops listed:=by simpa using hr
  have hst:qOp P ops C k (wpQuiet P ops C Lq l) a:=by unfold qOp;simp only [h0];exact h
  obtain ⟨v,hy,hK⟩:=yieldsIn_of_qOp h0 hst
  exact dR h0 (Region.noSelect_spec hsel) hs hc hn hkn (fun listed' a' hL=>seqB_ready hL.1) l.length listed a inv (Region.free_spec h0 hf) hr' hy
   (pO hsel hs hc hn l (k+1) _ _ (fun j hj=>by have:=hl (j+1) (by simp;omega);simpa [Nat.add_assoc,Nat.add_comm 1 j] using this) (by simp only [List.length_cons] at hk;omega) (inv.set hr' hkn) hB' hK)
theorem pZ {id:Nat} {Q:Exit→Act→World→Prop} {a:Act} {w:World} {l:List Oper} (n:Nat) (C:World→Prop) (hC:C w.drew) (hm:P.follows .mixedOrders=true) (hB:Region.lexTailB .any l.toArray n=true)
 (h:wpQuiet P l.toArray C (fun a'=>∀w',C w'→wpList P l.toArray Q (l.drop n) a' w') (l.take n) a):(Code.region id l.toArray true).wp P Q a w:=by
 simp only [Region.lexTailB,Bool.and_eq_true,decide_eq_true_eq] at hB;obtain ⟨⟨⟨⟨hsel,hn⟩,hs⟩,hc⟩,hlex⟩:=hB
 have hn':n<l.length:=by simpa using hn
 have htl:(l.take n).length=n:=by simp;omega
 have hdl:(l.drop n).length=l.toArray.size-n:=by simp
 have inv0:HeadInv .any l.toArray n (Array.replicate l.toArray.size false):=
  ⟨by simp,fun j oj _ hl=>(by rw [getD_replicate_false] at hl;cases hl),fun t _ ht=>getD_in (by simpa using ht) (getD_replicate_false _ _)⟩
 have H:=pO (md:= .any) (g:=l.toArray.size-n) hsel hs hc hn (l.take n) 0 _ a (fun j hj=>by
  have hj':j<n:=by rw [htl] at hj;exact hj
  simp [hj']) (by simpa using htl) inv0 (by rw [htl];exact hlex) h
 refine wp_region_any hm ?_
 have:=fY (Q':=Q) (g:=l.toArray.size-n) (fun listed a' w' hw' hL=>by
  have:=wpAny_of_seq (md:= .any) (Q':=Q) (l.drop n) n listed a' w' (fun j=>by simp [List.getElem?_drop]) (by rw [hdl];exact hL.1) (hL.2 w' hw')
  rwa [hdl] at this) _ _ _ _ hC H
 rw [htl,show n+(l.toArray.size-n)=l.toArray.size by omega] at this;exact this
theorem qX {id:Nat} {Q:Exit→Act→World→Prop} {a:Act} {w:World} {l:List Oper} (n:Nat) (hm:P.follows .mixedOrders=true) (hB:Region.lexTailB .any l.toArray n=true)
 (h:wpQuiet P l.toArray (fun w'=>∃k,w'=w.drewN k) (fun a'=>∀w',(∃k,w'=w.drewN k)→wpList P l.toArray Q (l.drop n) a' w') (l.take n) a):(Code.region id l.toArray true).wp P Q a w:=
 pZ n _ ⟨1,rfl⟩ hm hB h
end
end Go.Proofs.YtfcnkpofcekmgaaGreat
namespace Go.Proofs.YtfcnkpofcekmgaaGreat
open Go.RowKit
def DecR (b:List UInt8) (kind:Int) (l:List PC) (e:Int):Prop:=(y8 b kind l∧e=0)∨((∀k l',¬y8 b k l')∧kind=0∧l= []∧e=60)
theorem DecR.same {b:List UInt8} {k k':Int} {l l':List PC} {e e':Int} (h:DecR b k l e) (h':DecR b k' l' e'):k=k'∧l=l'∧e=e':=by
 rcases h with ⟨h1,rfl⟩|⟨h1,rfl,rfl,rfl⟩
 ·rcases h' with ⟨h2,rfl⟩|⟨h2,_⟩
  ·obtain ⟨a1,a2⟩:=kR h1;obtain ⟨b1,b2⟩:=kR h2;rw [a1] at b1;injection b1 with b1;exact ⟨a2.symm.trans b2,b1,rfl⟩
  ·exact absurd h1 (h2 _ _)
 ·rcases h' with ⟨h2,_⟩|⟨h2,rfl,rfl,rfl⟩
  ·exact absurd h2 (h1 _ _)
  ·exact ⟨rfl,rfl,rfl⟩
theorem zAP (p:Nat) (kind:Int) (P:Nat) (used:Int) (u:Value) (l:List CV) (w:World) (hblk:OBlk w p 144 [.int .i64 kind,.int .i64 (P:Int),.int .i64 used,u]) (hrd:RdCs w u l) (hk:zO kind=true) (hP1:512≤P) (hP:P≤65536) (hok:∀c∈pcs l,OkC P c) (hsz:zW (pcs l)≤P):
 Calls Tryz.prog 198 #[.pointer (some ⟨p,0,none⟩)] w fun e w'=>∃v,e= .returned v∧OwB w' w.heap.size v (yV kind (pcs l) P)∧Below w.heap.size w w':=by
 have hla:=fun nq=>o4 kind u l P hk hP1 hP (w.drewN nq) ⟨hrd.form,fun x hx=>⟨(hrd.ok x hx).k,(hrd.ok x hx).v,(hrd.ok x hx).r1,(hrd.ok x hx).r2,(hrd.ok x hx).r3⟩⟩ hok hsz;have HLA:=Lib.hid hla;obtain ⟨b0,b1,b2,b3⟩:=xP hblk;obtain ⟨A,c,rfl,_,_⟩:=hrd.slice;have hll:=kF (kind:=kind) hsz;have HLL:=Lib.hid hll;clear hla hok hrd hll;go_enter Tryz.func198,Tryz.ntmps198;go_upto_region 1 with (fail);refine qX 12 (by kernel_rfl) (by kernel_rfl) ?_;simp only [List.take_succ_cons,List.take_zero,List.drop_succ_cons,List.drop_zero]
 repeat (quiet_step (fail))
 refine wpQuiet_nil ?_;rintro _ ⟨nq,rfl⟩
 go_wp2_with (first
  |(go_at_call 131;refine (HLA.out nq).mono ?_;rintro e w1 ⟨g,rfl,hg,ho,hb⟩)
  |fail)
 go_ret;refine ⟨_,rfl,?_,(zK (Below.refl _ _) nq).trans hb⟩
 have:=ho.owB' (base:=w.heap.size) hg (by rw [HLL.out];simp only [maxLen];omega)
 rw [HLL.out] at this;exact this
def pgE (p:Nat) (kind:Int) (P:Nat) (used:Int) (u:Value) (l:List CV):Ent:=lM [z7 p 144 [.int .i64 kind,.int .i64 (P:Int),.int .i64 used,u],csE u l]
theorem zB0 {w0 w:World} {L:List Ent} {v:Value} {b:List UInt8} (h:Sep w0 w L) (hv:RdB w v b):
 Calls Tryz.prog 72 #[v] w fun e w'=>(∃(kind:Int) (l:List CV) (p:Nat) (u:Value),y8 b kind (pcs l)∧RngC l∧e= .returned (.tuple #[.pointer (some ⟨p,0,none⟩),.int .i64 0])∧Sep w0 w' (pgE p kind b.length (zW (pcs l):Nat) u l::L))∨
  ((∀kind l,¬y8 b kind l)∧e= .returned (.tuple #[.pointer none,.int .i64 60])∧Sep w0 w' L):=by
 have hd:=aW v b w hv;obtain ⟨A,c,rfl,hm⟩:=hv.form;have HS:=Lib.hid h;clear h;go_enter Tryz.func72,Tryz.ntmps72;go_wp2_with fail;refine hd.mono ?_;rintro e w1 ⟨hw1,⟨kind,l,u,hy,rfl,hO⟩|⟨hn,rfl⟩⟩
 ·obtain ⟨B,cc,rfl⟩:=Own.slice hO.own;have hsz:zW (pcs l)≤b.length:=(vS.1 hy.2.2.1).2;have hP:=(zZ hy.1).2;have hokc:∀c∈pcs l,OkC b.length c:=fun c hc=>xY (qE (vS.1 hy.2.2.1).1 c hc)
  have hn:(pcs l).length≤2000000000000:=by have:=yS (pcs l);omega
  have hS:=aB kind _ l w1 hO.rd (sX hokc (by omega) hn);have HY:=Lib.hid hy;have hS1:=Sep.pack (D:=zP 43 5 (.slice B l.length cc) l.length (zF l)::zG l) (HS.out.cells hw1 hO);have HO:=Lib.hid hO.rng;clear hsz hokc hn hd hy hO;go_wp2_with fail;refine hS.mono ?_;rintro e w2 ⟨rfl,hw2⟩;have hS2:=(hS1.below hw2).alloc 144 [.int .i64 kind,.int .i64 (b.length:Int),.int .i64 (zW (pcs l):Nat),.slice B l.length cc];clear hS1;go_wp2_with fail;go_ret2;exact .inl ⟨kind,l,_,_,HY.out,HO.out,rfl,Sep.pack (D:= [_,_]) hS2⟩
 ·have HN:=Lib.hid hn;have hS1:=HS.out.below hw1;clear hn hd;go_wp2_with fail;go_ret2;exact .inr ⟨HN.out,rfl,hS1⟩
def zHV:Ent:=⟨fun _=>False,fun _=>True,fun _ h=>h⟩
theorem Sep.pick {w0 w:World} {L R:List Ent} (idx:List Nat) (hn:idx.Nodup) (hl:idx.all (fun i=>Nat.blt i L.length)=true) (h:Sep w0 w (L++R)):Sep w0 w (idx.map (fun i=>L.getD i zHV)++R):=by
 have hlt:∀i∈idx,i<L.length:=fun i hi=>by
  have:=List.all_eq_true.1 hl i hi
  exact Nat.le_of_ble_eq_true this
 have hg:∀i (hi:i<L.length),L.getD i zHV=L[i]:=fun i hi=>by
  rw [List.getD_eq_getElem?_getD,List.getElem?_eq_getElem hi];rfl
 have ha:=List.pairwise_append.1 h.apart;have hp:=List.pairwise_iff_getElem.1 ha.1;refine ⟨h.same,fun E hE=> ?_,List.pairwise_append.2 ⟨?_,ha.2.1,fun a hA b hb=> ?_⟩⟩
 ·rcases List.mem_append.1 hE with hE|hE
  ·obtain ⟨i,hi,rfl⟩:=List.mem_map.1 hE;rw [hg i (hlt i hi)];exact h.each _ (List.mem_append_left _ (List.getElem_mem _))
  ·exact h.each E (List.mem_append_right _ hE)
 ·rw [List.pairwise_map];refine List.Pairwise.imp_of_mem (fun {i j} hi hj hij=> ?_) hn;rw [hg i (hlt i hi),hg j (hlt j hj)];rcases Nat.lt_or_ge i j with h1|h1
  ·exact hp i j (hlt i hi) (hlt j hj) h1
  ·intro g h2 h3;exact hp j i (hlt j hj) (hlt i hi) (by omega) g h3 h2
 ·obtain ⟨i,hi,rfl⟩:=List.mem_map.1 hA;rw [hg i (hlt i hi)];exact ha.2.2 _ (List.getElem_mem _) b hb
theorem bJ (l:List CV) (i gone:Nat) (y:CV):pcs (l.take i++y::l.drop (i+gone))=zX (pcs l) i gone y.c:=by
 unfold zX;rw [vJ,fM,←mC];rfl
section
variable {w0 w w':World} {L:List Ent} {u v:Value} {l:List CV} {y:CV} {i:Nat}
theorem l8 (h:Sep w0 w L) (x:CV) (hx:x.ok w) (h1:x.c.key.length≤140737488355328) (h2:x.c.val.length≤140737488355328):
 Calls Tryz.prog 207 #[zJ x] w fun e w'=>∃y:CV,e= .returned (zJ y)∧y.c=x.c∧Sep w0 w' (zB y.kv y.c.key::zB y.vv y.c.val::L):=by
 refine (zGH x w hx h1 h2).mono ?_;rintro e w' ⟨y,rfl,hc,hk,hv,ha,hb⟩;rw [←hc] at hk hv;refine ⟨y,rfl,hc,((h.below hb).cons (E:=zB y.vv y.c.val) (OwB.low hv (Nat.zero_le _)) (fun g hg=>(Own.lt hv g hg).2) (fun A hA g hg hAg=> ?_)).cons (E:=zB y.kv y.c.key) (OwB.low hk (Nat.zero_le _)) (fun g hg=>(Own.lt hk g hg).2) (fun A hA g hg hAg=> ?_)⟩
 ·have h3:=(h.each A hA).2 g hAg;have h4:=(Own.lt hv g hg).1;omega
 ·rcases List.mem_cons.1 hA with rfl|hA
  ·have:=ha g g hg hAg;omega
  ·have h3:=(h.each A hA).2 g hAg;have h4:=(Own.lt hk g hg).1;omega
end
theorem Sep.pgOpen {w0 w:World} {L:List Ent} {p P:Nat} {kind used:Int} {u:Value} {l:List CV} (h:Sep w0 w (pgE p kind P used u l::L)):
 Sep w0 w (z7 p 144 [.int .i64 kind,.int .i64 (P:Int),.int .i64 used,u]::zP 43 5 u l.length (zF l)::(zG l++L)):=by
 have h1:Sep w0 w (z7 p 144 [.int .i64 kind,.int .i64 (P:Int),.int .i64 used,u]::csE u l::L):=h.unpack;exact (Sep.unpack (D:=zP 43 5 u l.length (zF l)::zG l) h1.sw1).perm List.perm_middle
theorem Sep.pgShut {w0 w:World} {L:List Ent} {p P:Nat} {kind used:Int} {u:Value} {l:List CV} (h:Sep w0 w (z7 p 144 [.int .i64 kind,.int .i64 (P:Int),.int .i64 used,u]::csE u l::L)):Sep w0 w (pgE p kind P used u l::L):=Sep.pack (D:= [_,_]) h
theorem Sep.pgClose {w0 w:World} {L:List Ent} {p P:Nat} {kind used:Int} {u:Value} {l:List CV} (h:Sep w0 w (z7 p 144 [.int .i64 kind,.int .i64 (P:Int),.int .i64 used,u]::zP 43 5 u l.length (zF l)::(zG l++L))):Sep w0 w (pgE p kind P used u l::L):=
 Sep.pgShut ((Sep.pack (D:=zP 43 5 u l.length (zF l)::zG l) (h.perm (List.perm_middle (l₁:=zP 43 5 u l.length (zF l)::zG l)).symm)).sw1)
def eL (w0:World) (L:List Ent) (p P:Nat) (kind z:Int) (lp:List PC) (e:Ending) (w':World):Prop:=
 ∃u' l',e= .returned (.int .i64 z)∧pcs l'=lp∧RngC l'∧Sep w0 w' (pgE p kind P (zW (pcs l'):Nat) u' l'::L)
section
variable {w0 w:World} {L:List Ent} {r p P:Nat} {kind:Int} {u:Value} {l:List CV}
theorem Sep.pgAt (hS:Sep w0 w (pgE p kind P (zW (pcs l):Nat) u l::L)) (hr:RngC l):PgAt w p kind P (zW (pcs l):Nat) u l:=by
 have hS1:=hS.pgOpen;exact ⟨hS1.head,hS1.openRd (u:=u) (l:=l) (by simp) (fun E hE=>by simp [hE]) hr⟩
theorem zB9 (h:PgAt w p kind P (zW (pcs l):Nat) u l):Calls Tryz.prog 202 #[.pointer (some ⟨p,0,none⟩)] w fun e w'=>e= .returned (.int .i64 kind)∧w=w':=by
 obtain ⟨c0,c1,c2,c3⟩:=xP h.blk;go_enter Tryz.func202,Tryz.ntmps202;go_wp2_with fail;go_ret;exact ⟨rfl,rfl⟩
theorem zAH (hS:Sep w0 w (pgE p kind P (zW (pcs l):Nat) u l::L)) (hr:RngC l) (hk:Wk kind P (pcs l)) (hkd:zO kind=true) (hP1:512≤P) (hP:P≤65536):
 Calls Tryz.prog 198 #[.pointer (some ⟨p,0,none⟩)] w fun e w'=>∃v,e= .returned v∧Sep w0 w' (zB v (yV kind (pcs l) P)::pgE p kind P (zW (pcs l):Nat) u l::L):=by
 have h:=hS.pgAt hr;refine (zAP p kind P _ u l w h.blk h.rd hkd hP1 hP (fun c hc=>xY (hk.may c hc)) hk.size).mono ?_;rintro e w' ⟨v,rfl,ho,hb⟩;exact ⟨v,rfl,hS.bytes hb ho (Nat.le_refl _)⟩
end
theorem zFO {w0 w:World} {M:List Ent} {v:Value} {n:Nat} {xs:List Value} (h:Sep w0 w (zP 43 5 v n xs::M)):Own w 0 43 5 v n xs:=h.head
theorem oJ {w0 w:World} {L:List Ent} {p P:Nat} {kind:Int} {u:Value} {l:List CV} (hS:Sep w0 w (pgE p kind P (zW (pcs l):Nat) u l::L)) (hr:RngC l) (hk:Wk kind P (pcs l)) (hP:P≤65536) (x:CV) (hx:XIn L x) (i:Int) (hi64:yE i):
 Calls Tryz.prog 201 #[.pointer (some ⟨p,0,none⟩),.int .i64 i,zJ x] w (eL w0 L p P kind (vU kind P (pcs l) i 0 x.c) (gI kind P (pcs l) i 0 x.c)):=by
 have hlen:=hk.len hP;rw [zA] at hlen;have hsz:=hk.size;have hS0:=hS.pgOpen;have hS1:=hS0.alloc 43 [x.kv,.int .i64 x.c.kind,x.vv,.int .i64 x.c.page,.int .i64 x.c.count]
 have hxm:∀E∈L,E∈(z7 w.heap.size 43 [x.kv,.int .i64 x.c.kind,x.vv,.int .i64 x.c.page,.int .i64 x.c.count]::z7 p 144 [.int .i64 kind,.int .i64 (P:Int),.int .i64 (zW (pcs l):Nat),u]::zP 43 5 u l.length (zF l)::(zG l++L)):=fun E hE=>by simp [hE]
 have hx1:=hx.ok hS1 hxm;have hrd:=hS1.openRd (u:=u) (l:=l) (by simp) (fun E hE=>by simp [hE]) hr;obtain ⟨U,uc,rfl,hm,hc⟩:=hrd.slice;have hbp:OBlk _ p 144 [.int .i64 kind,.int .i64 (P:Int),.int .i64 (zW (pcs l):Nat),.slice U l.length uc]:=hS1.tail.head;obtain ⟨b0,b1,b2,b3⟩:=xP hbp
 by_cases hin:i<0∨(l.length:Int)<i
 ·have hz:vU kind P (pcs l) i 0 x.c=64:=nD (by rw [zA];omega);rw [hz];have HL2:Hid (pcs l=gI kind P (pcs l) i 0 x.c):=Lib.hid (by rw [fD (by rw [hz];omega)]);have hS2:=hS1.tail;clear hz hS1 hx1 hrd hbp hxm hS hS0;unfold zJ;rcases hin with h|h
  ·go_enter Tryz.func201,Tryz.ntmps201;go_wp2_with fail;go_ret;exact ⟨_,l,rfl,HL2.out,hr,hS2.pgClose⟩
  ·have h':¬i<0:=by omega
   go_enter Tryz.func201,Tryz.ntmps201;go_wp2_with fail;go_ret;exact ⟨_,l,rfl,HL2.out,hr,hS2.pgClose⟩
 ·obtain ⟨k,rfl⟩:∃k:Nat,i=(k:Int):=⟨i.toNat,by omega⟩
  have hkl:k≤l.length:=by omega
  have hz:vU kind P (pcs l) (k:Int) 0 x.c=bK kind P (pcs l) k 0 x.c:=lX (by rw [zA];omega);have hrf:=pQ (w:=w.alloc (.cells [x.kv,.int .i64 x.c.kind,x.vv,.int .i64 x.c.page,.int .i64 x.c.count].toArray 43)) ⟨hbp,hrd⟩ hP x hx1 (by have:=hx.s1;have:=hx.s2;omega) k k hkl hkl 0 (by omega) (by omega) (by omega) (by omega);rw [←zFH (by rw [zA];exact hkl),←hz] at hrf;have HL2:Hid (vU kind P (pcs l) (k:Int) 0 x.c≠0→pcs l=gI kind P (pcs l) (k:Int) 0 x.c):=Lib.hid (fun e=>by rw [fD e])
  have HL3:Hid (vU kind P (pcs l) (k:Int) 0 x.c=0→(∀y:CV,y.c=x.c→pcs (l.take k++y::l.drop k)=gI kind P (pcs l) (k:Int) 0 x.c)∧(∀y:CV,y.c=x.c→((zW (pcs (l.take k++y::l.drop k)):Nat):Int)=(zW (pcs l):Nat)+(2+(z9 x.c:Int)))∧z9 x.c≤65536):=Lib.hid (fun e=>by
   refine ⟨fun y hy=> ?_,fun y hy=> ?_,?_⟩
   ·rw [dF e]
    have:=bJ l k 0 y
    rw [Nat.add_zero,hy] at this;exact this
   ·have:=bJ l k 0 y
    rw [Nat.add_zero,hy] at this;rw [this,dP _ _ (by rw [zA];exact hkl)];omega
   ·exact cV (xY (dZ (by rw [←hz];exact e))) hP)
  generalize vU kind P (pcs l) (k:Int) 0 x.c=Z at*;generalize gI kind P (pcs l) (k:Int) 0 x.c=lp at*;have HZ0:∃s,Hid (zW (pcs l)=s)∧zW (pcs l)=s:=⟨_,Lib.hid rfl,rfl⟩;obtain ⟨sz,HSZ,hsz2⟩:=HZ0;simp only [hsz2] at hsz hS1 hrf hbp b2 HL3 hx1 hxm;clear hsz2;have hlo:∀W,x.ok W→Calls Tryz.prog 128 #[zJ x] W fun e w'=>e= .returned (.int .i64 (z9 x.c:Nat))∧Below W.heap.size W w':=fun W hW=>qV x W hW (by have:=hx.s1;have:=hx.s2;omega)
  have i1:¬(k:Int)<0:=by omega
  have i2:¬(l.length:Int)<(k:Int):=by omega
  clear hz hin hS hS0 hk hrd;obtain ⟨KA,ka,VA,va,key,ck,val,pg,ct,rfl,-,-⟩:=CV.form hx1;simp only at hx1 hS1 HL2 HL3 hxm hrf hlo⊢;unfold zJ at hrf hlo⊢;simp only at hrf hlo⊢;have HLO:=Lib.hid hlo;have HX:=Lib.hid hx;clear hlo hx;generalize z9 ⟨key,ck,val,pg,ct⟩=lo at*;go_enter Tryz.func201,Tryz.ntmps201
  go_upto_region 4 with (first
   |(go_at_call 208;(with_reducible refine hrf.mono ?_);rintro e w2 ⟨rfl,hw2⟩)
   |fail)
  have hS2:=hS1.below hw2;clear hrf hS1 hw2 hbp b0 b1 b2 b3 hx1
  by_cases hZ:Z=0
  ·subst hZ;have HL4:=Lib.hid (HL3.out rfl);have hlo6:=HL4.out.2.2;clear HL3 HL2;have hC2:OBlk w2 w.heap.size 43 [.slice KA key.length ka,.int .i64 ck,.slice VA val.length va,.int .i64 pg,.int .i64 ct]:=hS2.head;have hB2:OBlk w2 p 144 [.int .i64 kind,.int .i64 (P:Int),.int .i64 (sz:Int),.slice U l.length uc]:=hS2.tail.head;have hx2:=HX.out.ok hS2 (fun E hE=>by simp [hE]);have hpz:=hB2.lt;have hcz:=hC2.lt;obtain ⟨b0,b1,b2,b3⟩:=xP hB2;obtain ⟨c0,c1,c2,c3,c4⟩:=zC hC2;have f2:=hB2.frozen (j:=2) (by simp)
   have i2:IntKind.i64.wrap ((sz:Int)+((2:Int)+(lo:Int)))=(sz:Int)+((2:Int)+(lo:Int)):=by rw [IntKind.wrap_i64];omega
   have i3:IntKind.i64.wrap ((2:Int)+(lo:Int))=(2:Int)+(lo:Int):=by rw [IntKind.wrap_i64];omega
   go_upto_region 6 with (fail);obtain ⟨bx,hbx⟩:∃b,w.heap.size=b:=⟨_,rfl⟩;rw [hbx] at hS2 hC2 hcz c0 c1 c2 c3 c4⊢;clear hbx
   go_cut [] (fun wx=>Sep w0 wx (z7 p 144 [.int .i64 kind,.int .i64 (P:Int),.int .i64 ((sz:Int)+(2+(lo:Int))),.slice U l.length uc]::z7 bx 43 [.slice KA key.length ka,.int .i64 ck,.slice VA val.length va,.int .i64 pg,.int .i64 ct]::zP 43 5 (.slice U l.length uc) l.length (zF l)::(zG l++L)))
   case first=>
    go_region_law
     (first
      |(go_simp;go_at_call 128;refine (HLO.out _ (hx2.below ((Below.refl _ _).drew))).mono ?_;rintro e w3 ⟨rfl,hw3⟩;have hS3:=hS2.drew.below hw3;have hB3:=hB2.drew.below hw3 hpz;obtain ⟨d0,d1,d2,d3⟩:=xP hB3;have g2:=hB3.frozen (j:=2) (by simp))
      |fail)
    all_goals
     go_wp2_with fail;go_meet;exact hS3.sw1.setCell 2 (.int .i64 ((sz:Int)+(2+(lo:Int))))
   case rest=>
    have hS5:=hcut;clear hcut hS2 hC2 hB2 hx2 hpz hcz b0 b1 b2 b3 c0 c1 c2 c3 c4 f2 HLO;have hB5:OBlk wc p 144 [.int .i64 kind,.int .i64 (P:Int),.int .i64 ((sz:Int)+(2+(lo:Int))),.slice U l.length uc]:=hS5.head;have hC5:OBlk wc bx 43 [.slice KA key.length ka,.int .i64 ck,.slice VA val.length va,.int .i64 pg,.int .i64 ct]:=hS5.tail.head;obtain ⟨b0,b1,b2,b3⟩:=xP hB5;obtain ⟨c0,c1,c2,c3,c4⟩:=zC hC5;have f3:=hB5.frozen (j:=3) (by simp);have hx5:=HX.out.ok hS5.drew (fun E hE=>by simp [hE]);have hO:=l8 hS5.drew _ hx5 HX.out.s1 HX.out.s2;unfold zJ at hO;simp only at hO;clear hB5 hC5;go_upto_region 7 with (fail)
    go_region_law
     (first
      |(go_simp;go_at_call 207;refine hO.mono ?_;rintro e w6 ⟨⟨ykv,yvv,yc⟩,rfl,hyc,hS6⟩;simp only at hyc;subst hyc;obtain ⟨K2,kc,rfl⟩:=Own.slice (show OwB w6 0 ykv key from hS6.head);obtain ⟨V2,vc,rfl⟩:=Own.slice (show OwB w6 0 yvv val from hS6.tail.head);have hB6:OBlk w6 p 144 [.int .i64 kind,.int .i64 (P:Int),.int .i64 ((sz:Int)+(2+(lo:Int))),.slice U l.length uc]:=hS6.tail.tail.head;obtain ⟨d0,d1,d2,d3⟩:=xP (hB6.alloc (.cells #[.slice K2 key.length kc,.int .i64 ck,.slice V2 val.length vc,.int .i64 pg,.int .i64 ct] 43));obtain ⟨e0,e1,e2,e3⟩:=xP hB6;have hrd6:=hS6.openRd (u:= .slice U l.length uc) (l:=l) (by simp) (fun E hE=>by simp [hE]) hr;have hI:=pK (w:=w6) (u:= .slice U l.length uc) (l:=l) (hS6.of_mem (E:=zP 43 5 (.slice U l.length uc) l.length (zF l)) (by simp)) (vB hrd6.ok) ⟨.slice K2 key.length kc,.slice V2 val.length vc,⟨key,ck,val,pg,ct⟩⟩ (vC (show OwB w6 0 (.slice K2 key.length kc) key from hS6.head) (show OwB w6 0 (.slice V2 val.length vc) val from hS6.tail.head)) (by omega) k hkl;simp only at hI)
      |(go_simp;go_at_call 209;(with_reducible refine hI.mono ?_);rintro e w7 hI7;obtain ⟨v7,rfl,hS7⟩:=Sep.insAt (show Sep w0 w6 (zP 43 5 (.slice U l.length uc) l.length (zF l)::zB (.slice K2 key.length kc) key::zB (.slice V2 val.length vc) val::z7 p 144 [.int .i64 kind,.int .i64 (P:Int),.int .i64 ((sz:Int)+(2+(lo:Int))),.slice U l.length uc]::z7 bx 43 [.slice KA key.length ka,.int .i64 ck,.slice VA val.length va,.int .i64 pg,.int .i64 ct]::(zG l++L)) from Sep.sw4 hS6) hI7;obtain ⟨B7,c7,rfl⟩:=Own.slice (zFO hS7);have hlN:(l.take k++(⟨.slice K2 key.length kc,.slice V2 val.length vc,⟨key,ck,val,pg,ct⟩⟩:CV)::l.drop k).length=l.length+1:=(by simp only [List.length_append,List.length_cons,List.length_take,List.length_drop];omega);simp only [hlN] at hS7;have HLN:=Lib.hid hlN;clear hlN;have hB7:OBlk w7 p 144 [.int .i64 kind,.int .i64 (P:Int),.int .i64 ((sz:Int)+(2+(lo:Int))),.slice U l.length uc]:=hS7.tail.tail.tail.head;obtain ⟨x0,x1,x2,x3⟩:=xP hB7;have g3:=hB7.frozen (j:=3) (by simp))
      |fail)
    all_goals
     have hS8:=(Sep.sw3 hS7).setCell 3 (.slice B7 (l.length+1) c7);simp only [List.set_cons_succ,List.set_cons_zero] at hS8;have hS9:=Sep.csIns HLN.out (Sep.push3 (Sep.pick (L:= [_,_,_,_,_]) [2,3,1,0] (by decide) rfl hS8));have HS9:=Lib.hid (Sep.pgShut hS9.sw1);clear hS9 hS8 hS7 hS6 hI;go_wp2_with fail;go_ret;refine ⟨.slice B7 (l.length+1) c7,l.take k++(⟨.slice K2 key.length kc,.slice V2 val.length vc,⟨key,ck,val,pg,ct⟩⟩:CV)::l.drop k,rfl,HL4.out.1 _ rfl,hr.with_ (y:=⟨.slice K2 key.length kc,.slice V2 val.length vc,⟨key,ck,val,pg,ct⟩⟩) ⟨HX.out.r1,HX.out.r2,HX.out.r3⟩ _ _,?_⟩;have h9:=HS9.out;have e9:=HL4.out.2.1 (⟨.slice K2 key.length kc,.slice V2 val.length vc,⟨key,ck,val,pg,ct⟩⟩:CV) rfl;rw [←e9] at h9;rw [show k+(l.length-k+1)=l.length+1 by omega];exact h9
  ·have HZ:=Lib.hid hZ;go_wp2_with fail;go_ret;refine ⟨.slice U l.length uc,l,rfl,HL2.out HZ.out,hr,?_⟩;rw [HSZ.out];exact hS2.tail.pgClose
end Go.Proofs.YtfcnkpofcekmgaaGreat
