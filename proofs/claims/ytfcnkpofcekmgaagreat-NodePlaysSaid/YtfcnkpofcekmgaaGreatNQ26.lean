/- Texts joined. -/
import Derived.Test.YtfcnkpofcekmgaaGreatNQ25
set_option maxRecDepth 100000
set_option maxHeartbeats 64000000
namespace Go.Proofs.YtfcnkpofcekmgaaGreat
open Go.RowKit
theorem Own.cap_same {w:World} {b b' g n n' c c' size:Nat} {T:TypeId} {xs xs':List Value} (h:Own w b T size (.slice (some ⟨g,0,none⟩) n c) n xs) (h':Own w b' T size (.slice (some ⟨g,0,none⟩) n' c') n' xs') (hs:0<size):c=c':=by
 rcases h.2 with ⟨h,_⟩|⟨g1,c1,cs1,hv,_,hg,_,_,h3,_⟩
 ·cases h
 rcases h'.2 with ⟨h,_⟩|⟨g2,c2,cs2,hv',_,hg',_,_,h3',_⟩
 ·cases h
 injection hv with hA _ hc;injection hA with hA;injection hA with hA;injection hv' with hB _ hd;injection hB with hB;injection hB with hB;subst hA;subst hc;subst hB;subst hd;obtain ⟨_,rfl⟩:=hg.same hg';exact Nat.eq_of_mul_eq_mul_right hs (h3.symm.trans h3')
theorem Own.shorter {w w':World} {g n m c c' size:Nat} {T:TypeId} {xs ys:List Value} (hs:0<size) (he:Own w 0 T size (.slice (some ⟨g,0,none⟩) m c) m ys) (hx:Own w 0 T size (.slice (some ⟨g,0,none⟩) n c') n xs) (hx':Own w' 0 T size (.slice (some ⟨g,0,none⟩) n c') n xs)
 (hm:m≤n):Own w' 0 T size (.slice (some ⟨g,0,none⟩) m c) m ys:=by
 have hcc:=he.cap_same hx hs;subst hcc;rcases he.2 with ⟨h,_⟩|⟨g1,c1,cs1,hv,_,hg,a1,_,a3,a4⟩
 ·cases h
 rcases hx.2 with ⟨h,_⟩|⟨g2,c2,cs2,hv2,_,hg2,_,_,_,b4⟩
 ·cases h
 rcases hx'.2 with ⟨h,_⟩|⟨g3,c3,cs3,hv3,_,hg3,d1,d2,d3,d4⟩
 ·cases h
 injection hv with hA _ hc;injection hA with hA;injection hA with hA;subst hA;subst hc;injection hv2 with hA _ hc;injection hA with hA;injection hA with hA;subst hA;subst hc;injection hv3 with hA _ hc;injection hA with hA;injection hA with hA;subst hA;subst hc;obtain ⟨_,rfl⟩:=hg.same hg2;have hmn:m*size≤n*size:=Nat.mul_le_mul_right _ hm;refine ⟨he.1,.inr ⟨g,c,cs3,rfl,Nat.zero_le _,hg3,a1,d2,d3,?_⟩⟩
 have e1:cs3.take (m*size)=(cs3.take (n*size)).take (m*size):=by rw [List.take_take,Nat.min_eq_left hmn]
 have e2:cs1.take (m*size)=(cs1.take (n*size)).take (m*size):=by rw [List.take_take,Nat.min_eq_left hmn]
 rw [e1,d4,←b4,←e2,a4]
def OwQ (w:World) (u:Value) (n:Nat) (m:Int) (q:Nat):Prop:=∃xs,Own w 0 43 5 u n xs∧∀k,k<q→xs[k*5+1]? =some (.int .i64 m)
theorem OwQ.grown {w w':World} {u:Value} {n q:Nat} {m:Int} {row:Option Nat} (h:OwQ w u n m q) (hg:w.grownBy w' row) (hne:∀g,u.ownBlock=some g→some g≠row):OwQ w' u n m q:=by
 obtain ⟨xs,h1,h2⟩:=h;exact ⟨xs,h1.grown hg hne,h2⟩
theorem OwQ.lt {w:World} {u:Value} {n q:Nat} {m:Int} (h:OwQ w u n m q):∀k,u.ownBlock=some k→k<w.heap.size:=by
 obtain ⟨xs,h1,h2⟩:=h;exact fun k hk=>(h1.lt k hk).2
theorem OwQ.blkC {w:World} {u:Value} {n q:Nat} {m:Int} (h:OwQ w u n m q) {g:Nat} (hg:u.ownBlock=some g):∃cs,OBlk w g 43 cs:=by
 obtain ⟨xs,h1,_⟩:=h;exact h1.oblk hg
theorem OwQ.ne_T {w:World} {u:Value} {n q g:Nat} {m:Int} {T:TypeId} {cs:List Value} (h:OwQ w u n m q) (hg:OBlk w g T cs) (hT:43≠T):some g≠u.ownBlock:=fun e=>by
 obtain ⟨cs',h'⟩:=h.blkC e.symm;exact h'.ne hg hT rfl
theorem OwQ.ne_own {w:World} {u v:Value} {n q N b size:Nat} {m:Int} {T:TypeId} {xs:List Value} (h:OwQ w u n m q) (h':Own w b T size v N xs) (hT:43≠T):∀g,u.ownBlock=some g→some g≠v.ownBlock:=fun g hg e=>by
 obtain ⟨cs',h1⟩:=h.blkC hg;obtain ⟨cs2,h2⟩:=h'.oblk e.symm;exact h1.ne h2 hT rfl
theorem OwQ.set {w:World} {g n c q:Nat} {m:Int} (h:OwQ w (.slice (some ⟨g,0,none⟩) n c) n m q) (hq:q<n):
 OwQ (((((w.setCell ⟨g,q*5,none⟩ (.slice none 0 0)).setCell ⟨g,q*5+1,none⟩ (.int .i64 m)).setCell ⟨g,q*5+2,none⟩ (.slice none 0 0)).setCell ⟨g,q*5+3,none⟩ (.int .i64 0)).setCell ⟨g,q*5+4,none⟩ (.int .i64 0)) (.slice (some ⟨g,0,none⟩) n c) n m (q+1):=by
 obtain ⟨xs,h1,h2⟩:=h;refine ⟨_,((((h1.set (q*5) _).set (q*5+1) _).set (q*5+2) _).set (q*5+3) _).set (q*5+4) _,fun k hk=> ?_⟩;have hl:=h1.1
 by_cases e:k=q
 ·subst e;rw [List.getElem?_set_ne (by omega),List.getElem?_set_ne (by omega),List.getElem?_set_ne (by omega),List.getElem?_set_self (by rw [List.length_set];omega)]
 ·rw [List.getElem?_set_ne (by omega),List.getElem?_set_ne (by omega),List.getElem?_set_ne (by omega),List.getElem?_set_ne (by omega),List.getElem?_set_ne (by omega)];exact h2 k (by omega)
theorem OwQ.cells {w:World} {g n c q:Nat} {m:Int} {j r:Nat} (h:OwQ w (.slice (some ⟨g,0,none⟩) n c) n m q) (hj:j<n) (hr:r<5):(∃u,w.cell? ⟨g,j*5+r,none⟩=some u)∧w.frozen? ⟨g,j*5+r,none⟩=false:=by
 obtain ⟨xs,h1,_⟩:=h;have hl:=h1.1
 have hlt:j*5+r<xs.length:=by rw [hl];omega
 exact ⟨⟨_,h1.cells (j*5+r) _ (List.getElem?_eq_getElem hlt)⟩,h1.frozen hlt⟩
theorem OwQ.kind {w:World} {g n c q:Nat} {m:Int} {j:Nat} (h:OwQ w (.slice (some ⟨g,0,none⟩) n c) n m q) (hj:j<q):w.cell? ⟨g,j*5+1,none⟩=some (.int .i64 m):=by
 obtain ⟨xs,h1,h2⟩:=h;exact h1.cells (j*5+1) _ (h2 j hj)
def KOk (w:World) (x:Value) (n:Nat) (bx:Nat) (e:Value) (m b:Nat):Prop:=OwQ w e m (1000+(b:Int)) m∧(∀g,e.ownBlock=some g→x.ownBlock=some g→m≤n∧b=bx)
theorem KOk.step {w w':World} {n s:Nat} {x x' e:Value} {xs:List Value} {bx m b:Nat} (h:KOk w x n bx e m b) (hx:Own w 0 43 5 x n xs) (hx':Own w' 0 43 5 x n xs) (hg:w.grownBy w' x.ownBlock)
 (hb:x'.ownBlock=x.ownBlock∨x'.ownBlock=some s) (hs:w.heap.size≤s):KOk w' x' (n+1) bx e m b:=by
 obtain ⟨ho,hm⟩:=h
 have hnew:∀g,e.ownBlock=some g→x'.ownBlock=some g→m≤n+1∧b=bx:=by
  intro g he hxe;rcases hb with hb|hb
  ·rw [hb] at hxe
   have:=hm g he hxe
   exact ⟨by omega,this.2⟩
  ·rw [hb] at hxe;injection hxe with hxe
   have:=ho.lt g he;omega
 refine ⟨?_,hnew⟩
 by_cases hsame:∃g,e.ownBlock=some g∧x.ownBlock=some g
 ·obtain ⟨g,he,hxg⟩:=hsame;obtain ⟨hmn,rfl⟩:=hm g he hxg;obtain ⟨ys,ho,hmk⟩:=ho;rcases ho.form with ⟨rfl,_⟩|⟨g1,c1,rfl,_⟩
  ·cases he
  rcases hx.form with ⟨rfl,_⟩|⟨g2,c2,rfl,_⟩
  ·cases hxg
  simp [Value.ownBlock] at he hxg;subst he;subst hxg;exact ⟨ys,ho.shorter (by omega) hx hx' hmn,hmk⟩
 ·exact ho.grown hg (fun g he hr=>hsame ⟨g,he,hr.symm⟩)
theorem KOk.grown {w w':World} {n:Nat} {x e:Value} {bx m b:Nat} {row:Option Nat} (h:KOk w x n bx e m b) (hg:w.grownBy w' row) (hne:∀g,e.ownBlock=some g→some g≠row):KOk w' x n bx e m b:=
 ⟨h.1.grown hg hne,h.2⟩
theorem KOk.fresh {w:World} {n n':Nat} {x y e:Value} {bx by' m b:Nat} (h:KOk w x n bx e m b) (hne:∀g,e.ownBlock=some g→y.ownBlock≠some g):KOk w y n' by' e m b:=
 ⟨h.1,fun g he hy=>absurd hy (hne g he)⟩
structure InvK (F:Nat→Prop) (w:World) (s2:Nat) (vs:List Value) (f:Nat→Nat) (v:Value) (k q:Nat) (gr x:Value) (es:List Value) (wi:World):Prop where
 len:es.length=5*k+q
 own:Own wi s2 32 1 gr es.length es
 ox:OwQ wi x (f k+q) (1000+(k:Int)) (f k+q)
 hE:∀(j:Nat) (e:Value),es[j]? =some e→(∃m,KOk wi x (f k+q) k e m (j/5))∧∀(i:Nat) (u:Value),k<i→vs[i]? =some u→∀g,e.ownBlock=some g→u.ownBlock≠some g
 hk:∀(u:Value),vs[k]? =some u→KOk wi x (f k+q) k u (f k) k
 hx:∀(i:Nat) (u:Value),i≠k→vs[i]? =some u→∀g,x.ownBlock=some g→u.ownBlock≠some g
 hv:Own wi 0 32 1 v vs.length vs
 hl:∀(j:Nat) (u:Value),j≠k→vs[j]? =some u→OwQ wi u (f j) (1000+(j:Int)) (f j)
 hs:∀(j:Nat) (u:Value),vs[j]? =some u→∀g,u.ownBlock=some g→g<s2
 ht:Turn F w wi
 hxF:∀g,x.ownBlock=some g→F g∨w.heap.size≤g
 s2w:w.heap.size≤s2
 size:s2≤wi.heap.size
section
variable {F:Nat→Prop} {w wi w3 w4:World} {s2:Nat} {vs:List Value} {f:Nat→Nat} {v:Value} {k q:Nat} {gr x x3 gr4:Value} {es xs:List Value}
theorem InvK.step (h:InvK F w s2 vs f v k q gr x es wi) (hq:q<5) (hV:∀g,v.ownBlock=some g→g<s2)
 (hox:Own wi 0 43 5 x (f k+q) xs) (hmk:∀j,j<f k+q→xs[j*5+1]? =some (.int .i64 (1000+(k:Int))))
 (ho3:Own w3 0 43 5 x3 (f k+q+1) (xs++ [.slice none 0 0,.int .i64 (1000+(k:Int)),.slice none 0 0,.int .i64 0,.int .i64 0])) (hg3:wi.grownBy w3 x.ownBlock) (hb3:x3.ownBlock=x.ownBlock∨x3.ownBlock=some (wi.heap.size+1))
 (hk3:Own w3 0 43 5 x (f k+q) xs)
 (hgr4:Own w4 s2 32 1 gr4 (es.length+1) (es++ [x3])) (hg4:w3.grownBy w4 gr.ownBlock):InvK F w s2 vs f v k (q+1) gr4 x3 (es++ [x3]) w4:=by
 have hlen:=h.len
 have hTT:43≠32:=by decide
 have hgr3:Own w3 s2 32 1 gr es.length es:=h.own.grown hg3 (fun g hg e=>h.ox.ne_own h.own hTT g e.symm hg.symm)
 have ho3q:OwQ w3 x3 (f k+(q+1)) (1000+(k:Int)) (f k+(q+1)):=by
  refine ⟨_,ho3,fun j hj=> ?_⟩;have hl:=hox.1;rcases Nat.lt_or_ge j (f k+q) with h1|h1
  ·rw [List.getElem?_append_left (by omega)];exact hmk j h1
  ·have:j=f k+q:=by omega
   subst this;rw [List.getElem?_append_right (by omega),hl,Nat.add_sub_cancel_left];rfl
 have hsz:=h.ht.size;have s3:=hg3.size;have s4:=hg4.size;have hz:=h.size;have hne:∀{u:Value} {n q':Nat} {m:Int},OwQ w3 u n m q'→∀g,u.ownBlock=some g→some g≠gr.ownBlock:=fun hu=>hu.ne_own hgr3 hTT;have hv3:Own w3 0 32 1 v vs.length vs:=h.hv.grown hg3 (fun g hg e=>h.ox.ne_own h.hv hTT g e.symm hg.symm)
 have hxx:∀(i:Nat) (u:Value),i≠k→vs[i]? =some u→∀g,x3.ownBlock=some g→u.ownBlock≠some g:=by
  intro i u hi hu g hg hu';rcases hb3 with e|e
  ·exact h.hx i u hi hu g (e▸hg) hu'
  ·rw [e] at hg;injection hg with hg
   have:=h.hs i u hu g hu'
   omega
 refine ⟨by simp [hlen];omega,by simpa using hgr4,ho3q.grown hg4 (hne ho3q),?_,fun u hu=> ?_,hxx,?_,fun j u hj hu=> ?_,h.hs,?_,?_,h.s2w,by omega⟩
 ·intro j e hj;rcases Nat.lt_or_ge j es.length with hlt|hge
  ·rw [List.getElem?_append_left hlt] at hj;obtain ⟨⟨m,he⟩,hn⟩:=h.hE j e hj;have he3:=he.step hox hk3 hg3 hb3 (by omega);exact ⟨⟨m,he3.grown hg4 (hne he3.1)⟩,hn⟩
  ·rw [List.getElem?_append_right hge] at hj
   have hj0:j=es.length:=by
    have:=(List.getElem?_eq_some_iff.mp hj).1
    simp at this;omega
   subst hj0;simp at hj;subst hj
   have hd:es.length/5=k:=by rw [hlen];omega
   rw [hd];exact ⟨⟨_,ho3q.grown hg4 (hne ho3q),fun g _ _=>⟨Nat.le_refl _,rfl⟩⟩,fun i u hi hu=>hxx i u (by omega) hu⟩
 ·have he3:=(h.hk u hu).step hox hk3 hg3 hb3 (by omega);exact he3.grown hg4 (hne he3.1)
 ·refine hv3.grown hg4 (fun g hg he=> ?_);have h1:=hV g hg;have h2:=(hgr3.lt g he.symm).1;omega
 ·have h3:=(h.hl j u hj hu).grown hg3 (fun g hg he=>h.hx j u hj hu g he.symm hg);exact h3.grown hg4 (hne h3)
 ·refine (h.ht.grown hg3 (fun g hg=>h.hxF g hg)).grown hg4 (fun g hg=> ?_);have h1:=(hgr3.lt g hg).1;have h2:=h.s2w
  right;omega
 ·intro g hg;rcases hb3 with e|e
  ·exact h.hxF g (e▸hg)
  ·rw [e] at hg;injection hg with hg
   right;omega
end
theorem InvK.gr3 {F:Nat→Prop} {w wi:World} {s2:Nat} {vs:List Value} {f:Nat→Nat} {v:Value} {k q:Nat} {gr x:Value} {es:List Value} (h:InvK F w s2 vs f v k q gr x es wi):
 ∀w3,wi.grownBy w3 x.ownBlock→Own w3 s2 32 1 gr es.length es:=fun _ hg3=>h.own.grown hg3 (fun g hg e=>h.ox.ne_own h.own (by decide) g e.symm hg.symm)
theorem zGG:(Tryz.prog.info? 32).map (fun i=>(i.zero,i.size,i.bytes))=some (some (.slice none 0 0),1,24):=by kernel_rfl
section laws
variable {w:World} {ops:Array Oper} {rest:List Oper} {o:Oper} {a:Act} {Q:Exit→Act→World→Prop}
theorem mX (hgd:o.guard=none) (s x:Operand)
 (ho:o.op= .call {callee:= .builtin .append,args:= #[s,x],argTypes:= #[38,38]})
 (base:Nat) (v:Value) (vs:List Value) (hs:a.eval s=v) (hown:Own w base 32 1 v vs.length vs)
 (u:Value) (hu:u.oneCell'=true) (T:TypeId) (hx:a.eval x= .slice (some ⟨w.heap.size,0,none⟩) 1 1) (hsm:(vs.length+1)*24≤140737488355328) (hbase:base≤w.heap.size)
 (h:∀v' w',Own w' base 32 1 v' (vs.length+1) (vs++ [u])→w.grownBy w' v.ownBlock→(v'.ownBlock=v.ownBlock∨(v'.ownBlock=some (w.heap.size+1)))→wpList Tryz.prog ops Q rest (a.put o.dst v') w'):
 wpList Tryz.prog ops Q (o::rest) a (w.alloc (.cells #[u] T)):=by
 obtain ⟨i,hi,hz0,hz1,hz2⟩:=info_parts zGG
 refine gA hgd s x _ _ ho base 32 i _ 1 24 Tryz.underlying38 hi hz0 hz1 hz2 rfl v vs.length vs hs (hown.alloc _) (.slice (some ⟨w.heap.size,0,none⟩) 1 1) 1 [u] hx
  (Rd.src _ Tryz.underlying38 (by omega) (Rd.one w u T) (by simpa using hu)) (by omega) (by omega) (by simp;omega) ?_
 intro v' w' h1 h2 h3;refine h v' w' h1 ⟨h2.os,h2.tape,h2.output,?_,fun k hk hne=>(h2.block k (by simp;omega) hne).trans (Below.heap_alloc _ _ _ hk)⟩ (by simpa using h3)
 have:=h2.size
 simp at this;omega
theorem iG (hgd:o.guard=none) (s x:Operand)
 (ho:o.op= .call {callee:= .builtin .append,args:= #[s,x],argTypes:= #[32,32]})
 (v:Value) (n:Nat) (xs:List Value) (hs:a.eval s=v) (hown:Own w 0 43 5 v n xs)
 (m:Int) (T:TypeId) (hx:a.eval x= .slice (some ⟨w.heap.size,0,none⟩) 1 1) (hsm:(n+1)*72≤140737488355328)
 (h:∀v' w',Own w' 0 43 5 v' (n+1) (xs++ [.slice none 0 0,.int .i64 m,.slice none 0 0,.int .i64 0,.int .i64 0])→w.grownBy w' v.ownBlock→(v'.ownBlock=v.ownBlock∨(v'.ownBlock=some (w.heap.size+1)))→Own w' 0 43 5 v n xs→wpList Tryz.prog ops Q rest (a.put o.dst v') w'):
 wpList Tryz.prog ops Q (o::rest) a (w.alloc (.cells #[.slice none 0 0,.int .i64 m,.slice none 0 0,.int .i64 0,.int .i64 0] T)):=by
 obtain ⟨i,hi,hz0,hz1,hz2⟩:=info_parts vP
 refine f7 hgd s x _ _ ho 0 43 i _ 5 72 Tryz.underlying32 hi hz0 hz1 hz2 rfl v n xs hs (hown.alloc _) (.slice (some ⟨w.heap.size,0,none⟩) 1 1) 1 [.slice none 0 0,.int .i64 m,.slice none 0 0,.int .i64 0,.int .i64 0] hx
  (Rd.src _ Tryz.underlying32 (by omega) (Rd.five w _ _ _ _ _ T) (by intro u hu;simp only [List.mem_cons,List.not_mem_nil,or_false] at hu;rcases hu with rfl|rfl|rfl|rfl|rfl<;>rfl)) (by omega) (by omega) (Nat.zero_le _) ?_
 intro v' w' h1 h2 h3 h4;refine h v' w' h1 ⟨h2.os,h2.tape,h2.output,?_,fun k hk hne=>(h2.block k (by simp;omega) hne).trans (Below.heap_alloc _ _ _ hk)⟩ (by simpa using h3) h4
 have:=h2.size
 simp at this;omega
end laws
theorem OwQ.slice {w:World} {u:Value} {n q:Nat} {m:Int} (h:OwQ w u n m q):∃A c,u= .slice A n c:=by obtain ⟨xs,h1,_⟩:=h;exact h1.slice
theorem OwQ.some' {w:World} {B:Option Addr} {n c q:Nat} {m:Int} (h:OwQ w (.slice B n c) n m q) (h0:0<n):∃g,B=some ⟨g,0,none⟩:=by
 obtain ⟨xs,h1,_⟩:=h;rcases h1.form with ⟨_,h⟩|⟨g,c',h,_⟩
 ·omega
 ·injection h with h;exact ⟨g,h⟩
theorem Own.some' {w:World} {b n N c size:Nat} {T:TypeId} {B:Option Addr} {xs:List Value} (h:Own w b T size (.slice B n c) N xs) (h0:0<N):∃g,B=some ⟨g,0,none⟩:=by
 rcases h.form with ⟨_,h⟩|⟨g,c',h,_⟩
 ·omega
 ·injection h with h;exact ⟨g,h⟩
def MkL (w:World) (vs:List Value) (f:Nat→Nat) (k q:Nat):Prop:=∀(j:Nat) (u:Value),vs[j]? =some u→OwQ w u (f j) (1000+(j:Int)) (if j<k then f j else if j=k then q else 0)
theorem MkL.set {w w':World} {vs:List Value} {f:Nat→Nat} {k q g c n:Nat} (h:MkL w vs f k q) (ha:ApartL vs) (hk:vs[k]? =some (.slice (some ⟨g,0,none⟩) n c)) (hn:n=f k)
 (hg:w.grownBy w' (some g)) (hs:OwQ w' (.slice (some ⟨g,0,none⟩) n c) n (1000+(k:Int)) (q+1)):MkL w' vs f k (q+1):=by
 intro j u hj;have h0:=h j u hj
 by_cases e:j=k
 ·subst e;rw [hk] at hj;injection hj with hj;subst hj;rw [if_neg (by omega),if_pos rfl,←hn];exact hs
 ·rw [if_neg e] at h0⊢;exact h0.grown hg (fun g' hg'=>ha j k u _ e hj hk g' hg')
theorem MkL.next {w:World} {vs:List Value} {f:Nat→Nat} {k:Nat} (h:MkL w vs f k (f k)):MkL w vs f (k+1) 0:=fun j u hj=>by
 have h0:=h j u hj
 by_cases e:j=k
 ·subst e;rw [if_neg (by omega),if_pos rfl] at h0;rw [if_pos (by omega)];exact h0
 ·by_cases h1:j<k
  ·rw [if_pos h1] at h0;rw [if_pos (by omega)];exact h0
  ·rw [if_neg h1,if_neg e] at h0;rw [if_neg (by omega)]
   by_cases h2:j=k+1
   ·rw [if_pos h2];exact h0
   ·rw [if_neg h2];exact h0
theorem kY (v:Value) (b:List UInt8) (at_ wd:Nat) (X D:Int) (hX:X=(at_:Int)) (hD:D=(wd:Int)) (h1:1≤wd) (h4:wd≤4) (ha:at_+wd≤b.length) (w:World) (hv:RdB w v b):
 Calls Tryz.prog 108 #[v,.int .i64 X,.int .i64 D] w fun e w'=>e= .returned (.int .i64 (zL b at_ wd:Nat))∧w=w':=by
 subst hX hD
 have hn:qU ((b.drop at_).take wd)<4294967296:=by
  refine Nat.lt_of_lt_of_le (mG _) ?_
  calc 256^((b.drop at_).take wd).length≤256^4:=Nat.pow_le_pow_right (by omega) (by simp;omega)
   _=4294967296:=by decide
 have hl:=hv.le;have hr:=gN v b at_ wd h1 (by omega) ha w hv;unfold zL;obtain ⟨A,c,rfl,hm⟩:=hv.form;generalize qU ((b.drop at_).take wd)=q at*;go_enter Tryz.func108,Tryz.ntmps108;go_wp2_with fail;refine hr.mono ?_;rintro e w1 ⟨rfl,rfl⟩;go_wp2_with fail;go_ret;exact ⟨by go_num,rfl⟩
def zBP (w:World) (b:List UInt8) (at_:Nat) (e:Ending) (w':World):Prop:=
 Below w.heap.size w w'∧((vM b at_ b.length=none∧e= .returned (.tuple #[.agg #[.slice none 0 0,.int .i64 0,.slice none 0 0,.int .i64 0,.int .i64 0],.bool false]))∨
  ∃(x:CV) (tn:Nat),vM b at_ b.length=some (x.c,tn)∧e= .returned (.tuple #[zJ x,.bool true])∧OwB w' 0 x.kv x.c.key∧OwB w' 0 x.vv x.c.val∧yE x.c.kind∧yE x.c.page∧yE x.c.count∧Sep w w' [zB x.kv x.c.key,zB x.vv x.c.val,yK w])
theorem iR (v:Value) (b:List UInt8) (at_:Nat) (w:World) (hv:RdB w v b) (hb:b.length≤65536) (ha:at_≤131072):
 Calls Tryz.prog 109 #[v,.int .i64 (at_:Int)] w (zBP w b at_):=by
 obtain ⟨A,c,rfl,hm⟩:=hv.form;have hS0:=(Sep.start w).alloc 43 zeroC
 by_cases h1:b.length<at_+3
 ·have HP:Hid (vM b at_ b.length=none):=by show _=_;unfold vM;rw [if_pos h1]
  have i1:(b.length:Int)<(at_:Int)+3:=by omega
  obtain ⟨f0,f1,f2,f3,f4⟩:=xJ hS0.blk;obtain ⟨r0,r1,r2,r3,r4⟩:=zC hS0.blk;have HS1:=Lib.hid hS0;unfold zeroC at*;clear hS0;go_enter Tryz.func109,Tryz.ntmps109;go_wp2_with fail;obtain ⟨e0,e1,e2,e3,e4⟩:=zC HS1.out.blk;refine bodyPost_ret (v:= .tuple #[.agg #[.slice none 0 0,.int .i64 0,.slice none 0 0,.int .i64 0,.int .i64 0],.bool false]) ?_ rfl ?_
  ·simp [results,Tryz.results109,go_sem,e0,e1,e2,e3,e4]
  ·exact ⟨HS1.out.belowOld (_v:=w) (by simp),.inl ⟨HP.out,rfl⟩⟩
 ·have i1:¬(b.length:Int)<(at_:Int)+3:=by omega
  obtain ⟨kb,hkb⟩:∃kb,b[at_]? =some kb:=⟨_,List.getElem?_eq_getElem (by omega)⟩
  have hgd:b.getD at_ 0=kb:=by rw [List.getD,hkb];rfl
  obtain ⟨ad,rfl,hcb⟩:=(hS0.rd (v:=w) (by simp) hv).at_ (j:=at_) (by omega)
  have hcb':(w.alloc (.cells zeroC.toArray 43)).cell? (ad.add at_)=some (.int .u8 (kb.toNat:Int)):=by
   rw [hcb];rw [List.getElem?_eq_getElem (by omega)] at hkb;rw [Option.some.inj hkb]
  have j1:(at_:Int)<(b.length:Int):=by omega
  have j2:at_<b.length:=by omega
  have hkl:=kb.toNat_lt;have hn:=vO b (at_+1) 2
  have hcp:vM b at_ b.length=(if b.length<at_+3+(zL b (at_+1) 2)+2 then none
   else if ((kb.toNat:Nat):Int)≠1 then
    if b.length<at_+3+(zL b (at_+1) 2)+8 then none
    else some (⟨(b.drop (at_+3)).take (zL b (at_+1) 2),(kb.toNat:Nat),[],(zL b (at_+3+(zL b (at_+1) 2)) 4:Nat),(zL b (at_+3+(zL b (at_+1) 2)+4) 4:Nat)⟩,at_+3+(zL b (at_+1) 2)+8)
   else
    if b.length<at_+3+(zL b (at_+1) 2)+2+zL b (at_+3+(zL b (at_+1) 2)) 2 then none
    else some (⟨(b.drop (at_+3)).take (zL b (at_+1) 2),(kb.toNat:Nat),(b.drop (at_+3+(zL b (at_+1) 2)+2)).take (zL b (at_+3+(zL b (at_+1) 2)) 2),0,0⟩,at_+3+(zL b (at_+1) 2)+2+zL b (at_+3+(zL b (at_+1) 2)) 2)):=by
   rw [vM,if_neg h1,hgd]
  have hN1:=fun W hW=>kY (.slice (some ad) b.length c) b (at_+1) 2 ((at_:Int)+1) 2 rfl rfl (by omega) (by omega) (by omega) W hW;generalize zL b (at_+1) 2=n at*;have HCP:=Lib.hid hcp;have hS1:=hS0.alloc 43 [.slice none 0 0,.int .i64 (kb.toNat:Int),.slice none 0 0,.int .i64 0,.int .i64 0];rw [World.size_alloc] at hS1
  have hkw:IntKind.i64.wrap ((kb.toNat:Nat):Int)=((kb.toNat:Nat):Int):=by rw [IntKind.wrap_i64];omega
  unfold zeroC at*;clear hcp hcb hkb hgd hS0;go_enter Tryz.func109,Tryz.ntmps109;go_upto_region 4 with (fail);generalize (w.alloc (.cells #[.slice none 0 0,.int .i64 0,.slice none 0 0,.int .i64 0,.int .i64 0] 43)).alloc (.cells #[.slice none 0 0,.int .i64 (kb.toNat:Int),.slice none 0 0,.int .i64 0,.int .i64 0] 43)=w1 at*;have hN:=hN1 w1 (hS1.rd (v:=w) (by simp) hv);clear hN1 hcb';go_upto_region 6 with (first|(go_at_call 108;refine hN.mono ?_;rintro e w2 ⟨rfl,rfl⟩)|fail);clear hN
  by_cases h2:b.length<at_+3+n+2
  ·have HP:Hid (vM b at_ b.length=none):=by show _=_;rw [HCP.out,if_pos h2]
   have q2:(b.length:Int)<(at_:Int)+3+(n:Int)+2:=by omega
   have HS:=Lib.hid (hS1.sw1.set5 (.slice none 0 0) (.int .i64 0) (.slice none 0 0) (.int .i64 0) (.int .i64 0));obtain ⟨f0,f1,f2,f3,f4⟩:=xJ hS1.tail.blk;obtain ⟨r0,r1,r2,r3,r4⟩:=zC hS1.tail.blk;clear HCP hS1;go_wp2_with fail;obtain ⟨e0,e1,e2,e3,e4⟩:=zC HS.out.blk;refine bodyPost_ret (v:= .tuple #[.agg #[.slice none 0 0,.int .i64 0,.slice none 0 0,.int .i64 0,.int .i64 0],.bool false]) ?_ rfl ?_
   ·simp [results,Tryz.results109,go_sem,e0,e1,e2,e3,e4]
   ·exact ⟨HS.out.belowOld (_v:=w) (by simp),.inl ⟨HP.out,rfl⟩⟩
  ·have q2:¬(b.length:Int)<(at_:Int)+3+(n:Int)+2:=by omega
   have hcp:=HCP.out;rw [if_neg h2] at hcp;obtain ⟨A1,c1,hrun,hrd⟩:=(hS1.rd (v:=w) (by simp) hv).run_lh (at_+3) (at_+3+n) (by omega) (by omega);rw [show at_+3+n-(at_+3)=n by omega] at hrun hrd;rw [show ((at_+3:Nat):Int)=(at_:Int)+3 by omega,show ((at_+3+n:Nat):Int)=(at_:Int)+3+(n:Int) by omega] at hrun
   have e1:(b.take (at_+3+n)).drop (at_+3)=(b.drop (at_+3)).take n:=by rw [List.drop_take];congr 1;omega
   rw [e1] at hrd
   have hKL:((b.drop (at_+3)).take n).length=n:=by simp;omega
   have HKL:=Lib.hid hKL;clear e1;generalize (b.drop (at_+3)).take n=key at*;have HCP2:=Lib.hid hcp;obtain ⟨g0,g1,g2,g3,g4⟩:=xJ hS1.blk;obtain ⟨y0,y1,y2,y3,y4⟩:=zC hS1.blk
   have q3:IntKind.i64.wrap ((at_:Int)+3+(n:Int))=(at_:Int)+3+(n:Int):=by rw [IntKind.wrap_i64];omega
   have hrdw:RdB w1.drew (.slice A1 n c1) key:=hrd;clear HCP hcp hKL hrd;go_upto_region 8 with (fail)
   go_region_law
    (first
     |(refine dU (by rfl) (.tmp 36) (.tmp 42) (by rfl) 0 _ [] (by rfl) (OwB.nil _ _) _ key (by rfl) hrdw (by simp only [List.length_nil,HKL.out];omega) (Nat.zero_le _) ?_;intro v3 w3 ho3 hg3 hk3;have hS3:=hS1.drew.nil.appended ho3 hg3 hk3;rw [List.nil_append] at hS3 ho3;obtain ⟨V3,d3,rfl⟩:=Own.slice ho3;rw [HKL.out] at hS3;obtain ⟨z0,z1,z2,z3,z4⟩:=zC hS3.tail.blk;obtain ⟨u0,u1,u2,u3,u4⟩:=xJ hS3.tail.blk)
     |fail)
   all_goals
    rw [HKL.out];have hS4:=hS3.sw1.setCell 0 (.slice V3 n d3);simp only [List.set_cons_zero] at hS4;generalize w3.setCell ⟨w.heap.size+1,0,none⟩ (.slice V3 n d3)=w4 at*;clear hS3 hS1 ho3 hg3 hk3 z0 z1 z2 z3 z4 u0 u1 u2 u3 u4 g0 g1 g2 g3 g4 y0 y1 y2 y3 y4 hrun hrdw;obtain ⟨g0,g1,g2,g3,g4⟩:=xJ hS4.blk;obtain ⟨y0,y1,y2,y3,y4⟩:=zC hS4.blk;have hvw:=hS4.rd (v:=w) (by simp) hv;have hS4r:Sep w w4 (z7 w.heap.size 43 [.slice none 0 0,.int .i64 0,.slice none 0 0,.int .i64 0,.int .i64 0]:: [z7 (w.heap.size+1) 43 [.slice V3 n d3,.int .i64 (kb.toNat:Int),.slice none 0 0,.int .i64 0,.int .i64 0],zB (.slice V3 n d3) key,yK w]):=hS4.sw [_,_];obtain ⟨f0,f1,f2,f3,f4⟩:=xJ hS4r.blk;obtain ⟨r0,r1,r2,r3,r4⟩:=zC hS4r.blk
    by_cases hk1:((kb.toNat:Nat):Int)=1
    ·have hkb:(((kb.toNat:Nat):Int)==1)=true:=by simp [hk1]
     have hcp:=HCP2.out;rw [if_neg (by simp [hk1])] at hcp;have hN2:=kY (.slice (some ad) b.length c) b (at_+3+n) 2 ((at_:Int)+3+(n:Int)) 2 (by omega) rfl (by omega) (by omega) (by omega) w4 hvw;have hl2:=vO b (at_+3+n) 2;generalize zL b (at_+3+n) 2=m at*;have HK1:=Lib.hid hk1;have HCP3:=Lib.hid hcp;clear HCP2 hcp hk1;go_upto_region 13 with (first|(go_at_call 108;refine hN2.mono ?_;rintro e w5 ⟨rfl,rfl⟩)|fail);clear hN2
     by_cases h3:b.length<at_+3+n+2+m
     ·have HP:Hid (vM b at_ b.length=none):=by show _=_;rw [HCP3.out,if_pos h3]
      have q4:(b.length:Int)<(at_:Int)+3+(n:Int)+2+(m:Int):=by omega
      have HS:=Lib.hid (hS4r.set5 (.slice none 0 0) (.int .i64 0) (.slice none 0 0) (.int .i64 0) (.int .i64 0));clear HCP3 hS4 hS4r;go_wp2_with fail;obtain ⟨e0,e1,e2,e3,e4⟩:=zC HS.out.blk;refine bodyPost_ret (v:= .tuple #[.agg #[.slice none 0 0,.int .i64 0,.slice none 0 0,.int .i64 0,.int .i64 0],.bool false]) ?_ rfl ?_
      ·simp [results,Tryz.results109,go_sem,e0,e1,e2,e3,e4]
      ·exact ⟨HS.out.belowOld (_v:=w) (by simp),.inl ⟨HP.out,rfl⟩⟩
     ·have q4:¬(b.length:Int)<(at_:Int)+3+(n:Int)+2+(m:Int):=by omega
      have hcp:=HCP3.out;rw [if_neg h3] at hcp;obtain ⟨A5,c5,hrun,hrd⟩:=hvw.run_lh (at_+3+n+2) (at_+3+n+2+m) (by omega) (by omega);rw [show at_+3+n+2+m-(at_+3+n+2)=m by omega] at hrun hrd;rw [show ((at_+3+n+2:Nat):Int)=(at_:Int)+3+(n:Int)+2 by omega,show ((at_+3+n+2+m:Nat):Int)=(at_:Int)+3+(n:Int)+2+(m:Int) by omega] at hrun
      have e1:(b.take (at_+3+n+2+m)).drop (at_+3+n+2)=(b.drop (at_+3+n+2)).take m:=by rw [List.drop_take];congr 1;omega
      rw [e1] at hrd
      have hVL:((b.drop (at_+3+n+2)).take m).length=m:=by simp;omega
      have HVL:=Lib.hid hVL;clear e1;generalize (b.drop (at_+3+n+2)).take m=val at*;have HCP4:=Lib.hid hcp
      have q5:IntKind.i64.wrap ((at_:Int)+3+(n:Int)+2+(m:Int))=(at_:Int)+3+(n:Int)+2+(m:Int):=by rw [IntKind.wrap_i64];omega
      have hrdw:RdB w4.drew (.slice A5 m c5) val:=hrd;clear HCP3 hcp hVL hrd hS4r f0 f1 f2 f3 f4 r0 r1 r2 r3 r4;go_upto_region 15 with (fail)
      go_region_law
       (first
        |(refine dU (by rfl) (.tmp 64) (.tmp 70) (by rfl) 0 _ [] (by rfl) (OwB.nil _ _) _ val (by rfl) hrdw (by simp only [List.length_nil,HVL.out];omega) (Nat.zero_le _) ?_;intro v5 w5 ho5 hg5 hk5;have hS5:=hS4.drew.nil.appended ho5 hg5 hk5;rw [List.nil_append] at hS5 ho5;obtain ⟨V5,d5,rfl⟩:=Own.slice ho5;rw [HVL.out] at hS5;obtain ⟨z0,z1,z2,z3,z4⟩:=zC hS5.tail.blk;obtain ⟨u0,u1,u2,u3,u4⟩:=xJ hS5.tail.blk)
        |fail)
      all_goals
       rw [HVL.out];have hS6:=hS5.sw1.setCell 2 (.slice V5 m d5);simp only [List.set_cons_zero,List.set_cons_succ] at hS6;generalize w5.setCell ⟨w.heap.size+1,2,none⟩ (.slice V5 m d5)=w6 at*;clear hS5 hS4 ho5 hg5 hk5 z0 z1 z2 z3 z4 u0 u1 u2 u3 u4 g0 g1 g2 g3 g4 y0 y1 y2 y3 y4 hrun hrdw;obtain ⟨y0,y1,y2,y3,y4⟩:=zC hS6.blk;have hS6r:Sep w w6 (z7 w.heap.size 43 [.slice none 0 0,.int .i64 0,.slice none 0 0,.int .i64 0,.int .i64 0]:: [z7 (w.heap.size+1) 43 [.slice V3 n d3,.int .i64 (kb.toNat:Int),.slice V5 m d5,.int .i64 0,.int .i64 0],zB (.slice V5 m d5) val,zB (.slice V3 n d3) key,yK w]):=hS6.sw [_,_,_];obtain ⟨f0,f1,f2,f3,f4⟩:=xJ hS6r.blk;obtain ⟨r0,r1,r2,r3,r4⟩:=zC hS6r.blk;have HS:=Lib.hid (hS6r.set5 (.slice V3 n d3) (.int .i64 (kb.toNat:Int)) (.slice V5 m d5) (.int .i64 0) (.int .i64 0));clear hS6 hS6r;go_wp2_with fail;obtain ⟨e0,e1,e2,e3,e4⟩:=zC HS.out.blk;refine bodyPost_ret (v:= .tuple #[.agg #[.slice V3 n d3,.int .i64 (kb.toNat:Int),.slice V5 m d5,.int .i64 0,.int .i64 0],.bool true]) ?_ rfl ?_
       ·simp [results,Tryz.results109,go_sem,e0,e1,e2,e3,e4]
       ·refine ⟨HS.out.belowOld (_v:=w) (by simp),.inr ⟨⟨.slice V3 n d3,.slice V5 m d5,⟨key,kb.toNat,val,0,0⟩⟩,_,HCP4.out,rfl,HS.out.of_mem (E:=zB (.slice V3 n d3) key) (by simp),HS.out.of_mem (E:=zB (.slice V5 m d5) val) (by simp),?_,?_,?_,HS.out.tail.tail.sw1⟩⟩<;>(show _≤_∧_≤_;simp only;omega)
    ·have hkb:(((kb.toNat:Nat):Int)==1)=false:=beq_eq_false_iff_ne.2 hk1;have hcp:=HCP2.out;rw [if_pos hk1] at hcp;clear hk1
     by_cases h3:b.length<at_+3+n+8
     ·have HP:Hid (vM b at_ b.length=none):=by show _=_;rw [hcp,if_pos h3]
      have q4:(b.length:Int)<(at_:Int)+3+(n:Int)+8:=by omega
      have HS:=Lib.hid (hS4r.set5 (.slice none 0 0) (.int .i64 0) (.slice none 0 0) (.int .i64 0) (.int .i64 0));clear HCP2 hcp hS4 hS4r;go_wp2_with fail;obtain ⟨e0,e1,e2,e3,e4⟩:=zC HS.out.blk;refine bodyPost_ret (v:= .tuple #[.agg #[.slice none 0 0,.int .i64 0,.slice none 0 0,.int .i64 0,.int .i64 0],.bool false]) ?_ rfl ?_
      ·simp [results,Tryz.results109,go_sem,e0,e1,e2,e3,e4]
      ·exact ⟨HS.out.belowOld (_v:=w) (by simp),.inl ⟨HP.out,rfl⟩⟩
     ·have q4:¬(b.length:Int)<(at_:Int)+3+(n:Int)+8:=by omega
      rw [if_neg h3] at hcp;have hN2:=kY (.slice (some ad) b.length c) b (at_+3+n) 4 ((at_:Int)+3+(n:Int)) 4 (by omega) rfl (by omega) (by omega) (by omega) w4 hvw;have hN3:=fun W hW=>kY (.slice (some ad) b.length c) b (at_+3+n+4) 4 ((at_:Int)+3+(n:Int)+4) 4 (by omega) rfl (by omega) (by omega) (by omega) W hW;have hl2:=vO b (at_+3+n) 4;have hl3:=vO b (at_+3+n+4) 4;generalize zL b (at_+3+n) 4=pn at*;generalize zL b (at_+3+n+4) 4=cn at*;have HCP3:=Lib.hid hcp;have HN3:=Lib.hid hN3;clear HCP2 hcp hS4r f0 f1 f2 f3 f4 r0 r1 r2 r3 r4 hN3;go_upto_region 20 with (first|(go_at_call 108;refine hN2.mono ?_;rintro e w5 ⟨rfl,rfl⟩)|fail);have hS5:=hS4.setCell 3 (.int .i64 (pn:Int));simp only [List.set_cons_zero,List.set_cons_succ] at hS5;generalize w4.setCell ⟨w.heap.size+1,3,none⟩ (.int .i64 (pn:Int))=w5 at*;clear hS4 hN2 hvw g0 g1 g2 g3 g4 y0 y1 y2 y3 y4;have hN:=HN3.out w5 (hS5.rd (v:=w) (by simp) hv);obtain ⟨g0,g1,g2,g3,g4⟩:=xJ hS5.blk;obtain ⟨y0,y1,y2,y3,y4⟩:=zC hS5.blk;go_upto_region 21 with (first|(go_at_call 108;refine hN.mono ?_;rintro e w6 ⟨rfl,rfl⟩)|fail);have hS6:=hS5.setCell 4 (.int .i64 (cn:Int));simp only [List.set_cons_zero,List.set_cons_succ] at hS6;generalize w5.setCell ⟨w.heap.size+1,4,none⟩ (.int .i64 (cn:Int))=w6 at*;clear hS5 hN g0 g1 g2 g3 g4 y0 y1 y2 y3 y4;obtain ⟨y0,y1,y2,y3,y4⟩:=zC hS6.blk
      have hS6r:Sep w w6 (z7 w.heap.size 43 [.slice none 0 0,.int .i64 0,.slice none 0 0,.int .i64 0,.int .i64 0]:: [z7 (w.heap.size+1) 43 [.slice V3 n d3,.int .i64 (kb.toNat:Int),.slice none 0 0,.int .i64 (pn:Int),.int .i64 (cn:Int)],zB (.slice V3 n d3) key,yK w]):=hS6.sw [_,_];obtain ⟨f0,f1,f2,f3,f4⟩:=xJ hS6r.blk;obtain ⟨r0,r1,r2,r3,r4⟩:=zC hS6r.blk;have HS:=Lib.hid (hS6r.set5 (.slice V3 n d3) (.int .i64 (kb.toNat:Int)) (.slice none 0 0) (.int .i64 (pn:Int)) (.int .i64 (cn:Int)));clear hS6 hS6r;go_wp2_with fail;obtain ⟨e0,e1,e2,e3,e4⟩:=zC HS.out.blk;refine bodyPost_ret (v:= .tuple #[.agg #[.slice V3 n d3,.int .i64 (kb.toNat:Int),.slice none 0 0,.int .i64 (pn:Int),.int .i64 (cn:Int)],.bool true]) ?_ rfl ?_
      ·simp [results,Tryz.results109,go_sem,e0,e1,e2,e3,e4]
      ·refine ⟨HS.out.belowOld (_v:=w) (by simp),.inr ⟨⟨.slice V3 n d3,.slice none 0 0,⟨key,kb.toNat,[],pn,cn⟩⟩,_,HCP3.out,rfl,HS.out.of_mem (E:=zB (.slice V3 n d3) key) (by simp),OwB.nil _ _,?_,?_,?_,HS.out.tail.tail.nil.sw1⟩⟩<;>(show _≤_∧_≤_;simp only;omega)
end Go.Proofs.YtfcnkpofcekmgaaGreat
namespace Go.Proofs.YtfcnkpofcekmgaaGreat
def xX (b:List UInt8):Nat→Option (List PC)
 |0=>some []
 |k+1=>match xX b k with
  |none=>none
  |some l=>if b.length<4+2*k+2 then none else match vM b (zL b (4+2*k) 2) b.length with
   |none=>none
   |some (c,_)=>some (l++ [c])
theorem gJ {b:List UInt8} {k:Nat} (h:xX b k=none):∀m,k≤m→xX b m=none
 |0,hm=>by
  obtain rfl:k=0:=by omega
  exact h
 |m+1,hm=>by
  by_cases e:k=m+1
  ·subst e;exact h
  ·rw [xX,gJ h m (by omega)]
theorem aA {l:List PC} {k:Nat} (h:k<l.length):zM (l.take (k+1))=zM (l.take k)+z9 l[k]∧zM (l.take (k+1))≤zM l:=by
 have e1:l.take (k+1)=l.take k++ [l[k]]:=List.take_succ_eq_append_getElem h
 have e2:zM (l.take (k+1))=zM (l.take k)+z9 l[k]:=by
  rw [←xQ,←xQ,e1,k7,List.length_append];simp [yW,kH]
 have e3:zM l=zM (l.take (k+1))+zM (l.drop (k+1)):=by
  rw [←xQ,←xQ,←xQ,←List.length_append,←k7,List.take_append_drop]
 exact ⟨e2,by omega⟩
theorem zCH {kind:Int} {l:List PC} {P:Nat} (hP:P≤65536) (h:kK kind l P=0) {k:Nat} (hk:k<l.length):
 4+2*k+2≤P∧zL (yV kind l P) (4+2*k) 2=atF l P+zM (l.take k)∧∃t,vM (yV kind l P) (atF l P+zM (l.take k)) P=some (l[k],t):=by
 obtain ⟨h1,h2⟩:=vS.1 h;have hok:∀c∈l,OkC P c:=fun c hc=>xY (qE h1 c hc);have hs:=yS l;obtain ⟨ht1,ht2⟩:=aA hk
 have htk:(l.take k).length=k:=by rw [List.length_take];omega
 have hd:l.drop k=l[k]::l.drop (k+1):=List.drop_eq_getElem_cons hk;have hB:yV kind l P=kC kind l.length++(yN (atF l P) l++(List.replicate (P-4-zM l-4-2*l.length) 0++yW l))++zI (jQ (kO kind l P)) 4:=rfl
 have hsl:yN (atF l P) l=yN (atF l P) (l.take k)++(zI (atF l P+zM (l.take k)) 2++yN (atF l P+zM (l.take k)+z9 l[k]) (l.drop (k+1))):=by
  have e:yN (atF l P) (l.take k++l.drop k)=yN (atF l P) (l.take k)++yN (atF l P+zM (l.take k)) (l.drop k):=bH _ _ _;rw [List.take_append_drop] at e;rw [e,hd];rfl
 have hbl:yW l=yW (l.take k)++(jR l[k]++yW (l.drop (k+1))):=by
  have e:yW (l.take k++l.drop k)=yW (l.take k)++yW (l.drop k):=k7 _ _;rw [List.take_append_drop] at e;rw [e,hd];rfl
 have hat:atF l P=P-4-zM l:=rfl;refine ⟨by omega,?_,?_⟩
 ·refine jF (pre:=kC kind l.length++yN (atF l P) (l.take k)) (rest:=yN (atF l P+zM (l.take k)+z9 l[k]) (l.drop (k+1))++(List.replicate (P-4-zM l-4-2*l.length) 0++yW l)++zI (jQ (kO kind l P)) 4) ?_ ?_ ?_
  ·rw [hB,hsl];simp only [List.append_assoc]
  ·rw [List.length_append,jD,x5,htk]
  ·have:=dK l[k]
   show _<65536
   omega
 ·refine ⟨_,wG (P:=P) (pre:=kC kind l.length++(yN (atF l P) l++(List.replicate (P-4-zM l-4-2*l.length) 0++yW (l.take k)))) (rest:=yW (l.drop (k+1))++zI (jQ (kO kind l P)) 4) (hok _ (List.getElem_mem hk)) hP ?_ ?_ ?_⟩
  ·rw [hB,hbl];simp only [List.append_assoc]
  ·simp only [List.length_append,jD,x5,List.length_replicate,xQ];omega
  ·omega
theorem fO {kind:Int} {l:List PC} {P:Nat} (hP:P≤65536) (h:kK kind l P=0):∀k,k≤l.length→xX (yV kind l P) k=some (l.take k)
 |0,_=>rfl
 |k+1,hk=>by
  obtain ⟨h1,h2,t,h3⟩:=zCH hP h (show k<l.length by omega);have hL:(yV kind l P).length=P:=kF (vS.1 h).2;rw [xX,fO hP h k (by omega)];simp only [hL];rw [if_neg (by omega),h2,h3];simp only;rw [List.take_succ_eq_append_getElem (by omega)]
theorem uT {kind:Int} {l:List PC} {P:Nat} (hP:P≤65536) (h:kK kind l P=0):zL (yV kind l P) 2 2=l.length:=by
 obtain ⟨h1,h2⟩:=vS.1 h;have hs:=yS l;refine jF (pre:= [UInt8.ofNat kind.toNat,1]) (rest:=(yN (atF l P) l++(List.replicate (P-4-zM l-4-2*l.length) 0++yW l))++zI (jQ (kO kind l P)) 4) ?_ rfl (by show _<65536;omega)
 show kC kind l.length++(yN (atF l P) l++(List.replicate (P-4-zM l-4-2*l.length) 0++yW l))++zI (jQ (kO kind l P)) 4=_
 simp [kC]
theorem aT {b:List UInt8} {kind:Int} {l:List PC} (h:y8 b kind l):xX b (zL b 2 2)=some l∧vD b=kind:=by
 have h5:=(kR h).2;obtain ⟨h1,h2,h3,h4⟩:=h;have hP:=(zZ h1).2;have e1:=uT (kind:=kind) (l:=l) (P:=b.length) (by omega) h3;have e2:=fO (kind:=kind) (l:=l) (P:=b.length) (by omega) h3 l.length (Nat.le_refl _);rw [h4] at e1 e2;rw [e1,e2,List.take_length];exact ⟨rfl,h5⟩
end Go.Proofs.YtfcnkpofcekmgaaGreat
